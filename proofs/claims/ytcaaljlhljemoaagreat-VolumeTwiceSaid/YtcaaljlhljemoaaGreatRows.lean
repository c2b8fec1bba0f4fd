/-
  No cell of these rows narrows 'for every input' (looked for: loops, veiled, ifaces, maps, wideKeys, modest, calm, conditions, laid).
  DERIVED. THE GIVEN ROWS OF THIS SEAT. 6 by the template 'for every input the law returns true; each argument reads behind the call as it read before'; 0 by the template 'total and deterministic' (their statements: YtcaaljlhljemoaaGreatTotals.lean).
  GIVEN WITH THE SEED: the statements are not yours to turn. If you find one false, say at which input.
  Laid BY PROGRAM, IN A SANDBOX (cutbox-rows.mjs): the forced cells as the released guide's own fill.sh prints them over the translation 4bf630568eb287ad… (all of the seat's roots in one cut). By AI agents, Wed Nov 11 2026. No macro, syntax, notation, axiom, sorry.
-/
import Derived.Test.YtcaaljlhljemoaaGreatChecked
import GoSem.Claim
import GoSem.ClaimJoined
import GoSem.ClaimMapViews
import Derived.JoinedTies
import Derived.KernelRfl
namespace Go.Proofs.YtcaaljlhljemoaaGreat
/- THE CELL 'sum', in the pinned program and in every row, IS THE sha256 OF THE DUMP (.gsa) THAT YtcaaljlhljemoaaGreatProg.lean LOADS. Nothing in Lean hashes anything: it is a label: what it is worth is what the hold of that sum in a sandbox is worth. -/
noncomputable def Tryz.pinned : Pinned := { name := "ytcaaljlhljemoaagreat", sum := "4bf630568eb287adcffa05f8d21ed3b566188506d1646866770cded1bcdd969e", checked := Tryz.checked }
namespace Rows
def none {H : Type} : Left H := { results := [], args := [] }

/-- 'moatlaw15.VolumeZero': WHATEVER THE INPUT: true; the input reads as it did. -/
def volumeZeroSpec : ChangeSpec := { name := "volumeZero", fn := fun _ => fun
  | [d1, d2] => { results := [.lit (.bool true)], args := [d1, d2] }
  | _ => none }
def volumeZeroRow : OpenClaim := { program := "ytcaaljlhljemoaagreat", sum := "4bf630568eb287adcffa05f8d21ed3b566188506d1646866770cded1bcdd969e", func := "moat/moatlaw15.VolumeZero", spec := "volumeZero", unfollowed := true, recurses := true, apart := false }
def VolumeZeroSaid : Prop := volumeZeroRow.holds Tryz.pinned (OpenSpec.ofChange volumeZeroSpec)

/-- ITS FALSE NEIGHBOUR: 'it returns false'. Refute it at one input. -/
def volumeZeroWrong : ChangeSpec := { name := "volumeZero", fn := fun _ => fun
  | [d1, d2] => { results := [.lit (.bool false)], args := [d1, d2] }
  | _ => none }
def VolumeZeroWrongFalsely : Prop := volumeZeroRow.holds Tryz.pinned (OpenSpec.ofChange volumeZeroWrong)

/-- 'moatlaw15.VolumeOrder': WHATEVER THE INPUT: true; the input reads as it did. -/
def volumeOrderSpec : ChangeSpec := { name := "volumeOrder", fn := fun _ => fun
  | [d] => { results := [.lit (.bool true)], args := [d] }
  | _ => none }
def volumeOrderRow : OpenClaim := { program := "ytcaaljlhljemoaagreat", sum := "4bf630568eb287adcffa05f8d21ed3b566188506d1646866770cded1bcdd969e", func := "moat/moatlaw15.VolumeOrder", spec := "volumeOrder", inPlace := ["maps.clone"], unfollowed := true, recurses := true, apart := false }
def VolumeOrderSaid : Prop := volumeOrderRow.holds Tryz.pinned (OpenSpec.ofChange volumeOrderSpec)

/-- ITS FALSE NEIGHBOUR: 'it returns false'. Refute it at one input. -/
def volumeOrderWrong : ChangeSpec := { name := "volumeOrder", fn := fun _ => fun
  | [d] => { results := [.lit (.bool false)], args := [d] }
  | _ => none }
def VolumeOrderWrongFalsely : Prop := volumeOrderRow.holds Tryz.pinned (OpenSpec.ofChange volumeOrderWrong)

/-- 'moatlaw15.VolumeTwice': WHATEVER THE INPUT: true; the input reads as it did. -/
def volumeTwiceSpec : ChangeSpec := { name := "volumeTwice", fn := fun _ => fun
  | [d] => { results := [.lit (.bool true)], args := [d] }
  | _ => none }
def volumeTwiceRow : OpenClaim := { program := "ytcaaljlhljemoaagreat", sum := "4bf630568eb287adcffa05f8d21ed3b566188506d1646866770cded1bcdd969e", func := "moat/moatlaw15.VolumeTwice", spec := "volumeTwice", inPlace := ["maps.clone"], unfollowed := true, recurses := true, apart := false }
def VolumeTwiceSaid : Prop := volumeTwiceRow.holds Tryz.pinned (OpenSpec.ofChange volumeTwiceSpec)

/-- ITS FALSE NEIGHBOUR: 'it returns false'. Refute it at one input. -/
def volumeTwiceWrong : ChangeSpec := { name := "volumeTwice", fn := fun _ => fun
  | [d] => { results := [.lit (.bool false)], args := [d] }
  | _ => none }
def VolumeTwiceWrongFalsely : Prop := volumeTwiceRow.holds Tryz.pinned (OpenSpec.ofChange volumeTwiceWrong)

/-- 'moatlaw15.VolumePlays': WHATEVER THE INPUT: true; the input reads as it did. -/
def volumePlaysSpec : ChangeSpec := { name := "volumePlays", fn := fun _ => fun
  | [d] => { results := [.lit (.bool true)], args := [d] }
  | _ => none }
def volumePlaysRow : OpenClaim := { program := "ytcaaljlhljemoaagreat", sum := "4bf630568eb287adcffa05f8d21ed3b566188506d1646866770cded1bcdd969e", func := "moat/moatlaw15.VolumePlays", spec := "volumePlays", inPlace := ["maps.clone"], unfollowed := true, recurses := true, apart := false }
def VolumePlaysSaid : Prop := volumePlaysRow.holds Tryz.pinned (OpenSpec.ofChange volumePlaysSpec)

/-- ITS FALSE NEIGHBOUR: 'it returns false'. Refute it at one input. -/
def volumePlaysWrong : ChangeSpec := { name := "volumePlays", fn := fun _ => fun
  | [d] => { results := [.lit (.bool false)], args := [d] }
  | _ => none }
def VolumePlaysWrongFalsely : Prop := volumePlaysRow.holds Tryz.pinned (OpenSpec.ofChange volumePlaysWrong)

/-- 'moatlaw15.VolumeNil': WHATEVER THE INPUT: true; the input reads as it did. -/
def volumeNilSpec : ChangeSpec := { name := "volumeNil", fn := fun _ => fun
  | [d] => { results := [.lit (.bool true)], args := [d] }
  | _ => none }
def volumeNilRow : OpenClaim := { program := "ytcaaljlhljemoaagreat", sum := "4bf630568eb287adcffa05f8d21ed3b566188506d1646866770cded1bcdd969e", func := "moat/moatlaw15.VolumeNil", spec := "volumeNil", inPlace := ["maps.clone"], unfollowed := true, recurses := true, apart := false }
def VolumeNilSaid : Prop := volumeNilRow.holds Tryz.pinned (OpenSpec.ofChange volumeNilSpec)

/-- ITS FALSE NEIGHBOUR: 'it returns false'. Refute it at one input. -/
def volumeNilWrong : ChangeSpec := { name := "volumeNil", fn := fun _ => fun
  | [d] => { results := [.lit (.bool false)], args := [d] }
  | _ => none }
def VolumeNilWrongFalsely : Prop := volumeNilRow.holds Tryz.pinned (OpenSpec.ofChange volumeNilWrong)

/-- 'moatlaw15.VolumeTags': WHATEVER THE INPUT: true; the input reads as it did. -/
def volumeTagsSpec : ChangeSpec := { name := "volumeTags", fn := fun _ => fun
  | [d] => { results := [.lit (.bool true)], args := [d] }
  | _ => none }
def volumeTagsRow : OpenClaim := { program := "ytcaaljlhljemoaagreat", sum := "4bf630568eb287adcffa05f8d21ed3b566188506d1646866770cded1bcdd969e", func := "moat/moatlaw15.VolumeTags", spec := "volumeTags", inPlace := ["maps.clone"], unfollowed := true, recurses := true, apart := false }
def VolumeTagsSaid : Prop := volumeTagsRow.holds Tryz.pinned (OpenSpec.ofChange volumeTagsSpec)

/-- ITS FALSE NEIGHBOUR: 'it returns false'. Refute it at one input. -/
def volumeTagsWrong : ChangeSpec := { name := "volumeTags", fn := fun _ => fun
  | [d] => { results := [.lit (.bool false)], args := [d] }
  | _ => none }
def VolumeTagsWrongFalsely : Prop := volumeTagsRow.holds Tryz.pinned (OpenSpec.ofChange volumeTagsWrong)

/- THE SECOND FORM. 'bulk': how many values and letters a reading holds, each counted each time it is reached (what is shared counts as often as it is met; a slice's spare places count too). A statement '..UptoSaid' is the law's where the arguments, and the package variables that the reading takes, are together of bulk at most 1048576: NARROWER than '..Said'. Prove '..Said' where nothing that the law and all that it calls make is longer than what came in: it says more and counts as full. Else prove '..UptoSaid'. A law counts once. -/
mutual
def uptoBulk {H : Type} : DataW H → Nat
  | .lit (.string bytes) => bytes.length + 1
  | .lit _ => 1
  | .nil => 1
  | .ptr d => uptoBulk d + 1
  | .slice elems spare => uptoBulkAll elems + uptoBulkAll spare + 1
  | .agg parts => uptoBulkAll parts + 1
  | .iface _ d => uptoBulk d + 1
  | .map entries => uptoBulkEntries entries + 1
  | .held _ => 1
def uptoBulkAll {H : Type} : List (DataW H) → Nat
  | [] => 0
  | d :: r => uptoBulk d + uptoBulkAll r
def uptoBulkEntries {H : Type} : List (Lit × DataW H) → Nat
  | [] => 0
  | x :: r => uptoBulkEntry x + uptoBulkEntries r
def uptoBulkEntry {H : Type} : Lit × DataW H → Nat
  | (.string bytes, d) => bytes.length + uptoBulk d + 1
  | (_, d) => uptoBulk d + 1
 end
def uptoSmall : (H : Type) → List (DataW H) → Bool := fun _ ds => decide (uptoBulkAll ds ≤ 1048576)
def OpenSpec.upto (s : _root_.Go.ChangeSpec) : _root_.Go.OpenSpec := { _root_.Go.OpenSpec.ofChange s with cond := some uptoSmall }

/-- 'moatlaw15.VolumeZero', WHERE WHAT IT READS IS OF BULK AT MOST 1048576: true; the input reads as it did. -/
def volumeZeroUptoRow : OpenClaim := { program := "ytcaaljlhljemoaagreat", sum := "4bf630568eb287adcffa05f8d21ed3b566188506d1646866770cded1bcdd969e", func := "moat/moatlaw15.VolumeZero", spec := "volumeZero", unfollowed := true, recurses := true, apart := false, narrowed := true }
def VolumeZeroUptoSaid : Prop := volumeZeroUptoRow.holds Tryz.pinned (OpenSpec.upto volumeZeroSpec)

/-- 'moatlaw15.VolumeOrder', WHERE WHAT IT READS IS OF BULK AT MOST 1048576: true; the input reads as it did. -/
def volumeOrderUptoRow : OpenClaim := { program := "ytcaaljlhljemoaagreat", sum := "4bf630568eb287adcffa05f8d21ed3b566188506d1646866770cded1bcdd969e", func := "moat/moatlaw15.VolumeOrder", spec := "volumeOrder", inPlace := ["maps.clone"], unfollowed := true, recurses := true, apart := false, narrowed := true }
def VolumeOrderUptoSaid : Prop := volumeOrderUptoRow.holds Tryz.pinned (OpenSpec.upto volumeOrderSpec)

/-- 'moatlaw15.VolumeTwice', WHERE WHAT IT READS IS OF BULK AT MOST 1048576: true; the input reads as it did. -/
def volumeTwiceUptoRow : OpenClaim := { program := "ytcaaljlhljemoaagreat", sum := "4bf630568eb287adcffa05f8d21ed3b566188506d1646866770cded1bcdd969e", func := "moat/moatlaw15.VolumeTwice", spec := "volumeTwice", inPlace := ["maps.clone"], unfollowed := true, recurses := true, apart := false, narrowed := true }
def VolumeTwiceUptoSaid : Prop := volumeTwiceUptoRow.holds Tryz.pinned (OpenSpec.upto volumeTwiceSpec)

/-- 'moatlaw15.VolumePlays', WHERE WHAT IT READS IS OF BULK AT MOST 1048576: true; the input reads as it did. -/
def volumePlaysUptoRow : OpenClaim := { program := "ytcaaljlhljemoaagreat", sum := "4bf630568eb287adcffa05f8d21ed3b566188506d1646866770cded1bcdd969e", func := "moat/moatlaw15.VolumePlays", spec := "volumePlays", inPlace := ["maps.clone"], unfollowed := true, recurses := true, apart := false, narrowed := true }
def VolumePlaysUptoSaid : Prop := volumePlaysUptoRow.holds Tryz.pinned (OpenSpec.upto volumePlaysSpec)

/-- 'moatlaw15.VolumeNil', WHERE WHAT IT READS IS OF BULK AT MOST 1048576: true; the input reads as it did. -/
def volumeNilUptoRow : OpenClaim := { program := "ytcaaljlhljemoaagreat", sum := "4bf630568eb287adcffa05f8d21ed3b566188506d1646866770cded1bcdd969e", func := "moat/moatlaw15.VolumeNil", spec := "volumeNil", inPlace := ["maps.clone"], unfollowed := true, recurses := true, apart := false, narrowed := true }
def VolumeNilUptoSaid : Prop := volumeNilUptoRow.holds Tryz.pinned (OpenSpec.upto volumeNilSpec)

/-- 'moatlaw15.VolumeTags', WHERE WHAT IT READS IS OF BULK AT MOST 1048576: true; the input reads as it did. -/
def volumeTagsUptoRow : OpenClaim := { program := "ytcaaljlhljemoaagreat", sum := "4bf630568eb287adcffa05f8d21ed3b566188506d1646866770cded1bcdd969e", func := "moat/moatlaw15.VolumeTags", spec := "volumeTags", inPlace := ["maps.clone"], unfollowed := true, recurses := true, apart := false, narrowed := true }
def VolumeTagsUptoSaid : Prop := volumeTagsUptoRow.holds Tryz.pinned (OpenSpec.upto volumeTagsSpec)

end Rows
end Go.Proofs.YtcaaljlhljemoaaGreat
