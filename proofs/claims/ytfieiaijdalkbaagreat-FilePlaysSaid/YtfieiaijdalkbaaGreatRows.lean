/-
  No cell of these rows narrows 'for every input' (looked for: loops, veiled, ifaces, maps, wideKeys, modest, calm, conditions, laid).
  DERIVED. THE GIVEN ROWS OF THIS SEAT. 6 by the template 'for every input the law returns true; each argument reads behind the call as it read before'; 0 by the template 'total and deterministic' (their statements: YtfieiaijdalkbaaGreatTotals.lean).
  GIVEN WITH THE SEED: the statements are not yours to turn. If you find one false, say at which input.
  Laid BY PROGRAM, IN A SANDBOX (cutbox-rows.mjs): the forced cells as the released guide's own fill.sh prints them over the translation cc390f0e1cc48df7… (all of the seat's roots in one cut). By AI agents, Wed Nov 11 2026. No macro, syntax, notation, axiom, sorry.
-/
import Derived.Test.YtfieiaijdalkbaaGreatChecked
import GoSem.Claim
import GoSem.ClaimJoined
import GoSem.ClaimMapViews
import Derived.JoinedTies
import Derived.KernelRfl
namespace Go.Proofs.YtfieiaijdalkbaaGreat
/- THE CELL 'sum', in the pinned program and in every row, IS THE sha256 OF THE DUMP (.gsa) THAT YtfieiaijdalkbaaGreatProg.lean LOADS. Nothing in Lean hashes anything: it is a label: what it is worth is what the hold of that sum in a sandbox is worth. -/
noncomputable def Tryz.pinned : Pinned := { name := "ytfieiaijdalkbaagreat", sum := "cc390f0e1cc48df753cf435433dd28326bfc0253521e3925d5b56a632dc21a4f", checked := Tryz.checked }
namespace Rows
def none {H : Type} : Left H := { results := [], args := [] }

/-- 'moatlaw16.FileBack': WHATEVER THE INPUT: true; the input reads as it did. -/
def fileBackSpec : ChangeSpec := { name := "fileBack", fn := fun _ => fun
  | [d1, d2, d3, d4] => { results := [.lit (.bool true)], args := [d1, d2, d3, d4] }
  | _ => none }
def fileBackRow : OpenClaim := { program := "ytfieiaijdalkbaagreat", sum := "cc390f0e1cc48df753cf435433dd28326bfc0253521e3925d5b56a632dc21a4f", func := "moat/moatlaw16.FileBack", spec := "fileBack", unfollowed := true, recurses := true, apart := false }
def FileBackSaid : Prop := fileBackRow.holds Tryz.pinned (OpenSpec.ofChange fileBackSpec)

/-- ITS FALSE NEIGHBOUR: 'it returns false'. Refute it at one input. -/
def fileBackWrong : ChangeSpec := { name := "fileBack", fn := fun _ => fun
  | [d1, d2, d3, d4] => { results := [.lit (.bool false)], args := [d1, d2, d3, d4] }
  | _ => none }
def FileBackWrongFalsely : Prop := fileBackRow.holds Tryz.pinned (OpenSpec.ofChange fileBackWrong)

/-- 'moatlaw16.FileZeros': WHATEVER THE INPUT: true; the input reads as it did. -/
def fileZerosSpec : ChangeSpec := { name := "fileZeros", fn := fun _ => fun
  | [d1, d2, d3, d4] => { results := [.lit (.bool true)], args := [d1, d2, d3, d4] }
  | _ => none }
def fileZerosRow : OpenClaim := { program := "ytfieiaijdalkbaagreat", sum := "cc390f0e1cc48df753cf435433dd28326bfc0253521e3925d5b56a632dc21a4f", func := "moat/moatlaw16.FileZeros", spec := "fileZeros", unfollowed := true, recurses := true, apart := false }
def FileZerosSaid : Prop := fileZerosRow.holds Tryz.pinned (OpenSpec.ofChange fileZerosSpec)

/-- ITS FALSE NEIGHBOUR: 'it returns false'. Refute it at one input. -/
def fileZerosWrong : ChangeSpec := { name := "fileZeros", fn := fun _ => fun
  | [d1, d2, d3, d4] => { results := [.lit (.bool false)], args := [d1, d2, d3, d4] }
  | _ => none }
def FileZerosWrongFalsely : Prop := fileZerosRow.holds Tryz.pinned (OpenSpec.ofChange fileZerosWrong)

/-- 'moatlaw16.FileParts': WHATEVER THE INPUT: true; the input reads as it did. -/
def filePartsSpec : ChangeSpec := { name := "fileParts", fn := fun _ => fun
  | [d1, d2, d3] => { results := [.lit (.bool true)], args := [d1, d2, d3] }
  | _ => none }
def filePartsRow : OpenClaim := { program := "ytfieiaijdalkbaagreat", sum := "cc390f0e1cc48df753cf435433dd28326bfc0253521e3925d5b56a632dc21a4f", func := "moat/moatlaw16.FileParts", spec := "fileParts", unfollowed := true, recurses := true, apart := false }
def FilePartsSaid : Prop := filePartsRow.holds Tryz.pinned (OpenSpec.ofChange filePartsSpec)

/-- ITS FALSE NEIGHBOUR: 'it returns false'. Refute it at one input. -/
def filePartsWrong : ChangeSpec := { name := "fileParts", fn := fun _ => fun
  | [d1, d2, d3] => { results := [.lit (.bool false)], args := [d1, d2, d3] }
  | _ => none }
def FilePartsWrongFalsely : Prop := filePartsRow.holds Tryz.pinned (OpenSpec.ofChange filePartsWrong)

/-- 'moatlaw16.FileNone': WHATEVER THE INPUT: true; the input reads as it did. -/
def fileNoneSpec : ChangeSpec := { name := "fileNone", fn := fun _ => fun
  | [d1, d2, d3, d4] => { results := [.lit (.bool true)], args := [d1, d2, d3, d4] }
  | _ => none }
def fileNoneRow : OpenClaim := { program := "ytfieiaijdalkbaagreat", sum := "cc390f0e1cc48df753cf435433dd28326bfc0253521e3925d5b56a632dc21a4f", func := "moat/moatlaw16.FileNone", spec := "fileNone", unfollowed := true, recurses := true, apart := false }
def FileNoneSaid : Prop := fileNoneRow.holds Tryz.pinned (OpenSpec.ofChange fileNoneSpec)

/-- ITS FALSE NEIGHBOUR: 'it returns false'. Refute it at one input. -/
def fileNoneWrong : ChangeSpec := { name := "fileNone", fn := fun _ => fun
  | [d1, d2, d3, d4] => { results := [.lit (.bool false)], args := [d1, d2, d3, d4] }
  | _ => none }
def FileNoneWrongFalsely : Prop := fileNoneRow.holds Tryz.pinned (OpenSpec.ofChange fileNoneWrong)

/-- 'moatlaw16.FilePlays': WHATEVER THE INPUT: true; the input reads as it did. -/
def filePlaysSpec : ChangeSpec := { name := "filePlays", fn := fun _ => fun
  | [d1, d2] => { results := [.lit (.bool true)], args := [d1, d2] }
  | _ => none }
def filePlaysRow : OpenClaim := { program := "ytfieiaijdalkbaagreat", sum := "cc390f0e1cc48df753cf435433dd28326bfc0253521e3925d5b56a632dc21a4f", func := "moat/moatlaw16.FilePlays", spec := "filePlays", inPlace := ["maps.clone"], unfollowed := true, recurses := true, apart := false }
def FilePlaysSaid : Prop := filePlaysRow.holds Tryz.pinned (OpenSpec.ofChange filePlaysSpec)

/-- ITS FALSE NEIGHBOUR: 'it returns false'. Refute it at one input. -/
def filePlaysWrong : ChangeSpec := { name := "filePlays", fn := fun _ => fun
  | [d1, d2] => { results := [.lit (.bool false)], args := [d1, d2] }
  | _ => none }
def FilePlaysWrongFalsely : Prop := filePlaysRow.holds Tryz.pinned (OpenSpec.ofChange filePlaysWrong)

/-- 'moatlaw16.FileApart': WHATEVER THE INPUT: true; the input reads as it did. -/
def fileApartSpec : ChangeSpec := { name := "fileApart", fn := fun _ => fun
  | [d] => { results := [.lit (.bool true)], args := [d] }
  | _ => none }
def fileApartRow : OpenClaim := { program := "ytfieiaijdalkbaagreat", sum := "cc390f0e1cc48df753cf435433dd28326bfc0253521e3925d5b56a632dc21a4f", func := "moat/moatlaw16.FileApart", spec := "fileApart", inPlace := ["maps.clone"], unfollowed := true, recurses := true, apart := false }
def FileApartSaid : Prop := fileApartRow.holds Tryz.pinned (OpenSpec.ofChange fileApartSpec)

/-- ITS FALSE NEIGHBOUR: 'it returns false'. Refute it at one input. -/
def fileApartWrong : ChangeSpec := { name := "fileApart", fn := fun _ => fun
  | [d] => { results := [.lit (.bool false)], args := [d] }
  | _ => none }
def FileApartWrongFalsely : Prop := fileApartRow.holds Tryz.pinned (OpenSpec.ofChange fileApartWrong)

/- THE SECOND FORM. 'bulk': how many values and letters a reading holds, each counted each time it is reached (what is shared counts as often as it is met; a slice's spare places count too). A statement '..UptoSaid' is the law's where the arguments, and the package variables that the reading takes, are together of bulk at most 1048576: NARROWER than '..Said'. Prove '..Said' where nothing that the law and all that it calls make is longer than what came in: it says more and counts as full. Else prove '..UptoSaid'. A law counts once. -/
mutual
def uptoBulk {H : Type} : DataW H → Nat
  | .lit (.string bytes) => bytes.length + 1
  | .lit _ => 1
  | .nil => 1
  | .ptr d => uptoBulk d + 1
  | .slice elems spare => uptoBulkAll elems + uptoBulkAll spare + 1
  | .agg parts => uptoBulkAll parts + 1
  | .iface _ d => uptoBulk d + 1
  | .map entries => uptoBulkEntries entries + 1
  | .held _ => 1
def uptoBulkAll {H : Type} : List (DataW H) → Nat
  | [] => 0
  | d :: r => uptoBulk d + uptoBulkAll r
def uptoBulkEntries {H : Type} : List (Lit × DataW H) → Nat
  | [] => 0
  | x :: r => uptoBulkEntry x + uptoBulkEntries r
def uptoBulkEntry {H : Type} : Lit × DataW H → Nat
  | (.string bytes, d) => bytes.length + uptoBulk d + 1
  | (_, d) => uptoBulk d + 1
 end
def uptoSmall : (H : Type) → List (DataW H) → Bool := fun _ ds => decide (uptoBulkAll ds ≤ 1048576)
def OpenSpec.upto (s : _root_.Go.ChangeSpec) : _root_.Go.OpenSpec := { _root_.Go.OpenSpec.ofChange s with cond := some uptoSmall }

/-- 'moatlaw16.FileBack', WHERE WHAT IT READS IS OF BULK AT MOST 1048576: true; the input reads as it did. -/
def fileBackUptoRow : OpenClaim := { program := "ytfieiaijdalkbaagreat", sum := "cc390f0e1cc48df753cf435433dd28326bfc0253521e3925d5b56a632dc21a4f", func := "moat/moatlaw16.FileBack", spec := "fileBack", unfollowed := true, recurses := true, apart := false, narrowed := true }
def FileBackUptoSaid : Prop := fileBackUptoRow.holds Tryz.pinned (OpenSpec.upto fileBackSpec)

/-- 'moatlaw16.FileZeros', WHERE WHAT IT READS IS OF BULK AT MOST 1048576: true; the input reads as it did. -/
def fileZerosUptoRow : OpenClaim := { program := "ytfieiaijdalkbaagreat", sum := "cc390f0e1cc48df753cf435433dd28326bfc0253521e3925d5b56a632dc21a4f", func := "moat/moatlaw16.FileZeros", spec := "fileZeros", unfollowed := true, recurses := true, apart := false, narrowed := true }
def FileZerosUptoSaid : Prop := fileZerosUptoRow.holds Tryz.pinned (OpenSpec.upto fileZerosSpec)

/-- 'moatlaw16.FileParts', WHERE WHAT IT READS IS OF BULK AT MOST 1048576: true; the input reads as it did. -/
def filePartsUptoRow : OpenClaim := { program := "ytfieiaijdalkbaagreat", sum := "cc390f0e1cc48df753cf435433dd28326bfc0253521e3925d5b56a632dc21a4f", func := "moat/moatlaw16.FileParts", spec := "fileParts", unfollowed := true, recurses := true, apart := false, narrowed := true }
def FilePartsUptoSaid : Prop := filePartsUptoRow.holds Tryz.pinned (OpenSpec.upto filePartsSpec)

/-- 'moatlaw16.FileNone', WHERE WHAT IT READS IS OF BULK AT MOST 1048576: true; the input reads as it did. -/
def fileNoneUptoRow : OpenClaim := { program := "ytfieiaijdalkbaagreat", sum := "cc390f0e1cc48df753cf435433dd28326bfc0253521e3925d5b56a632dc21a4f", func := "moat/moatlaw16.FileNone", spec := "fileNone", unfollowed := true, recurses := true, apart := false, narrowed := true }
def FileNoneUptoSaid : Prop := fileNoneUptoRow.holds Tryz.pinned (OpenSpec.upto fileNoneSpec)

/-- 'moatlaw16.FilePlays', WHERE WHAT IT READS IS OF BULK AT MOST 1048576: true; the input reads as it did. -/
def filePlaysUptoRow : OpenClaim := { program := "ytfieiaijdalkbaagreat", sum := "cc390f0e1cc48df753cf435433dd28326bfc0253521e3925d5b56a632dc21a4f", func := "moat/moatlaw16.FilePlays", spec := "filePlays", inPlace := ["maps.clone"], unfollowed := true, recurses := true, apart := false, narrowed := true }
def FilePlaysUptoSaid : Prop := filePlaysUptoRow.holds Tryz.pinned (OpenSpec.upto filePlaysSpec)

/-- 'moatlaw16.FileApart', WHERE WHAT IT READS IS OF BULK AT MOST 1048576: true; the input reads as it did. -/
def fileApartUptoRow : OpenClaim := { program := "ytfieiaijdalkbaagreat", sum := "cc390f0e1cc48df753cf435433dd28326bfc0253521e3925d5b56a632dc21a4f", func := "moat/moatlaw16.FileApart", spec := "fileApart", inPlace := ["maps.clone"], unfollowed := true, recurses := true, apart := false, narrowed := true }
def FileApartUptoSaid : Prop := fileApartUptoRow.holds Tryz.pinned (OpenSpec.upto fileApartSpec)

end Rows
end Go.Proofs.YtfieiaijdalkbaaGreat
