/-
  No cell of these rows narrows 'for every input' (looked for: loops, veiled, ifaces, maps, wideKeys, modest, calm, conditions, laid).
  DERIVED. THE GIVEN ROWS OF THIS SEAT. 5 by the template 'for every input the law returns true; each argument reads behind the call as it read before'; 0 by the template 'total and deterministic' (their statements: YtpnppebjcenkkaaTotals.lean).
  GIVEN WITH THE SEED: the statements are not yours to turn. If you find one false, say at which input.
  Laid BY PROGRAM, IN A SANDBOX (cutbox-rows.mjs): the forced cells as the released guide's own fill.sh prints them over the translation e8ba6b1626b4a954… (all of the seat's roots in one cut). By AI agents, Wed Nov 11 2026. No macro, syntax, notation, axiom, sorry.
-/
import Derived.Test.YtpnppebjcenkkaaChecked
import GoSem.Claim
import GoSem.ClaimJoined
import GoSem.ClaimMapViews
import Derived.JoinedTies
import Derived.KernelRfl
namespace Go.Proofs.Ytpnppebjcenkkaa
/- THE CELL 'sum', in the pinned program and in every row, IS THE sha256 OF THE DUMP (.gsa) THAT YtpnppebjcenkkaaProg.lean LOADS. Nothing in Lean hashes anything: it is a label: what it is worth is what the hold of that sum in a sandbox is worth. -/
noncomputable def Try.pinned : Pinned := { name := "ytpnppebjcenkkaa", sum := "e8ba6b1626b4a954e9272c85a5b55ad9d909bbd836d51e5b0d80bc03b26a8561", checked := Try.checked }
namespace Rows
def none {H : Type} : Left H := { results := [], args := [] }

/-- 'moatlaw06.CacheFirst': WHATEVER THE INPUT: true; the input reads as it did. -/
def cacheFirstSpec : ChangeSpec := { name := "cacheFirst", fn := fun _ => fun
  | [d1, d2] => { results := [.lit (.bool true)], args := [d1, d2] }
  | _ => none }
def cacheFirstRow : OpenClaim := { program := "ytpnppebjcenkkaa", sum := "e8ba6b1626b4a954e9272c85a5b55ad9d909bbd836d51e5b0d80bc03b26a8561", func := "moat/moatlaw06.CacheFirst", spec := "cacheFirst", inPlace := ["slices.overlaps[int]"], apart := false }
def CacheFirstSaid : Prop := cacheFirstRow.holds Try.pinned (OpenSpec.ofChange cacheFirstSpec)

/-- ITS FALSE NEIGHBOUR: 'it returns false'. Refute it at one input. -/
def cacheFirstWrong : ChangeSpec := { name := "cacheFirst", fn := fun _ => fun
  | [d1, d2] => { results := [.lit (.bool false)], args := [d1, d2] }
  | _ => none }
def CacheFirstWrongFalsely : Prop := cacheFirstRow.holds Try.pinned (OpenSpec.ofChange cacheFirstWrong)

/-- 'moatlaw06.CacheLast': WHATEVER THE INPUT: true; the input reads as it did. -/
def cacheLastSpec : ChangeSpec := { name := "cacheLast", fn := fun _ => fun
  | [d1, d2] => { results := [.lit (.bool true)], args := [d1, d2] }
  | _ => none }
def cacheLastRow : OpenClaim := { program := "ytpnppebjcenkkaa", sum := "e8ba6b1626b4a954e9272c85a5b55ad9d909bbd836d51e5b0d80bc03b26a8561", func := "moat/moatlaw06.CacheLast", spec := "cacheLast", inPlace := ["slices.overlaps[int]"], recurses := true, apart := false }
def CacheLastSaid : Prop := cacheLastRow.holds Try.pinned (OpenSpec.ofChange cacheLastSpec)

/-- ITS FALSE NEIGHBOUR: 'it returns false'. Refute it at one input. -/
def cacheLastWrong : ChangeSpec := { name := "cacheLast", fn := fun _ => fun
  | [d1, d2] => { results := [.lit (.bool false)], args := [d1, d2] }
  | _ => none }
def CacheLastWrongFalsely : Prop := cacheLastRow.holds Try.pinned (OpenSpec.ofChange cacheLastWrong)

/-- 'moatlaw06.CachePinned': WHATEVER THE INPUT: true; the input reads as it did. -/
def cachePinnedSpec : ChangeSpec := { name := "cachePinned", fn := fun _ => fun
  | [d1, d2] => { results := [.lit (.bool true)], args := [d1, d2] }
  | _ => none }
def cachePinnedRow : OpenClaim := { program := "ytpnppebjcenkkaa", sum := "e8ba6b1626b4a954e9272c85a5b55ad9d909bbd836d51e5b0d80bc03b26a8561", func := "moat/moatlaw06.CachePinned", spec := "cachePinned", inPlace := ["slices.overlaps[int]"], recurses := true, apart := false }
def CachePinnedSaid : Prop := cachePinnedRow.holds Try.pinned (OpenSpec.ofChange cachePinnedSpec)

/-- ITS FALSE NEIGHBOUR: 'it returns false'. Refute it at one input. -/
def cachePinnedWrong : ChangeSpec := { name := "cachePinned", fn := fun _ => fun
  | [d1, d2] => { results := [.lit (.bool false)], args := [d1, d2] }
  | _ => none }
def CachePinnedWrongFalsely : Prop := cachePinnedRow.holds Try.pinned (OpenSpec.ofChange cachePinnedWrong)

/-- 'moatlaw06.CacheNil': WHATEVER THE INPUT: true; the input reads as it did. -/
def cacheNilSpec : ChangeSpec := { name := "cacheNil", fn := fun _ => fun
  | [d1, d2] => { results := [.lit (.bool true)], args := [d1, d2] }
  | _ => none }
def cacheNilRow : OpenClaim := { program := "ytpnppebjcenkkaa", sum := "e8ba6b1626b4a954e9272c85a5b55ad9d909bbd836d51e5b0d80bc03b26a8561", func := "moat/moatlaw06.CacheNil", spec := "cacheNil", inPlace := ["slices.overlaps[int]"], recurses := true, apart := false }
def CacheNilSaid : Prop := cacheNilRow.holds Try.pinned (OpenSpec.ofChange cacheNilSpec)

/-- ITS FALSE NEIGHBOUR: 'it returns false'. Refute it at one input. -/
def cacheNilWrong : ChangeSpec := { name := "cacheNil", fn := fun _ => fun
  | [d1, d2] => { results := [.lit (.bool false)], args := [d1, d2] }
  | _ => none }
def CacheNilWrongFalsely : Prop := cacheNilRow.holds Try.pinned (OpenSpec.ofChange cacheNilWrong)

/-- 'moatlaw06.CacheClean': WHATEVER THE INPUT: true; the input reads as it did. -/
def cacheCleanSpec : ChangeSpec := { name := "cacheClean", fn := fun _ => fun
  | [d1, d2] => { results := [.lit (.bool true)], args := [d1, d2] }
  | _ => none }
def cacheCleanRow : OpenClaim := { program := "ytpnppebjcenkkaa", sum := "e8ba6b1626b4a954e9272c85a5b55ad9d909bbd836d51e5b0d80bc03b26a8561", func := "moat/moatlaw06.CacheClean", spec := "cacheClean", inPlace := ["slices.overlaps[int]"], recurses := true, apart := false }
def CacheCleanSaid : Prop := cacheCleanRow.holds Try.pinned (OpenSpec.ofChange cacheCleanSpec)

/-- ITS FALSE NEIGHBOUR: 'it returns false'. Refute it at one input. -/
def cacheCleanWrong : ChangeSpec := { name := "cacheClean", fn := fun _ => fun
  | [d1, d2] => { results := [.lit (.bool false)], args := [d1, d2] }
  | _ => none }
def CacheCleanWrongFalsely : Prop := cacheCleanRow.holds Try.pinned (OpenSpec.ofChange cacheCleanWrong)

/- THE SECOND FORM. 'bulk': how many values and letters a reading holds, each counted each time it is reached (what is shared counts as often as it is met; a slice's spare places count too). A statement '..UptoSaid' is the law's where the arguments, and the package variables that the reading takes, are together of bulk at most 1048576: NARROWER than '..Said'. Prove '..Said' where nothing that the law and all that it calls make is longer than what came in: it says more and counts as full. Else prove '..UptoSaid'. A law counts once. -/
mutual
def uptoBulk {H : Type} : DataW H → Nat
  | .lit (.string bytes) => bytes.length + 1
  | .lit _ => 1
  | .nil => 1
  | .ptr d => uptoBulk d + 1
  | .slice elems spare => uptoBulkAll elems + uptoBulkAll spare + 1
  | .agg parts => uptoBulkAll parts + 1
  | .iface _ d => uptoBulk d + 1
  | .map entries => uptoBulkEntries entries + 1
  | .held _ => 1
def uptoBulkAll {H : Type} : List (DataW H) → Nat
  | [] => 0
  | d :: r => uptoBulk d + uptoBulkAll r
def uptoBulkEntries {H : Type} : List (Lit × DataW H) → Nat
  | [] => 0
  | x :: r => uptoBulkEntry x + uptoBulkEntries r
def uptoBulkEntry {H : Type} : Lit × DataW H → Nat
  | (.string bytes, d) => bytes.length + uptoBulk d + 1
  | (_, d) => uptoBulk d + 1
 end
def uptoSmall : (H : Type) → List (DataW H) → Bool := fun _ ds => decide (uptoBulkAll ds ≤ 1048576)
def OpenSpec.upto (s : _root_.Go.ChangeSpec) : _root_.Go.OpenSpec := { _root_.Go.OpenSpec.ofChange s with cond := some uptoSmall }

/-- 'moatlaw06.CacheFirst', WHERE WHAT IT READS IS OF BULK AT MOST 1048576: true; the input reads as it did. -/
def cacheFirstUptoRow : OpenClaim := { program := "ytpnppebjcenkkaa", sum := "e8ba6b1626b4a954e9272c85a5b55ad9d909bbd836d51e5b0d80bc03b26a8561", func := "moat/moatlaw06.CacheFirst", spec := "cacheFirst", inPlace := ["slices.overlaps[int]"], apart := false, narrowed := true }
def CacheFirstUptoSaid : Prop := cacheFirstUptoRow.holds Try.pinned (OpenSpec.upto cacheFirstSpec)

/-- 'moatlaw06.CacheLast', WHERE WHAT IT READS IS OF BULK AT MOST 1048576: true; the input reads as it did. -/
def cacheLastUptoRow : OpenClaim := { program := "ytpnppebjcenkkaa", sum := "e8ba6b1626b4a954e9272c85a5b55ad9d909bbd836d51e5b0d80bc03b26a8561", func := "moat/moatlaw06.CacheLast", spec := "cacheLast", inPlace := ["slices.overlaps[int]"], recurses := true, apart := false, narrowed := true }
def CacheLastUptoSaid : Prop := cacheLastUptoRow.holds Try.pinned (OpenSpec.upto cacheLastSpec)

/-- 'moatlaw06.CachePinned', WHERE WHAT IT READS IS OF BULK AT MOST 1048576: true; the input reads as it did. -/
def cachePinnedUptoRow : OpenClaim := { program := "ytpnppebjcenkkaa", sum := "e8ba6b1626b4a954e9272c85a5b55ad9d909bbd836d51e5b0d80bc03b26a8561", func := "moat/moatlaw06.CachePinned", spec := "cachePinned", inPlace := ["slices.overlaps[int]"], recurses := true, apart := false, narrowed := true }
def CachePinnedUptoSaid : Prop := cachePinnedUptoRow.holds Try.pinned (OpenSpec.upto cachePinnedSpec)

/-- 'moatlaw06.CacheNil', WHERE WHAT IT READS IS OF BULK AT MOST 1048576: true; the input reads as it did. -/
def cacheNilUptoRow : OpenClaim := { program := "ytpnppebjcenkkaa", sum := "e8ba6b1626b4a954e9272c85a5b55ad9d909bbd836d51e5b0d80bc03b26a8561", func := "moat/moatlaw06.CacheNil", spec := "cacheNil", inPlace := ["slices.overlaps[int]"], recurses := true, apart := false, narrowed := true }
def CacheNilUptoSaid : Prop := cacheNilUptoRow.holds Try.pinned (OpenSpec.upto cacheNilSpec)

/-- 'moatlaw06.CacheClean', WHERE WHAT IT READS IS OF BULK AT MOST 1048576: true; the input reads as it did. -/
def cacheCleanUptoRow : OpenClaim := { program := "ytpnppebjcenkkaa", sum := "e8ba6b1626b4a954e9272c85a5b55ad9d909bbd836d51e5b0d80bc03b26a8561", func := "moat/moatlaw06.CacheClean", spec := "cacheClean", inPlace := ["slices.overlaps[int]"], recurses := true, apart := false, narrowed := true }
def CacheCleanUptoSaid : Prop := cacheCleanUptoRow.holds Try.pinned (OpenSpec.upto cacheCleanSpec)

end Rows
end Go.Proofs.Ytpnppebjcenkkaa
