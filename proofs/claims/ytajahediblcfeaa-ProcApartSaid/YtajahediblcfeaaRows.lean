/-
  No cell of these rows narrows 'for every input' (looked for: loops, veiled, ifaces, maps, wideKeys, modest, calm, conditions, laid).
  DERIVED. THE GIVEN ROWS OF THIS SEAT. 5 by the template 'for every input the law returns true; each argument reads behind the call as it read before'; 0 by the template 'total and deterministic' (their statements: YtajahediblcfeaaTotals.lean).
  GIVEN WITH THE SEED: the statements are not yours to turn. If you find one false, say at which input.
  Laid BY PROGRAM, IN A SANDBOX (cutbox-rows.mjs): the forced cells as the released guide's own fill.sh prints them over the translation 2254e2b0b721fa68… (all of the seat's roots in one cut). By AI agents, Wed Nov 11 2026. No macro, syntax, notation, axiom, sorry.
-/
import Derived.Test.YtajahediblcfeaaChecked
import GoSem.Claim
import GoSem.ClaimJoined
import GoSem.ClaimMapViews
import Derived.JoinedTies
import Derived.KernelRfl
namespace Go.Proofs.Ytajahediblcfeaa
/- THE CELL 'sum', in the pinned program and in every row, IS THE sha256 OF THE DUMP (.gsa) THAT YtajahediblcfeaaProg.lean LOADS. Nothing in Lean hashes anything: it is a label: what it is worth is what the hold of that sum in a sandbox is worth. -/
noncomputable def Try.pinned : Pinned := { name := "ytajahediblcfeaa", sum := "2254e2b0b721fa68f1a5b5e5bb2c6ae1c9a75faa2f410a21fbd3b30a22cc84b8", checked := Try.checked }
namespace Rows
def none {H : Type} : Left H := { results := [], args := [] }

/-- 'moatlaw19.ProcLeast': WHATEVER THE INPUT: true; the input reads as it did. -/
def procLeastSpec : ChangeSpec := { name := "procLeast", fn := fun _ => fun
  | [d1, d2] => { results := [.lit (.bool true)], args := [d1, d2] }
  | _ => none }
def procLeastRow : OpenClaim := { program := "ytajahediblcfeaa", sum := "2254e2b0b721fa68f1a5b5e5bb2c6ae1c9a75faa2f410a21fbd3b30a22cc84b8", func := "moat/moatlaw19.ProcLeast", spec := "procLeast", apart := false }
def ProcLeastSaid : Prop := procLeastRow.holds Try.pinned (OpenSpec.ofChange procLeastSpec)

/-- ITS FALSE NEIGHBOUR: 'it returns false'. Refute it at one input. -/
def procLeastWrong : ChangeSpec := { name := "procLeast", fn := fun _ => fun
  | [d1, d2] => { results := [.lit (.bool false)], args := [d1, d2] }
  | _ => none }
def ProcLeastWrongFalsely : Prop := procLeastRow.holds Try.pinned (OpenSpec.ofChange procLeastWrong)

/-- 'moatlaw19.ProcShut': WHATEVER THE INPUT: true; the input reads as it did. -/
def procShutSpec : ChangeSpec := { name := "procShut", fn := fun _ => fun
  | [d] => { results := [.lit (.bool true)], args := [d] }
  | _ => none }
def procShutRow : OpenClaim := { program := "ytajahediblcfeaa", sum := "2254e2b0b721fa68f1a5b5e5bb2c6ae1c9a75faa2f410a21fbd3b30a22cc84b8", func := "moat/moatlaw19.ProcShut", spec := "procShut", apart := false }
def ProcShutSaid : Prop := procShutRow.holds Try.pinned (OpenSpec.ofChange procShutSpec)

/-- ITS FALSE NEIGHBOUR: 'it returns false'. Refute it at one input. -/
def procShutWrong : ChangeSpec := { name := "procShut", fn := fun _ => fun
  | [d] => { results := [.lit (.bool false)], args := [d] }
  | _ => none }
def ProcShutWrongFalsely : Prop := procShutRow.holds Try.pinned (OpenSpec.ofChange procShutWrong)

/-- 'moatlaw19.ProcPlays': WHATEVER THE INPUT: true; the input reads as it did. -/
def procPlaysSpec : ChangeSpec := { name := "procPlays", fn := fun _ => fun
  | [d1, d2] => { results := [.lit (.bool true)], args := [d1, d2] }
  | _ => none }
def procPlaysRow : OpenClaim := { program := "ytajahediblcfeaa", sum := "2254e2b0b721fa68f1a5b5e5bb2c6ae1c9a75faa2f410a21fbd3b30a22cc84b8", func := "moat/moatlaw19.ProcPlays", spec := "procPlays", apart := false }
def ProcPlaysSaid : Prop := procPlaysRow.holds Try.pinned (OpenSpec.ofChange procPlaysSpec)

/-- ITS FALSE NEIGHBOUR: 'it returns false'. Refute it at one input. -/
def procPlaysWrong : ChangeSpec := { name := "procPlays", fn := fun _ => fun
  | [d1, d2] => { results := [.lit (.bool false)], args := [d1, d2] }
  | _ => none }
def ProcPlaysWrongFalsely : Prop := procPlaysRow.holds Try.pinned (OpenSpec.ofChange procPlaysWrong)

/-- 'moatlaw19.ProcApart': WHATEVER THE INPUT: true; the input reads as it did. -/
def procApartSpec : ChangeSpec := { name := "procApart", fn := fun _ => fun
  | [d1, d2] => { results := [.lit (.bool true)], args := [d1, d2] }
  | _ => none }
def procApartRow : OpenClaim := { program := "ytajahediblcfeaa", sum := "2254e2b0b721fa68f1a5b5e5bb2c6ae1c9a75faa2f410a21fbd3b30a22cc84b8", func := "moat/moatlaw19.ProcApart", spec := "procApart", apart := false }
def ProcApartSaid : Prop := procApartRow.holds Try.pinned (OpenSpec.ofChange procApartSpec)

/-- ITS FALSE NEIGHBOUR: 'it returns false'. Refute it at one input. -/
def procApartWrong : ChangeSpec := { name := "procApart", fn := fun _ => fun
  | [d1, d2] => { results := [.lit (.bool false)], args := [d1, d2] }
  | _ => none }
def ProcApartWrongFalsely : Prop := procApartRow.holds Try.pinned (OpenSpec.ofChange procApartWrong)

/-- 'moatlaw19.ProcNil': WHATEVER THE INPUT: true; the input reads as it did. -/
def procNilSpec : ChangeSpec := { name := "procNil", fn := fun _ => fun
  | [d] => { results := [.lit (.bool true)], args := [d] }
  | _ => none }
def procNilRow : OpenClaim := { program := "ytajahediblcfeaa", sum := "2254e2b0b721fa68f1a5b5e5bb2c6ae1c9a75faa2f410a21fbd3b30a22cc84b8", func := "moat/moatlaw19.ProcNil", spec := "procNil", apart := false }
def ProcNilSaid : Prop := procNilRow.holds Try.pinned (OpenSpec.ofChange procNilSpec)

/-- ITS FALSE NEIGHBOUR: 'it returns false'. Refute it at one input. -/
def procNilWrong : ChangeSpec := { name := "procNil", fn := fun _ => fun
  | [d] => { results := [.lit (.bool false)], args := [d] }
  | _ => none }
def ProcNilWrongFalsely : Prop := procNilRow.holds Try.pinned (OpenSpec.ofChange procNilWrong)

/- THE SECOND FORM. 'bulk': how many values and letters a reading holds, each counted each time it is reached (what is shared counts as often as it is met; a slice's spare places count too). A statement '..UptoSaid' is the law's where the arguments, and the package variables that the reading takes, are together of bulk at most 1048576: NARROWER than '..Said'. Prove '..Said' where nothing that the law and all that it calls make is longer than what came in: it says more and counts as full. Else prove '..UptoSaid'. A law counts once. -/
mutual
def uptoBulk {H : Type} : DataW H → Nat
  | .lit (.string bytes) => bytes.length + 1
  | .lit _ => 1
  | .nil => 1
  | .ptr d => uptoBulk d + 1
  | .slice elems spare => uptoBulkAll elems + uptoBulkAll spare + 1
  | .agg parts => uptoBulkAll parts + 1
  | .iface _ d => uptoBulk d + 1
  | .map entries => uptoBulkEntries entries + 1
  | .held _ => 1
def uptoBulkAll {H : Type} : List (DataW H) → Nat
  | [] => 0
  | d :: r => uptoBulk d + uptoBulkAll r
def uptoBulkEntries {H : Type} : List (Lit × DataW H) → Nat
  | [] => 0
  | x :: r => uptoBulkEntry x + uptoBulkEntries r
def uptoBulkEntry {H : Type} : Lit × DataW H → Nat
  | (.string bytes, d) => bytes.length + uptoBulk d + 1
  | (_, d) => uptoBulk d + 1
 end
def uptoSmall : (H : Type) → List (DataW H) → Bool := fun _ ds => decide (uptoBulkAll ds ≤ 1048576)
def OpenSpec.upto (s : _root_.Go.ChangeSpec) : _root_.Go.OpenSpec := { _root_.Go.OpenSpec.ofChange s with cond := some uptoSmall }

/-- 'moatlaw19.ProcLeast', WHERE WHAT IT READS IS OF BULK AT MOST 1048576: true; the input reads as it did. -/
def procLeastUptoRow : OpenClaim := { program := "ytajahediblcfeaa", sum := "2254e2b0b721fa68f1a5b5e5bb2c6ae1c9a75faa2f410a21fbd3b30a22cc84b8", func := "moat/moatlaw19.ProcLeast", spec := "procLeast", apart := false, narrowed := true }
def ProcLeastUptoSaid : Prop := procLeastUptoRow.holds Try.pinned (OpenSpec.upto procLeastSpec)

/-- 'moatlaw19.ProcShut', WHERE WHAT IT READS IS OF BULK AT MOST 1048576: true; the input reads as it did. -/
def procShutUptoRow : OpenClaim := { program := "ytajahediblcfeaa", sum := "2254e2b0b721fa68f1a5b5e5bb2c6ae1c9a75faa2f410a21fbd3b30a22cc84b8", func := "moat/moatlaw19.ProcShut", spec := "procShut", apart := false, narrowed := true }
def ProcShutUptoSaid : Prop := procShutUptoRow.holds Try.pinned (OpenSpec.upto procShutSpec)

/-- 'moatlaw19.ProcPlays', WHERE WHAT IT READS IS OF BULK AT MOST 1048576: true; the input reads as it did. -/
def procPlaysUptoRow : OpenClaim := { program := "ytajahediblcfeaa", sum := "2254e2b0b721fa68f1a5b5e5bb2c6ae1c9a75faa2f410a21fbd3b30a22cc84b8", func := "moat/moatlaw19.ProcPlays", spec := "procPlays", apart := false, narrowed := true }
def ProcPlaysUptoSaid : Prop := procPlaysUptoRow.holds Try.pinned (OpenSpec.upto procPlaysSpec)

/-- 'moatlaw19.ProcApart', WHERE WHAT IT READS IS OF BULK AT MOST 1048576: true; the input reads as it did. -/
def procApartUptoRow : OpenClaim := { program := "ytajahediblcfeaa", sum := "2254e2b0b721fa68f1a5b5e5bb2c6ae1c9a75faa2f410a21fbd3b30a22cc84b8", func := "moat/moatlaw19.ProcApart", spec := "procApart", apart := false, narrowed := true }
def ProcApartUptoSaid : Prop := procApartUptoRow.holds Try.pinned (OpenSpec.upto procApartSpec)

/-- 'moatlaw19.ProcNil', WHERE WHAT IT READS IS OF BULK AT MOST 1048576: true; the input reads as it did. -/
def procNilUptoRow : OpenClaim := { program := "ytajahediblcfeaa", sum := "2254e2b0b721fa68f1a5b5e5bb2c6ae1c9a75faa2f410a21fbd3b30a22cc84b8", func := "moat/moatlaw19.ProcNil", spec := "procNil", apart := false, narrowed := true }
def ProcNilUptoSaid : Prop := procNilUptoRow.holds Try.pinned (OpenSpec.upto procNilSpec)

end Rows
end Go.Proofs.Ytajahediblcfeaa
