/- strconv.Itoa, strconv.Atoi, strings.Join, strings.Split, as contracts of the small machine: definitions. Blocks 0, 1, 2 are strconv.ErrSyntax, strconv.ErrRange, bytealg.MaxLen. -/
import Derived.Test.YtpejkcmkboegdaaDoorMA
import Derived.Lib.AtoiAll
import Derived.Lib.ItoaNum
import Derived.Lib.Join
import Derived.Lib.Split
namespace Go.Mini

/-- strconv.Itoa, below 100. -/
def itoaS (i : Int) : M (List UInt8) := if 0 ≤ i ∧ i < 100 then ret (Lib.decDigits i.toNat) else fail

def strsOf : List MV → Option (List (List UInt8))
  | [] => some []
  | .str s :: r => match strsOf r with
    | some xs => some (s :: xs)
    | none => none
  | _ :: _ => none

/-- strings.Join -/
def joinS (s : Sl) (sep : List UInt8) : M (List UInt8) := bd (cellsOf 1 s) fun cs => match strsOf cs with
  | none => fail
  | some xs => if (Lib.join xs sep).length ≤ 140737488355328 ∧ xs.length ≤ 140737488355328 then ret (Lib.join xs sep) else fail

/-- strings.Split -/
def splitS (s sep : List UInt8) : M Sl := fun h => match h.get 2 with
  | .cells (.int .i64 _ :: _) _ => if s.length < 4294967281 ∧ 1 ≤ sep.length then
      some (⟨some ⟨h.size, 0⟩, (Lib.split s sep).length⟩, h.push (.cells ((Lib.split s sep).map .str) false)) else none
  | _ => none

def isErr : MV → Bool
  | .nilIface => true
  | .iface _ _ => true
  | _ => false

/-- strconv.Atoi's error: 'g': the block that holds the cause. -/
def atoiE (te : TypeId) (g : Nat) (n : Int) (s : List UInt8) : M (Int × MV) := fun h => match h.get g with
  | .cells (ev :: _) _ => if isErr ev = true ∧ s.length ≤ 281474976710656 then
      some ((n, .iface te (.ptr (some ⟨h.size, 0⟩))), h.push (.cells [.str [65, 116, 111, 105], .str s, ev] false)) else none
  | _ => none

/-- strconv.Atoi -/
def atoiS (te : TypeId) (s : List UInt8) : M (Int × MV) := match Lib.atoiAll s with
  | .ok v => if s.length ≤ 9223372036854775806 then ret (v, .nilIface) else fail
  | .range => atoiE te 1 (Lib.atoiSat s) s
  | _ => atoiE te 0 0 s

end Go.Mini
