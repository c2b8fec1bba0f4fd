/- slices.Sorted(maps.Keys(m)), maps.Clone, as contracts of the small machine: definitions. -/
import Derived.Test.YtfieiaijdalkbaaGreatMA
namespace Go.Mini
def zde:List (MV×MV)→Option (List Int)
 | []=>some []
 | (.int .i64 n,_)::r=>if -9223372036854775808≤n∧n≤9223372036854775807 then(zde r).map (n :: ·)else none
 | _::_=>none
def za6(f:FuncId)(seq:MV):M Sl:=fun h=>match seq with
 | .fn g [.ptr (some a)]=>if g=f then match h.get a.blk with
  | .cells cs _=>match cs[a.off]? with
   | some (.map (some b))=>match h.get b with
    | .map es=>match zde es with
     | some []=>some (⟨none,0⟩,h)
     | some ks=>if ks.length≤100000 then some (⟨some ⟨h.size,0⟩,ks.length⟩,h.push (.cells ((ks.mergeSort fun x y=>decide (x≤y)).map (.int .i64)) false))else none
     | none=>none
    | _=>none
   | _=>none
  | _=>none
  else none
 | _=>none
def zbi(m:Option Nat):M (Option Nat):=fun h=>match m with
 | none=>some (none,h)
 | some b=>match h.get b with
  | .map es=>some (some h.size,h.push (.map es))
  | _=>none
end Go.Mini
