/- slices.Sorted(maps.Keys(m)), maps.Clone, as contracts of the small machine: definitions. -/
import Derived.Test.YtcaaljlhljemoaaGreatMA
namespace Go.Mini
def zc5:List (MV×MV)→Option (List Int)
 | []=>some []
 | (.int .i64 n,_)::r=>if -9223372036854775808≤n∧n≤9223372036854775807 then(zc5 r).map (n :: ·)else none
 | _::_=>none
def z9g(f:FuncId)(seq:MV):M Sl:=fun h=>match seq with
 | .fn g [.ptr (some a)]=>if g=f then match h.get a.blk with
  | .cells cs _=>match cs[a.off]? with
   | some (.map (some b))=>match h.get b with
    | .map es=>match zc5 es with
     | some []=>some (⟨none,0⟩,h)
     | some ks=>if ks.length≤100000 then some (⟨some ⟨h.size,0⟩,ks.length⟩,h.push (.cells ((ks.mergeSort fun x y=>decide (x≤y)).map (.int .i64)) false))else none
     | none=>none
    | _=>none
   | _=>none
  | _=>none
  else none
 | _=>none
def zal(m:Option Nat):M (Option Nat):=fun h=>match m with
 | none=>some (none,h)
 | some b=>match h.get b with
  | .map es=>some (some h.size,h.push (.map es))
  | _=>none
end Go.Mini
