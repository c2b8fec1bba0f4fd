/- The laws' own toolkit: rows of structs that came in. -/
import Derived.Test.YtcaaljlhljemoaaGreatMW
import Derived.Test.YtcaaljlhljemoaaGreatMLW
namespace Go.Mini
theorem CTy.dec_enc (t:CTy) (x:t.den):t.dec (t.enc x)=some x:=by
 cases t with
 | int k=>exact if_pos rfl
 | sl e=>exact if_pos rfl
 | _=>rfl
theorem HC.dec_enc:∀(ts:List CTy) (x:HC ts),HC.dec ts (HC.enc ts x)=some x
 | [],()=>rfl
 | [t],x=>CTy.dec_enc t x
 | t::u::r,x=>by
  show (match t.dec (t.enc x.1) with
   | none=>none
   | some a=>match HC.dec (u::r) (HC.enc (u::r) x.2) with
    | some y=>some (a,y)
    | none=>none)=some x
  rw [CTy.dec_enc t x.1,HC.dec_enc (u::r) x.2]
  rfl
end Go.Mini

/- What comes in: slices and numbers, beside one another. -/
namespace Go.Mini
open Go.ChangeShapes Go.WideShapes Go.RowKit
section
variable {P:Program}
theorem zjz {W:World} {r:Reach} {base:Nat} {t E:TypeId} {v:Value} (hu:P.underlying t=some (.slice E)) (h:Value.okWide P W r base t v):∃a l c,v=.slice a l c:=by
 unfold Value.okWide at h
 rw [hu] at h
 dsimp only at h
 unfold Cell.okWide at h
 rw [hu] at h
 cases v<;>simp [Cell.ok,hu] at h
 exact ⟨_,_,_,rfl⟩
end
end Go.Mini
