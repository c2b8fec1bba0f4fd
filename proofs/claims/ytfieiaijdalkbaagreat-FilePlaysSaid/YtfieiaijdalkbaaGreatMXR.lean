/- A function that calls itself: as deep as one likes. -/
import Derived.Test.YtfieiaijdalkbaaGreatMU
namespace Go.Mini
variable{P:Program}
theorem zxj {f : FuncId} {fn : Func} {c : Code} {ps : List Ty} {rs : List RV} (hf : P.funcs[f]? = some fn) (hb : fn.body = some c) (hname : (fn.name == "runtime.NumGoroutine") = false) {g : HT ps → M (HR rs)} (hg : ∀ a h, g a h = none) : Sound P f (z5o ps rs g) := by
 refine⟨?_,?_⟩
 ·intro args w;unfold callFunc;simp only[Sem.run_bind,run_program,Result.andThen_ok,hf];simp[hname,hb]
 ·intro args v h h' e;simp only[Entry.run,z5o]at e;cases hd:HT.dec ps args with
  | none=>rw[hd]at e;cases e
  | some a=>
   rw[hd]at e;obtain⟨r,h1,e1,_⟩:=z0f e;rw[hg a h]at e1;cases e1
def sr{P:Program}(N k:Nat)(ps:List Ty)(rs:List RV)(g:Nat→HT ps→M (HR rs))(L:List (PS P))(n:Nat)(pr pu:List Nat)(hs:List Hint){fn:Func}(hf:P.funcs[k]? = some fn)(h1:okF P n pr pu hs fn ps.length rs=true)(h0:∀a h,g 0 a h=none)(h2:∀R,(fun a=>body ((k,z5o ps rs (g R))::L.map PS.c) N (zxn (comp P n pr pu (zf8 fn) none hs)) ps rs a)=g (R+1)):PS P:=by
 refine⟨k,z5o ps rs (g N),?_⟩;suffices h:∀R,Sound P k (z5o ps rs (g R))from h N
 intro R;induction R with
 | zero=>
  have h3:=h1;unfold okF at h3;simp only[Bool.and_eq_true]at h3;exact zxj hf (zw6 h3.1) (by simpa using h3.2.1) h0
 | succ R ih=>exact zp1 (C:=(k,z5o ps rs (g R))::L.map PS.c) ⟨ih,zo3 L⟩ hf h1 fun a=>congrFun (h2 R) a
end Go.Mini
