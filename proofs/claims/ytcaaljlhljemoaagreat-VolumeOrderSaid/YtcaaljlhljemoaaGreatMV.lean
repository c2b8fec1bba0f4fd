/- A law that answers true on the small machine answers true, and leaves what came in. -/
import Derived.Test.YtcaaljlhljemoaaGreatMU
import Derived.Carry
import Derived.ChangeOld
import Derived.SizedLaws
import Derived.ChangeShapes
import Derived.RowKit
import Derived.OpenShut
import Derived.ProofKit
namespace Go.Mini
open Go.ChangeShapes Go.WideShapes Go.RowKit
theorem z9o {H:Type} {enc:TypeId×Value→H} {P:Program} (hl:laidOutB P=true) {W W':World} (hb:Below W.heap.size W W') :
  ∀(ts:List TypeId),ts.all (fun t=>P.readableRec t&&Nat.blt t P.types.size)=true→∀(vs:List Value) (ds:List (DataW H)) (ps:List MemPlace),DataW.TrodAll enc P W 0 (fun _=>true) true ts vs ds ps →
   DataW.TrodAll enc P W' 0 (fun b=>decide (b<W.heap.size)) true ts vs ds ps
 | [],_,[],[],ps,h=>h
 | [],_,[],_::_,ps,h=>h.elim
 | [],_,_::_,_,ps,h=>h.elim
 | t::ts,_,[],_,ps,h=>h.elim
 | t::ts,_,_::_,[],ps,h=>h.elim
 | t::ts,hr,v::vs,d::ds,ps,⟨p,q,hp,hq,e⟩=>by
  simp only [List.all_cons,Bool.and_eq_true] at hr
  obtain ⟨⟨h1,h2⟩,h3⟩:=hr
  have hlt:∀x∈p,x.block<W.heap.size:=by
   obtain ⟨m,hm⟩:=hp
   exact DataW.trod_lt m _ _ _ hm
  have h2':t<P.types.size:=by
   have h4:Nat.ble (t+1) P.types.size=true:=h2
   exact Nat.le_of_ble_eq_true h4
  exact ⟨p,q,Below.trod hl h1 h2' hp hb hlt,z9o hl hb ts h3 vs ds q hq,e⟩
theorem z8g {H:Type} {enc:TypeId×Value→H} {P:Program} {W:World} {b:Nat} {sp:Nat→Bool} {hd:Bool} :
  ∀ {ts:List TypeId} {vs:List Value} {ds:List (DataW H)} {ps:List MemPlace},DataW.TrodAll enc P W b sp hd ts vs ds ps→vs.length=ts.length∧ds.length=ts.length
 | [],[],[],_,_=>⟨rfl,rfl⟩
 | [],[],_::_,_,h=>h.elim
 | [],_::_,_,_,h=>h.elim
 | _::_,[],_,_,h=>h.elim
 | _::_,_::_,[],_,h=>h.elim
 | _::ts,_::vs,_::ds,_,⟨p,q,_,hq,_⟩=>by
  have:=z8g hq
  exact ⟨by simp [this.1],by simp [this.2]⟩
theorem zq2 {C:Checked} {os:Os} (started:os.Started) {H:Type} {enc:TypeId×Value→H} {f:FuncId} {fn:Func} {s:ChangeSpec} {conds:List PathCond} (own:ownKnob C.prog.godebug=none) (laid:laidOutB C.prog=true)
  (noInit:C.prog.inits.idxOf? f=none) (hfn:C.prog.funcs[f]? = some fn)
  (witness:∃(w:World) (tape:Tape) (i:Input),w.os=os∧(w.forCall tape i).Shaped C.prog∧i.vars=[]∧Input.okWide C.prog (w.forCall tape i) .any w.heap.size f i ∧
   s.pre6 enc C.prog fn conds false (w.forCall tape i).memory i.args∧({}:Assume).holds C.prog (lone (Frame.enter C.prog f i.args .normal) [] (w.forCall tape i)))
  {rt:TypeId} (hres:fn.resultTypes = #[rt]) (hrt:C.prog.underlying rt=some .bool) (hvars:s.vars=[])
  (hs:∀(ds:List (DataW H)),ds.length=fn.params.size→s.fn H ds={results:=[.lit (.bool true)],args:=ds})
  (hread:fn.params.toList.all (fun t=>C.prog.readableRec t&&Nat.blt t C.prog.types.size)=true)
  (law:∀(W:World) (base:Nat) (args:Array Value) (ds:List (DataW H)) (p:List MemPlace),args.size=fn.params.size →
   (∀(j:Nat) t v,fn.params[j]? = some t→args[j]? = some v→Value.okWide C.prog W .any base t v) →
   DataW.TrodAll enc C.prog W 0 (fun _=>true) true fn.params.toList args.toList ds p →
   (DataW.weightsEach C.prog (fn.params.toList++s.plain.varTypes C.prog) (ds++[])).all (· ≤ reachBytes)=true →
   Calls C.prog f args W fun e W'=>e=.returned (.bool true)∧Below W.heap.size W W') :
  ReturnsInHanded {} C os f .any (s.pre6 enc C.prog fn conds false) (s.post enc C.prog fn false true false false):=by
 refine returnsInHanded_of_change_sized (C:=C) own started noInit hfn witness ?_
 intro W base args ds gs before hval hW _ hsz _
 have hW':=hW
 obtain ⟨p,q,hA,hV,rfl,hfz,hnd⟩:=hW
 rw [hvars] at hV
 obtain ⟨rfl,rfl⟩:=trodVars_none hV
 have hlen:=z8g hA
 have hsz1:args.size=fn.params.size:=by simpa using hlen.1
 refine (law W base args ds p hsz1 hval hA hsz).mono fun e W' ⟨he,bel⟩=>?_
 subst he
 have hsp:=hs ds (by simpa using hlen.2)
 have h1:s.fn H (ds++[])={results:=[.lit (.bool true)],args:=ds}:=by rw [List.append_nil];exact hsp
 refine ⟨_,rfl,ds,[],p++[],[],p,[],hW',?_,?_,?_,bel.frame _,fun h=>by cases h⟩
 ·rw [h1,hres]
  exact trodAll_mk1 (shut_bool hrt _)
 ·rw [h1]
  exact z9o laid bel _ hread _ _ _ hA
 ·rw [h1,hvars]
  rfl
section
variable {P:Program} {ρ:Rho}
theorem zmq {f:FuncId} {ps:List Ty} {n:Nat} {g:HT ps→M (HR [.s n (.c .bool)])} (S:Sound P f (entry ps [.s n (.c .bool)] g)) {margs:List MV} {a:HT ps} (hd:HT.dec ps margs=some a) {h0 h':Hp} (hrun:g a h0=some (true,h'))
  {W:World} (hr:HRel ρ h0 W.heap) (nofoot:∀b,¬Own h0 b) {rargs:Array Value} (hv:VRels ρ margs rargs.toList):Calls P f rargs W fun e W'=>e=.returned (.bool true)∧Below W.heap.size W W':=by
 have h1:(entry ps [.s n (.c .bool)] g).run margs ret h0=some (.bool true,h'):=by
  unfold Entry.run
  rw [show (entry ps [.s n (.c .bool)] g).dec margs=some a from hd]
  show bd (g a) (fun r=>ret (HR.enc [.s n (.c .bool)] r)) h0=_
  simp only [bd,hrun]
  rfl
 refine (S.calls margs _ h0 h' h1 ρ W rargs.toList hr hv).mono fun e W' hh=>?_
 obtain ⟨rv,ρ',he,hrv,_,hst⟩:=hh
 cases hrv
 exact ⟨he,hst.os,hst.tape,hst.output,hst.size,fun k hk=>hst.old k hk (by rintro ⟨b,rb,_,ho,_⟩;exact nofoot b ho)⟩
theorem HRel.none (H:Array Obj) (hG:GM=[]:=by rfl):HRel (fun _ =>.none) Hp.empty H where
 dom:=fun b rb h=>by cases h
 live:=fun b h=>absurd rfl h
 inj:=fun b b' rb rb' h=>by cases h
 blk:=fun b rb h=>by cases h
 gl:=fun i g h=>by rw [hG] at h;cases h
def flatC:CTy→Bool
 | .bool | .int _ | .str=>true
 | _=>false
def MV.has:MV→Prop
 | .int k n=>k.has n
 | .str s=>(s.length:Int)≤IntKind.i64.max
 | _=>True
end
end Go.Mini
