/- A law that answers true on the small machine answers true, and leaves what came in. -/
import Derived.Test.YtfieiaijdalkbaaGreatMU
import Derived.Carry
import Derived.ChangeOld
import Derived.SizedLaws
import Derived.ChangeShapes
import Derived.RowKit
import Derived.OpenShut
import Derived.ProofKit
namespace Go.Mini
open Go.ChangeShapes Go.WideShapes Go.RowKit
theorem zhp{H:Type}{enc:TypeId×Value→H}{P:Program}(hl:laidOutB P=true){W W':World}(hb:Below W.heap.size W W') :
  ∀(ts:List TypeId),ts.all (fun t=>P.readableRec t&&Nat.blt t P.types.size)=true→∀(vs:List Value)(ds:List (DataW H))(ps:List MemPlace),DataW.TrodAll enc P W 0 (fun _=>true) true ts vs ds ps →
   DataW.TrodAll enc P W' 0 (fun b=>decide (b<W.heap.size)) true ts vs ds ps
 | [],_,[],[],ps,h=>h
 | [],_,[],_::_,ps,h=>h.elim
 | [],_,_::_,_,ps,h=>h.elim
 | t::ts,_,[],_,ps,h=>h.elim
 | t::ts,_,_::_,[],ps,h=>h.elim
 | t::ts,hr,v::vs,d::ds,ps,⟨p,q,hp,hq,e⟩=>by
  simp only[List.all_cons,Bool.and_eq_true]at hr;obtain⟨⟨h1,h2⟩,h3⟩:=hr;have hlt:∀x∈p,x.block<W.heap.size:=by
   obtain⟨m,hm⟩:=hp;exact DataW.trod_lt m _ _ _ hm
  have h2':t<P.types.size:=by
   have h4:Nat.ble (t+1) P.types.size=true:=h2;exact Nat.le_of_ble_eq_true h4
  exact⟨p,q,Below.trod hl h1 h2' hp hb hlt,zhp hl hb ts h3 vs ds q hq,e⟩
theorem zg5{H:Type}{enc:TypeId×Value→H}{P:Program}{W:World}{b:Nat}{sp:Nat→Bool}{hd:Bool} :
  ∀{ts:List TypeId}{vs:List Value}{ds:List (DataW H)}{ps:List MemPlace},DataW.TrodAll enc P W b sp hd ts vs ds ps→vs.length=ts.length∧ds.length=ts.length
 | [],[],[],_,_=>⟨rfl,rfl⟩
 | [],[],_::_,_,h=>h.elim
 | [],_::_,_,_,h=>h.elim
 | _::_,[],_,_,h=>h.elim
 | _::_,_::_,[],_,h=>h.elim
 | _::ts,_::vs,_::ds,_,⟨p,q,_,hq,_⟩=>by
  have:=zg5 hq
  exact⟨by simp[this.1],by simp[this.2]⟩
theorem z13k{C:Checked}{os:Os}(started:os.Started){H:Type}{enc:TypeId×Value→H}{f:FuncId}{fn:Func}{s:ChangeSpec}{conds:List PathCond}(own:ownKnob C.prog.godebug=none)(laid:laidOutB C.prog=true)
  (noInit:C.prog.inits.idxOf? f=none) (hfn:C.prog.funcs[f]? = some fn)
  (witness:∃(w:World)(tape:Tape)(i:Input),w.os=os∧(w.forCall tape i).Shaped C.prog∧i.vars=[]∧Input.okWide C.prog (w.forCall tape i) .any w.heap.size f i ∧
   s.pre6 enc C.prog fn conds false (w.forCall tape i).memory i.args∧({}:Assume).holds C.prog (lone (Frame.enter C.prog f i.args .normal) [] (w.forCall tape i)))
  {rt:TypeId} (hres:fn.resultTypes = #[rt]) (hrt:C.prog.underlying rt=some .bool) (hvars:s.vars=[])
  (hs:∀(ds:List (DataW H)),ds.length=fn.params.size→s.fn H ds={results:=[.lit (.bool true)],args:=ds})
  (hread:fn.params.toList.all (fun t=>C.prog.readableRec t&&Nat.blt t C.prog.types.size)=true)
  (law:∀(W:World)(base:Nat)(args:Array Value)(ds:List (DataW H))(p:List MemPlace),args.size=fn.params.size →
   (∀(j:Nat) t v,fn.params[j]? = some t→args[j]? = some v→Value.okWide C.prog W .any base t v) →
   DataW.TrodAll enc C.prog W 0 (fun _=>true) true fn.params.toList args.toList ds p →
   (DataW.weightsEach C.prog (fn.params.toList++s.plain.varTypes C.prog) (ds++[])).all (· ≤ reachBytes)=true →
   Calls C.prog f args W fun e W'=>e=.returned (.bool true)∧Below W.heap.size W W') :
  ReturnsInHanded {} C os f .any (s.pre6 enc C.prog fn conds false) (s.post enc C.prog fn false true false false):=by
 refine returnsInHanded_of_change_sized (C:=C) own started noInit hfn witness ?_;intro W base args ds gs before hval hW _ hsz _;have hW':=hW;obtain⟨p,q,hA,hV,rfl,hfz,hnd⟩:=hW;rw[hvars]at hV;obtain⟨rfl,rfl⟩:=trodVars_none hV;have hlen:=zg5 hA;have hsz1:args.size=fn.params.size:=by simpa using hlen.1
 refine(law W base args ds p hsz1 hval hA hsz).mono fun e W' ⟨he,bel⟩=>?_;subst he;have hsp:=hs ds (by simpa using hlen.2);have h1:s.fn H (ds++[])={results:=[.lit (.bool true)],args:=ds}:=by rw[List.append_nil];exact hsp
 refine⟨_,rfl,ds,[],p++[],[],p,[],hW',?_,?_,?_,bel.frame _,fun h=>by cases h⟩
 ·rw[h1,hres];exact trodAll_mk1 (shut_bool hrt _)
 ·rw[h1];exact zhp laid bel _ hread _ _ _ hA
 ·rw[h1,hvars];rfl
section
variable{P:Program}{ρ:Rho}
theorem zzn{f:FuncId}{ps:List Ty}{n:Nat}{g:HT ps→M (HR [.s n (.c .bool)])}(S:Sound P f (z5o ps [.s n (.c .bool)] g)){margs:List MV}{a:HT ps}(hd:HT.dec ps margs=some a){h0 h':Hp}(hrun:g a h0=some (true,h'))
  {W:World} (hr:HRel ρ h0 W.heap) (nofoot:∀b,¬Own h0 b) {rargs:Array Value} (hv:VRels ρ margs rargs.toList):Calls P f rargs W fun e W'=>e=.returned (.bool true)∧Below W.heap.size W W':=by
 have h1:(z5o ps [.s n (.c .bool)] g).run margs ret h0=some (.bool true,h'):=by
  unfold Entry.run;rw[show(z5o ps [.s n (.c .bool)] g).dec margs=some a from hd];show bd (g a) (fun r=>ret (HR.enc [.s n (.c .bool)] r)) h0=_;simp only[bd,hrun];rfl
 refine(S.calls margs _ h0 h' h1 ρ W rargs.toList hr hv).mono fun e W' hh=>?_;obtain⟨rv,ρ',he,hrv,_,hst⟩:=hh;cases hrv;exact⟨he,hst.os,hst.tape,hst.output,hst.size,fun k hk=>hst.old k hk (by rintro⟨b,rb,_,ho,_⟩;exact nofoot b ho)⟩
theorem HRel.none(H:Array Obj)(hG:GM=[]:=by rfl):HRel (fun _ =>.none) Hp.empty H where
 dom:=fun b rb h=>by cases h
 live:=fun b h=>absurd rfl h
 inj:=fun b b' rb rb' h=>by cases h
 blk:=fun b rb h=>by cases h
 gl:=fun i g h=>by rw[hG]at h;cases h
def zrj:CTy→Bool
 | .bool | .int _ | .str=>true
 | _=>false
def MV.has:MV→Prop
 | .int k n=>k.has n
 | .str s=>(s.length:Int)≤IntKind.i64.max
 | _=>True
end
end Go.Mini

/- Rows of structs of numbers, texts and bools, as they come in. -/
namespace Go.Mini
section
variable{P:Program}{ρ:Rho}
def zhk(P:Program):Nat→TypeId→Option (List (Nat×CTy))
 | 0,_=>none
 | d+1,t=>match P.underlying t with
  | some (.struct fs)=>fs.toList.foldr (fun f r=>match zhk P d f.type,r with
   | some l,some r=>some (l.map (fun x=>(f.offset+x.1,x.2))++r)
   | _,_=>none) (some [])
  | some (.array _ _)=>none
  | _=>match cty P t with
   | some c=>bif zrj c then some [(0,c)]else none
   | none=>none
theorem zf7{g:Field→Option (List (Nat×CTy))}:∀{fs:List Field}{L:List (Nat×CTy)},fs.foldr (fun f r=>match g f,r with
   | some l,some r=>some (l.map (fun x=>(f.offset+x.1,x.2))++r)
   | _,_=>none) (some [])=some L→∀x∈L,∃f∈fs,∃l,g f=some l∧∃y∈l,x=(f.offset+y.1,y.2)
 | [],L,h,x,hx=>by cases h;cases hx
 | f::fs,L,h,x,hx=>by
  simp only[List.foldr_cons]at h;split at h
  ·rename_i l r hl hr;cases h;rcases List.mem_append.1 hx with hx | hx
   ·obtain⟨y,hy,rfl⟩:=List.mem_map.1 hx;exact⟨f,by simp,l,hl,y,hy,rfl⟩
   ·obtain⟨f',hf',l',h1,h2⟩:=zf7 hr x hx;exact⟨f',by simp[hf'],l',h1,h2⟩
  ·cases h
theorem zlr{α β:Type}{g:α→Option β}:∀{l:List α}{ys:List β},l.mapM g=some ys→∀a∈l,∃y,g a=some y
 | [],_,_,a,h=>by cases h
 | b::l,ys,h,a,ha=>by
  rw[List.mapM_cons]at h;cases hb:g b with
  | none=>rw[hb]at h;cases h
  | some y=>
   rw[hb]at h;cases hl:l.mapM g with
   | none=>simp[hl]at h
   | some zs=>
    rcases List.mem_cons.1 ha with rfl | ha
    ·exact⟨y,hb⟩
    ·exact zlr hl a ha
def zdj(c:CTy)(v:Value):Prop:=∀ρ:Rho,∃m x,VRel ρ m v∧c.dec m=some x∧m.has
theorem z13l(b:Bool):zdj .bool (.bool b):=fun _=>⟨_,_,.bool _,rfl,trivial⟩
theorem z16e{k:IntKind}{n:Int}(h:k.has n):zdj (.int k) (.int k n):=fun _=>⟨_,_,.int _ _,if_pos rfl,h⟩
theorem z16f{s:ByteArray}(h:(s.size:Int)≤IntKind.i64.max):zdj .str (.string s):=fun ρ=>by
 refine⟨.str s.data.toList,_,?_,rfl,?_⟩
 ·have:=VRel.str (ρ:=ρ) s.data.toList
  simpa using this
 ·show((s.data.toList.length:Nat):Int)≤_;rw[Array.length_toList];exact h
theorem zzo{n:Nat}(h:n≤maxLen):(n:Int)≤IntKind.i64.max:=by
 have h1:(maxLen:Int)≤IntKind.i64.max:=by decide
 omega
theorem zjd{H:Type}{enc:TypeId×Value→H}{w:World}{base:Nat}{sp:Nat→Bool}{hd:Bool}:∀(d:Nat)(t:TypeId)(L:List (Nat×CTy)),zhk P d t=some L→∀(fuel:Nat)(cs:List Value)(x:DataW H×List MemPlace),
  DataW.trod enc P w base sp hd fuel t cs=some x→∀y∈L,∃v,cs[y.1]? = some v∧zdj y.2 v
 | 0,_,_,h,_,_,_,_,_,_=>by cases h
 | d+1,t,L,h,fuel,cs,x,ht,y,hy=>by
  cases fuel with
  | zero=>cases ht
  | succ fuel=>
   simp only[zhk]at h;split at h
   ·rename_i fs hu;simp only[DataW.trod,hu]at ht;split at ht
    ·obtain⟨ys,hys,_⟩:=map_some ht;obtain⟨f,hf,l,hl,z,hz,rfl⟩:=zf7 h y hy;obtain⟨q,hq⟩:=zlr hys f hf;obtain⟨v,hv,hfl⟩:=zjd d f.type l hl fuel _ q hq z hz;refine⟨v,?_,hfl⟩;rw[List.getElem?_take]at hv;split at hv
     ·rw[List.getElem?_drop]at hv;exact hv
     ·cases hv
    ·cases ht
   ·cases h
   ·rename_i hns hna;split at h
    ·rename_i c hc;cases hfl:zrj c with
     | false=>rw[hfl]at h;cases h
     | true=>
      rw[hfl]at h;cases h;simp only[List.mem_singleton]at hy;subst hy;cases c with
      | bool=>
       have hu:=zl1 hc;simp only[DataW.trod,hu]at ht;split at ht<;>first | (have hh := ‹some TypeDesc.bool=some _›;cases hh;done) | skip
       ·exact⟨_,rfl,z13l _⟩
       ·cases ht
      | int k=>
       have hu:=zob hc;simp only[DataW.trod,hu]at ht;split at ht<;>first | (have hh := ‹some (TypeDesc.int k)=some _›;cases hh;done) | skip
       ·have hh := ‹some (TypeDesc.int k)=some _›;cases hh;split at ht
        ·rename_i h2;obtain⟨rfl,h3⟩:=h2;exact⟨_,rfl,z16e (by simpa[Lit.wf,IntKind.has]using h3)⟩
        ·cases ht
       ·cases ht
      | str=>
       have hu:=zoc hc;simp only[DataW.trod,hu]at ht;split at ht<;>first | (have hh := ‹some TypeDesc.string=some _›;cases hh;done) | skip
       ·split at ht
        ·rename_i h2;exact⟨_,rfl,z16f (zzo h2)⟩
        ·cases ht
       ·cases ht
      | _=>cases hfl
    ·cases h
theorem zls{α β:Type}{g:α→Option β}:∀{l:List α}{ys:List β},l.mapM g=some ys→ys.length=l.length∧∀(j:Nat) v,ys[j]? = some v→∃a,l[j]? = some a∧g a=some v
 | [],ys,h=>by cases h;exact⟨rfl,fun j v hj=>by simp at hj⟩
 | b::l,ys,h=>by
  rw[List.mapM_cons]at h;cases hb:g b with
  | none=>rw[hb]at h;cases h
  | some y=>
   rw[hb]at h;cases hl:l.mapM g with
   | none=>simp[hl]at h
   | some zs=>
    simp[hl]at h;subst h;obtain⟨h1,h2⟩:=zls hl;refine⟨by simp[h1],fun j v hj=>?_⟩;cases j with
    | zero=>simp at hj;subst hj;exact⟨b,rfl,hb⟩
    | succ j=>exact h2 j v (by simpa using hj)
theorem zdj.enc{c:CTy}{v:Value}(h:zdj c v)(ρ:Rho):∃x:c.den,VRel ρ (c.enc x) v∧(c.enc x).has:=by
 obtain⟨m,x,h1,h2,h3⟩:=h ρ;have:=CTy.enc_dec h2
 exact⟨x,by rw[this];exact h1,by rw[this];exact h3⟩
theorem HC.enc_length:∀(cts:List CTy)(x:HC cts),(HC.enc cts x).length=cts.length
 | [],_=>rfl
 | [_],_=>rfl
 | _::u::r,x=>by
  show(HC.enc (u::r) x.2).length+1=_;rw[HC.enc_length (u::r) x.2];rfl
def z4p(cts:List CTy)(xs:List (HC cts)):List MV:=xs.flatMap (HC.enc cts)
theorem z9q{cts:List CTy}:∀(xs:List (HC cts)),(z4p cts xs).length=xs.length * cts.length
 | []=>by simp[z4p]
 | x::xs=>by
  have ih:=z9q xs;simp only[z4p,List.flatMap_cons,List.length_append,HC.enc_length,List.length_cons]at ih ⊢;rw[ih,Nat.add_mul,Nat.one_mul,Nat.add_comm]
def zje(rb:RB):Rho:=fun b=>if b=0 then some rb else none
theorem HRel.one{rb:RB}{x:Blk}{H:Array Obj}(hb:z5i (zje rb) rb x H)(hG:GM=[]:=by rfl):HRel (zje rb) (Hp.empty.push x) H where
 dom:=fun b q h=>by
  unfold zje at h;split at h
  ·rename_i e;subst e;exact Nat.zero_lt_one
  ·cases h
 live:=fun b hd=>by
  by_cases e:b=0
  ·subst e;exact⟨rb,rfl⟩
  ·exact absurd (show(Hp.empty.push x).get b=.dead by rw[Hp.get_push];exact if_neg e) hd
 inj:=fun b b' q q' h h' _ _ hne=>by
  unfold zje at h h';split at h
  ·split at h'
   ·rename_i e e';exact absurd (e.trans e'.symm) hne
   ·cases h'
  ·cases h
 gl:=fun i g h=>by rw[hG]at h;cases h
 blk:=fun b q h=>by
  unfold zje at h;split at h
  ·rename_i e;subst e;cases h;rw[Hp.get_push];exact hb
  ·cases h
theorem zd0(a:Addr):a.add 0=a:=rfl
theorem zqs{a:Addr}(h:a.spot=none)(p q:Nat):(a.add p).add q=⟨a.block,a.off+(p+q),none⟩:=by
 obtain⟨b,o,s⟩:=a;dsimp only at h;subst h;unfold Addr.add;split<;>split<;>simp_all[Nat.add_assoc]
end
end Go.Mini
