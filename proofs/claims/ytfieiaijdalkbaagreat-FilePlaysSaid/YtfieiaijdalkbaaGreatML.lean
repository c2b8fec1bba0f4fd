/- Single operations, all of them. -/
import Derived.Test.YtfieiaijdalkbaaGreatMK
namespace Go.Mini
universe u
section
variable{P:Program}{β:Type}{s:S}{res:β×Hp}{next:Act→World→Prop}{Q:Exit→Act→World→Prop}{k:Fr→M β}{C:List (Nat×Entry)}{priv:List Nat}
theorem z0a{n d:Nat}{i:Ins}(hi:i.dst=[d])(h:insOk n i=true):d<n:=by
 simp[insOk,hi]at h;exact h
theorem map_some{α γ:Type u}{x:Option α}{f:α→γ}{y:γ}(h:x.map f=some y):∃a,x=some a∧f a=y:=by
 cases x with
 | none=>cases h
 | some a=>exact⟨a,rfl,by simpa using h⟩
theorem z30{x:Option MV}{k:IntKind→Int→M β}{h:Hp}(e:z3o x k h=some res):∃kd n,x=some (.int kd n)∧k kd n h=some res:=by
 unfold z3o at e;split at e
 ·exact⟨_,_,rfl,e⟩
 ·cases e
theorem z49{x:Option MV}{k:List UInt8→M β}{h:Hp}(e:z58 x k h=some res):∃s,x=some (.str s)∧k s h=some res:=by
 unfold z58 at e;split at e
 ·exact⟨_,rfl,e⟩
 ·cases e
theorem z2b{x:Option MV}{k:Option MA→Nat→Nat→M β}{h:Hp}(e:wSl x k h=some res):∃p l z,x=some (.sl p l z)∧k p l z h=some res:=by
 unfold wSl at e;split at e
 ·exact⟨_,_,_,rfl,e⟩
 ·cases e
theorem zp7{x:Option MV}{k:List MV→M β}{h:Hp}(e:zbd x k h=some res):∃s,x=some (.tup s)∧k s h=some res:=by
 unfold zbd at e;split at e
 ·exact⟨_,rfl,e⟩
 ·cases e
theorem z2t{x:Option MV}{k:List MV→M β}{h:Hp}(e:z4s x k h=some res):∃s,x=some (.agg s)∧k s h=some res:=by
 unfold z4s at e;split at e
 ·exact⟨_,rfl,e⟩
 ·cases e
theorem z31{x:Option MV}{k:Option Nat→M β}{h:Hp}(e:z7o x k h=some res):∃s,x=some (.map s)∧k s h=some res:=by
 unfold z7o at e;split at e
 ·exact⟨_,rfl,e⟩
 ·cases e
theorem zp8{x:Option MV}{k:Option MA→M β}{h:Hp}(e:zd3 x k h=some res):∃s,x=some (.ptr s)∧k s h=some res:=by
 unfold zd3 at e;split at e
 ·exact⟨_,rfl,e⟩
 ·cases e
theorem zgb{x:Option MV}{k:FuncId→List MV→M β}{h:Hp}(e:wFn x k h=some res):∃f c,x=some (.fn f c)∧k f c h=some res:=by
 unfold wFn at e;split at e
 ·exact⟨_,_,rfl,e⟩
 ·cases e
theorem z2f{x:Option FV}{k1:Option MA→M β}{k2:Nat→Nat→M β}{h:Hp}(e:z3e x k1 k2 h=some res):(∃q,x=some (.v (.ptr q))∧k1 q h=some res)∨∃n o,x=some (.loc n o)∧k2 n o h=some res:=by
 unfold z3e at e;split at e
 ·exact .inl ⟨_,rfl,e⟩
 ·exact .inr ⟨_,_,rfl,e⟩
 ·cases e
theorem z2u{b:Bool}{m:M β}{h:Hp}(e:wIf b m h=some res):b=true∧m h=some res:=by
 cases b with
 | false=>cases e
 | true=>exact⟨rfl,e⟩
theorem zcj{o:Oper}(ok:Ok s){d:Nat}(hd:o.dst=some d)(hlt:d<s.t.size){fv:FV}{y:Value}(hv:zb9 s.ρ s.π fv y)
  (hrun:(execOp (Act.eval ⟨s.t,[]⟩) o).run P s.w=.ok (.value y) s.w) (e:k (s.fr.setF d fv) s.h=some res) (h:z29 s [d] k res next):o.wp P ⟨s.t,[]⟩ s.w next Q:=by
 obtain⟨k1,st⟩:=ok.setF hlt hv;exact zej hd hrun (h _ k1 st e)
theorem Opd.mv_val{fr:Fr}{x:Opd}{v:MV}(h:x.mv fr=some v):x.val fr=some (.v v):=by
 unfold Opd.mv at h;split at h
 ·rename_i u hu;cases h;exact hu
 ·cases h
theorem z5z(ok:Ok s){n:Nat}{fv:FV}(hv:(Opd.t n).val s.fr=some fv):zb9 s.ρ s.π fv (Act.eval ⟨s.t,[]⟩ (.tmp n)):=(ok.slots n fv hv).2
theorem z71(ok:Ok s){n:Nat}{v:MV}(hv:(Opd.t n).mv s.fr=some v):VRel s.ρ v (Act.eval ⟨s.t,[]⟩ (.tmp n)):=z5z ok (Opd.mv_val hv)
theorem zv4{t:TypeId}{pv:PV}(e:zsh P t=some pv):∃i v,P.info? t=some i∧i.zero=some v∧∀ρ,VRels ρ pv.cells v.cells.toList:=by
 unfold zsh at e;split at e
 ·cases e
 ·rename_i z hz;obtain⟨i,v,h1,h2,h3⟩:=zeroOf_spec hz;refine⟨i,v,h1,h2,fun ρ=>?_⟩;split at e
  ·cases e;exact h3 ρ
  ·cases e;exact h3 ρ
  ·split at e
   ·split at e
    ·obtain⟨xs,hxs,rfl⟩:=map_some e;simp only[PV.cells];rw[zgf hxs];exact h3 ρ
    ·cases e;exact h3 ρ
   ·cases e;exact h3 ρ
  ·cases e
theorem zak{ds:List Nat}:∀{l:List (Nat×FV)}{n:Nat}{x:FV},z0g (zel ds l) n=some x→n ∉ ds∧(x=.gone∨(z0g l n=some x∧∀g o,x=.loc g o→g ∉ ds))
 | [],n,x,h=>by cases h
 | (m,y)::r,n,x,h=>by
  simp only[zel]at h;cases hm:mem m ds with
  | true=>
   rw[hm]at h;simp only[cond_true]at h;obtain⟨h0,h1⟩:=zak h;refine⟨h0,?_⟩;rcases h1 with h1 | ⟨h1,h2⟩
   ·exact .inl h1
   ·refine .inr ⟨?_,h2⟩;rw[z1i,if_neg (fun c=>h0 (by rw[←c];exact(mem_iff _ _).1 hm))];exact h1
  | false=>
   rw[hm]at h;simp only[cond_false,z1i]at h;by_cases hmn:m=n
   ·subst hmn;rw[if_pos rfl]at h;have hnd:m ∉ ds:=fun c=>by rw[(mem_iff _ _).2 c]at hm;cases hm
    refine⟨hnd,?_⟩;cases hl:zxz ds y with
    | true=>rw[hl]at h;cases h;exact .inl rfl
    | false=>
     rw[hl]at h;cases h;refine .inr ⟨by rw[z1i,if_pos rfl];rfl,?_⟩;intro g o hx;have hx':y=.loc g o:=hx;subst hx';intro c;simp only[zxz]at hl;rw[(mem_iff _ _).2 c]at hl;cases hl
   ·rw[if_neg hmn]at h;obtain⟨h0,h1⟩:=zak h;refine⟨h0,?_⟩;rcases h1 with h1 | ⟨h1,h2⟩
    ·exact .inl h1
    ·exact .inr ⟨by rw[z1i,if_neg hmn];exact h1,h2⟩
theorem z72{ds:List Nat}:∀{l:List (Nat×FV)}{n:Nat}{x:FV},z0g (zel ds l) n=some x→∃y,z0g l n=some y
 | [],n,x,h=>by cases h
 | (m,y)::r,n,x,h=>by
  rw[z1i];by_cases hmn:m=n
  ·exact⟨y,if_pos hmn⟩
  ·rw[if_neg hmn];simp only[zel]at h;cases hm:mem m ds with
   | true=>rw[hm]at h;exact z72 h
   | false=>
    rw[hm]at h;simp only[cond_false,z1i]at h;rw[if_neg hmn]at h;exact z72 h
theorem zei{o:Oper}(ok:Ok s){d:Nat}(hd:o.dst=some d)(hlt:d<s.t.size){pv:PV}{c:Array Value}{t:TypeId}(hr:VRels s.ρ pv.cells c.toList)
  (hrun:(execOp (Act.eval ⟨s.t,[]⟩) o).run P s.w=.ok (.value (.pointer (some ⟨s.w.heap.size,0,none⟩))) (s.w.alloc (.cells c t))) (e:k (s.fr.pnew d pv) s.h=some res) (h:z29 s [d] k res next):o.wp P ⟨s.t,[]⟩ s.w next Q:=by
 have hpi:∀n x,z0g s.fr.p n=some x→s.π n<s.w.heap.size:=by
  intro n x hx;obtain⟨⟨c1,el,h1,_⟩,_⟩:=ok.priv n x.1 x.2 hx;exact(Array.getElem?_eq_some_iff.1 h1).1
 have hlv:∀r,Liv s.ρ s.h r→r<s.w.heap.size:=by
  rintro r ⟨b,rb,h1,h2,rfl⟩
  exact ok.heap.lt h1 h2
 have hlp:∀n,z0g ((s.fr.pnew d pv).p) n=if d=n then some (pv,true)else z0g s.fr.p n:=fun n=>z1i _ _ _ _
 refine zej hd hrun (h {s with π:=fun n=>if n=d then s.w.heap.size else s.π n,fr:=s.fr.pnew d pv,t:=s.t.setIfInBounds d (.pointer (some ⟨s.w.heap.size,0,none⟩)),w:=s.w.alloc (.cells c t)} ?_ ?_ e)
 ·refine⟨?_,?_,?_,?_⟩
  ·refine⟨ok.heap.dom,ok.heap.live,ok.heap.inj,fun b rb hb=>?_,ok.heap.gl⟩;by_cases hdead:z1o s.h b
   ·unfold z1o at hdead;rw[hdead];trivial
   ·exact(ok.heap.blk b rb hb).heap (heap_alloc_old _ _ _ (ok.heap.lt hb hdead))
  ·intro i x hx;simp only[Fr.pnew,z1i]at hx;dsimp only;rw[Array.size_setIfInBounds,getD_set hlt];by_cases hdi:d=i
   ·subst hdi;rw[if_pos rfl]at hx;cases hx;refine⟨hlt,?_⟩;rw[if_pos rfl];show _=Value.pointer (some ⟨if d=d then s.w.heap.size else s.π d,0,none⟩);rw[if_pos rfl]
   ·rw[if_neg hdi]at hx;rw[if_neg (fun c=>hdi c.symm)];obtain⟨h1,h2⟩:=ok.slots i _ (z72 hx).choose_spec;refine⟨h1,?_⟩;rcases(zak hx).2 with rfl | ⟨hx1,hx2⟩
    ·trivial
    obtain⟨_,h2⟩:=ok.slots i x hx1;cases x with
    | v x=>exact h2
    | gone=>trivial
    | loc g o=>
     have hgd:g≠d:=by
      intro c;subst c;exact hx2 g o rfl (by simp)
     show _=Value.pointer (some ⟨if g=d then s.w.heap.size else s.π g,o,none⟩);rw[if_neg hgd];exact h2
  ·intro n q b hq;rw[hlp]at hq;dsimp only;by_cases hdn:d=n
   ·subst hdn;rw[if_pos rfl]at hq;cases hq;rw[if_pos rfl];refine⟨⟨c,t,heap_alloc_new _ _,hr⟩,fun f=>?_⟩;have:=hlv _ f
    omega
   ·rw[if_neg hdn]at hq;rw[if_neg (fun c=>hdn c.symm)];obtain⟨⟨c1,el,h1,h2⟩,h3⟩:=ok.priv n q b hq;refine⟨⟨c1,el,?_,h2⟩,h3⟩;rw[heap_alloc_old _ _ _ (hpi _ _ hq)];exact h1
  ·intro n m x y hx hy hnm;rw[hlp]at hx hy;dsimp only;by_cases hn:d=n
   ·subst hn;rw[if_neg hnm]at hy;rw[if_pos rfl,if_neg (fun c=>hnm c.symm)];have:=hpi _ _ hy
    omega
   ·rw[if_neg hn]at hx;rw[if_neg (fun c=>hn c.symm)];by_cases hm:d=m
    ·subst hm;rw[if_pos rfl];have:=hpi _ _ hx
     omega
    ·rw[if_neg hm]at hy;rw[if_neg (fun c=>hm c.symm)];exact ok.pinj n m x y hx hy hnm
 ·refine⟨Ext.refl _,rfl,rfl,rfl,by simp,⟨Nat.le_refl _,fun _ _ e =>.inl e⟩,fun r hr _ _=>heap_alloc_old _ _ _ hr,fun _ h =>.inl h,fun _ h =>.inl h,?_,?_,?_,by simp,?_⟩
  ·rintro r ⟨n,q,hq,rfl⟩
   rw[hlp]at hq;dsimp only;by_cases hdn:d=n
   ·subst hdn;rw[if_pos rfl];exact .inr (Nat.le_refl _)
   ·rw[if_neg hdn]at hq;rw[if_neg (fun c=>hdn c.symm)];exact .inl ⟨n,q,hq,rfl⟩
  ·intro n hn;dsimp only;rw[if_neg (by simpa using hn)]
  ·intro n;dsimp only;by_cases hdn:n=d
   ·rw[if_pos hdn];exact .inr (Nat.le_refl _)
   ·rw[if_neg hdn];exact .inl rfl
  ·intro i hi;dsimp only;rw[getD_set hlt,if_neg (by simpa using hi)]
theorem Ok.pset(ok:Ok s){g:Nat}{pv pv':PV}(hp:z0g s.fr.p g=some (pv,true)){c c':Array Value}{el:TypeId}(hg:s.w.heap[s.π g]? = some (.cells c el (0,0)))(hr:VRels s.ρ pv'.cells c'.toList) :
  Ok {s with fr:=s.fr.pset g pv',w:=s.w.setRow (s.π g) c'}∧Stp s {s with fr:=s.fr.pset g pv',w:=s.w.setRow (s.π g) c'} []:=by
 have hlp:∀n,z0g ((s.fr.pset g pv').p) n=if g=n then some (pv',true)else z0g s.fr.p n:=fun n=>z1i _ _ _ _
 have hnl:=(ok.priv g pv true hp).2;refine⟨⟨?_,ok.slots,?_,?_⟩,⟨Ext.refl _,rfl,rfl,rfl,by simp,⟨Nat.le_refl _,fun _ _ e =>.inl e⟩,fun r hr _ hw=>?_,fun _ h =>.inl h,fun _ h =>.inl h,?_,fun _ _=>rfl,fun _ =>.inl rfl,rfl,fun _ _=>rfl⟩⟩
 ·refine⟨ok.heap.dom,ok.heap.live,ok.heap.inj,fun b rb hb=>?_,ok.heap.gl⟩;by_cases hdead:z1o s.h b
  ·unfold z1o at hdead;rw[hdead];trivial
  ·exact(ok.heap.blk b rb hb).heap (setRow_other _ _ _ _ (fun c=>hnl ⟨b,rb,hb,hdead,c⟩))
 ·intro n q b hq;rw[hlp]at hq;dsimp only;by_cases hgn:g=n
  ·subst hgn;rw[if_pos rfl]at hq;cases hq;exact⟨⟨c',el,setRow_heap _ _ c _ el _ hg,hr⟩,hnl⟩
  ·rw[if_neg hgn]at hq;obtain⟨⟨c1,el1,h1,h2⟩,h3⟩:=ok.priv n q b hq;refine⟨⟨c1,el1,?_,h2⟩,h3⟩;rw[setRow_other _ _ _ _ (fun c=>ok.pinj g n _ _ hp hq hgn c.symm)];exact h1
 ·intro n m x y hx hy hnm;rw[hlp]at hx hy;have h1:∃x',z0g s.fr.p n=some x':=by
   by_cases hgn:g=n
   ·subst hgn;exact⟨_,hp⟩
   ·rw[if_neg hgn]at hx;exact⟨_,hx⟩
  have h2:∃y',z0g s.fr.p m=some y':=by
   by_cases hgn:g=m
   ·subst hgn;exact⟨_,hp⟩
   ·rw[if_neg hgn]at hy;exact⟨_,hy⟩
  obtain⟨x',hx'⟩:=h1;obtain⟨y',hy'⟩:=h2;exact ok.pinj n m x' y' hx' hy' hnm
 ·exact setRow_other _ _ _ _ (fun c=>hw ⟨g,pv,hp,c.symm⟩)
 ·rintro r ⟨n,q,hq,rfl⟩
  rw[hlp]at hq;by_cases hgn:g=n
  ·subst hgn;exact .inl ⟨g,pv,hp,rfl⟩
  ·rw[if_neg hgn]at hq;exact .inl ⟨n,q,hq,rfl⟩
def zv5(i:Ins):Prop:=i.dst=[]
variable{type:TypeId}{pos:String}{after:Array Edge}{guard:Option (Nat×Bool)}{ins:Ins}{d:Nat}
theorem z19l(ok:Ok s){x:Operand}(hc:z0s P priv ⟨some d,.move x,type,pos,after,guard⟩=some ins)(hn:insOk s.t.size ins=true)(e:z08 C ins s.fr k s.h=some res)(h:z29 s ins.dst k res next) :
  (⟨some d,.move x,type,pos,after,guard⟩:Oper).wp P ⟨s.t,[]⟩ s.w next Q:=by
 obtain⟨o,ho,rfl⟩:=map_some hc;obtain⟨fv,hv,e2⟩:=z0i e;exact zcj ok rfl (z0a rfl hn) (zo9 ok ho hv) rfl e2 h
theorem z14f(ok:Ok s){x:Operand}(hc:z0s P priv ⟨some d,.assign x,type,pos,after,guard⟩=some ins)(hn:insOk s.t.size ins=true)(e:z08 C ins s.fr k s.h=some res)(h:z29 s ins.dst k res next) :
  (⟨some d,.assign x,type,pos,after,guard⟩:Oper).wp P ⟨s.t,[]⟩ s.w next Q:=by
 obtain⟨o,ho,rfl⟩:=map_some hc;obtain⟨fv,hv,e2⟩:=z0i e;exact zcj ok rfl (z0a rfl hn) (zo9 ok ho hv) rfl e2 h
theorem z19m(ok:Ok s){op:UnOp}{t:TypeId}{x:Operand}(hc:z0s P priv ⟨some d,.unOp op t x,type,pos,after,guard⟩=some ins)(hn:insOk s.t.size ins=true)(e:z08 C ins s.fr k s.h=some res)(h:z29 s ins.dst k res next) :
  (⟨some d,.unOp op t x,type,pos,after,guard⟩:Oper).wp P ⟨s.t,[]⟩ s.w next Q:=by
 obtain⟨o,ho,rfl⟩:=map_some hc;obtain⟨v,hv,e2⟩:=z0i e;obtain⟨r,rv,e3,hrun,hr⟩:=z14j (P:=P) (w:=s.w) (z17 ok ho hv) e2;exact z1d ok rfl (z0a rfl hn) (by simp[execOp,hrun]) hr e3 h
theorem z10e(ok:Ok s){a b:TypeId}{x:Operand}(hc:z0s P priv ⟨some d,.convert a b x,type,pos,after,guard⟩=some ins)(hn:insOk s.t.size ins=true)(e:z08 C ins s.fr k s.h=some res)(h:z29 s ins.dst k res next) :
  (⟨some d,.convert a b x,type,pos,after,guard⟩:Oper).wp P ⟨s.t,[]⟩ s.w next Q:=by
 simp only[z0s]at hc;split at hc
 ·rename_i k1 k2 hua hub;obtain⟨o,ho,rfl⟩:=map_some hc;obtain⟨k0,n,hv,e2⟩:=z30 e;have hr:=z17 ok ho hv;refine z1d ok rfl (z0a rfl hn) (rv :=.int k2 (k2.wrap n)) ?_ (.int _ _) e2 h;generalize hq:Act.eval ⟨s.t,[]⟩ x=q at hr;cases hr;simp[execOp,hq,convert,z0o hua,z0o hub,Conv.intToInt]
 ·rename_i hua hub;obtain⟨o,ho,rfl⟩:=map_some hc;obtain⟨l,hv,e2⟩:=z49 e;have hr:=z17 ok ho hv;generalize hq:Act.eval ⟨s.t,[]⟩ x=q at hr;cases hr;exact z1d ok rfl (z0a rfl hn) (by simp[execOp,hq,convert,z0o hua,z0o hub]) (.str l) e2 h
 ·rename_i E hua hub;split at hc
  ·rename_i hE;obtain⟨o,ho,rfl⟩:=map_some hc;obtain⟨l,hv,e2⟩:=z49 e;have hr:=z17 ok ho hv;obtain⟨sl,h1,e1,e2⟩:=z0f e2;refine z3c ok rfl (z0a rfl hn) (zqx (P:=P) (E:=E) ok.heap e1) ?_ e2 h;intro rv w' hrun;generalize hq:Act.eval ⟨s.t,[]⟩ x=q at hr;cases hr;simp[execOp,hq,convert,z0o hua,z0o hub,z0o hE,hrun]
  ·cases hc
 ·rename_i E hua hub;split at hc
  ·rename_i hE;obtain⟨o,ho,rfl⟩:=map_some hc;obtain⟨p,l,ez,hv,e2⟩:=z2b e;split at e2
   ·rename_i hez;subst hez;have hr:=z17 ok ho hv;obtain⟨sl,h1,e1,e2⟩:=z0f e2;refine z3c ok rfl (z0a rfl hn) (zve (P:=P) (s:=⟨p,l⟩) ok.heap hr e1) ?_ e2 h;intro rv w' hrun;generalize hq:Act.eval ⟨s.t,[]⟩ x=q at hr hrun;cases hr with
    | slNil=>simp[execOp,hq,convert,z0o hua,z0o hub,z0o hE,hrun]
    | sl=>simp[execOp,hq,convert,z0o hua,z0o hub,z0o hE,hrun]
   ·cases e2
  ·cases hc
 ·rename_i E0 E hua hub;split at hc
  ·rename_i hE;split at hc
   ·rename_i hab;subst hab;obtain⟨o,ho,rfl⟩:=map_some hc;obtain⟨p,l,ez,hv,e2⟩:=z2b e;split at e2
    ·rename_i hez;subst hez;have hr:=z17 ok ho hv;obtain⟨sl,h1,e1,e2⟩:=z0f e2;refine z3c ok rfl (z0a rfl hn) (zy6 (P:=P) (s:=⟨p,l⟩) ok.heap hub hE hr e1) ?_ e2 h;intro rv w' hrun;simp[execOp,hrun]
    ·cases e2
   ·cases hc
  ·cases hc
 ·cases hc
theorem z17b(ok:Ok s){t:TypeId}{x:Operand}(hc:z0s P priv ⟨some d,.sliceToArrayPointer t x,type,pos,after,guard⟩=some ins)(hn:insOk s.t.size ins=true)(e:z08 C ins s.fr k s.h=some res)(h:z29 s ins.dst k res next) :
  (⟨some d,.sliceToArrayPointer t x,type,pos,after,guard⟩:Oper).wp P ⟨s.t,[]⟩ s.w next Q:=by
 simp only[z0s]at hc;split at hc
 ·rename_i n E m hu;cases hc;obtain⟨p,l,z,hv,e1⟩:=z2b e;obtain⟨q,h1,e2,e3⟩:=z0f e1;unfold arrAt at e2;split at e2
  ·rename_i hb;cases e2;obtain⟨hb0,hb1⟩:=hb;have hr:=z71 ok hv;generalize hq:Act.eval ⟨s.t,[]⟩ (.tmp m)=y at hr;cases hr with
   | slNil=>simp at hb1;omega
   | sl a rb _ _ cap ra hb' hl hcp=>
    rcases hcp with hcp | ⟨rfl,_⟩
    ·simp at hb1;omega
    ·refine z1d ok rfl (z0a rfl hn) (rv :=.pointer (some ⟨rb.r,rb.o+a.off,none⟩)) ?_ (.ptr a rb hb') e3 h;have:¬l<n:=by simp at hb1;omega
     simp[execOp,hq,Instr.arrayAt,z0o hu,this]
  ·cases e2
 ·cases hc
theorem z10f(ok:Ok s){x:Operand}{i:Nat}(hc:z0s P priv ⟨some d,.extract x i,type,pos,after,guard⟩=some ins)(hn:insOk s.t.size ins=true)(e:z08 C ins s.fr k s.h=some res)(h:z29 s ins.dst k res next) :
  (⟨some d,.extract x i,type,pos,after,guard⟩:Oper).wp P ⟨s.t,[]⟩ s.w next Q:=by
 simp only[z0s]at hc;split at hc
 ·rename_i n;cases hc;obtain⟨vs,hv,e2⟩:=zp7 e;have hr:=z71 ok hv;obtain⟨v,hvi,e2⟩:=z0i e2;generalize hq:Act.eval ⟨s.t,[]⟩ (.tmp n)=q at hr;cases hr with
  | tup _ xs hxs=>
   obtain⟨y,hy,hyr⟩:=hxs.get _ _ hvi;exact z1d ok rfl (z0a rfl hn) (by simp[execOp,hq,Instr.extract,hy]) hyr e2 h
 ·cases hc
theorem z17c(ok:Ok s){op:BinOp}{t u:TypeId}{x y:Operand}(hc:z0s P priv ⟨some d,.binOp op t x y u,type,pos,after,guard⟩=some ins)(hn:insOk s.t.size ins=true)(e:z08 C ins s.fr k s.h=some res)(h:z29 s ins.dst k res next) :
  (⟨some d,.binOp op t x y u,type,pos,after,guard⟩:Oper).wp P ⟨s.t,[]⟩ s.w next Q:=by
 have key:∀(dd:TypeDesc)(a b:Opd)(tk:Nat),opd P t x=some a→opd P u y=some b→P.underlying t=some dd→(∀v,zgj tk v=true→z8h P dd v=true)→ins=.bin d op tk a b →
   (⟨some d,.binOp op t x y u,type,pos,after,guard⟩:Oper).wp P ⟨s.t,[]⟩ s.w next Q:=by
  intro dd a b tk ha hb hu htag hins;subst hins;obtain⟨v,hv,e1⟩:=z0i e;obtain⟨w,hw,e2⟩:=z0i e1;obtain⟨ht,e2⟩:=z2u e2;obtain⟨r,rv,e3,hrun,hr⟩:=z10r (P:=P) (w:=s.w) hu x y (z17 ok ha hv) (z17 ok hb hw) ok.heap (htag v ht) e2;refine z1d ok rfl (z0a rfl hn) ?_ hr e3 h;simp only[execOp,Sem.run_bind]at hrun ⊢;rw[hrun];rfl
 simp only[z0s]at hc;split at hc
 ·rename_i a b ha hb;split at hc
  ·rename_i fs hu;split at hc
   ·rename_i L hL;cases hb0:(P.stoodInHeld t || P.eqGuardType P.depth t)with
    | true=>rw[hb0]at hc;cases hc
    | false=>
     rw[hb0]at hc;cases hc;simp only[Bool.or_eq_false_iff]at hb0;obtain⟨l,h1,e1⟩:=z2t e;obtain⟨m,h2,e1⟩:=z2t e1;obtain⟨r,h3,e2⟩:=z0i e1;have hrun:=zm9 (P:=P) (w:=s.w) hu hL hb0.1 hb0.2 (z17 ok ha h1) (z17 ok hb h2) h3 false x y;refine z1d ok rfl (z0a rfl hn) ?_ (.bool _) e2 h;simp only[execOp,Sem.run_bind,cond_true,cond_false]at hrun ⊢;rw[hrun];rfl
   ·cases hc
  ·rename_i fs hu;split at hc
   ·rename_i L hL;cases hb0:(P.stoodInHeld t || P.eqGuardType P.depth t)with
    | true=>rw[hb0]at hc;cases hc
    | false=>
     rw[hb0]at hc;cases hc;simp only[Bool.or_eq_false_iff]at hb0;obtain⟨l,h1,e1⟩:=z2t e;obtain⟨m,h2,e1⟩:=z2t e1;obtain⟨r,h3,e2⟩:=z0i e1;have hrun:=zm9 (P:=P) (w:=s.w) hu hL hb0.1 hb0.2 (z17 ok ha h1) (z17 ok hb h2) h3 true x y;refine z1d ok rfl (z0a rfl hn) ?_ (.bool _) e2 h;simp only[execOp,Sem.run_bind,cond_true,cond_false]at hrun ⊢;rw[hrun];rfl
   ·cases hc
  ·rename_i hu;cases hc;obtain⟨l,h1,e1⟩:=z49 e;obtain⟨m,h2,e1⟩:=z49 e1;obtain⟨r,h3,e1,e2⟩:=z0f e1;unfold zgk at e1;split at e1
   ·rename_i hle;cases e1;have hx:=z17 ok ha h1;have hy:=z17 ok hb h2;generalize hq:Act.eval ⟨s.t,[]⟩ x=q at hx;generalize hp:Act.eval ⟨s.t,[]⟩ y=p at hy;cases hx;cases hy;refine z1d ok rfl (z0a rfl hn) (rv :=.string (⟨l.toArray⟩++⟨m.toArray⟩)) ?_ ?_ e2 h
    ·have hsz:((((⟨l.toArray⟩:ByteArray).size+(⟨m.toArray⟩:ByteArray).size:Nat):Int) > IntKind.i64.max)=False:=by
      apply eq_false;have:most=70368744177664:=rfl
      have h63:IntKind.i64.max=9223372036854775807:=by decide
      rw[h63];simp[ByteArray.size];omega
     simp only[execOp,hq,hp,Sem.run_bind,zc5,Result.andThen_ok,binOp,Op.stringOp,hsz,if_false,Sem.run_pure]
    ·have:((⟨l.toArray⟩:ByteArray)++⟨m.toArray⟩)=⟨(l++m).toArray⟩:=by
      apply ByteArray.ext;simp[ByteArray.data_append]
     rw[this];exact .str _
   ·cases e1
  ·rename_i ms hu;split at hc
   ·cases hc;obtain⟨v,h1,e1⟩:=z0i e;obtain⟨r,h2,e2,e3⟩:=z0f e1;obtain⟨rfl,hrun⟩:=zma (P:=P) (w:=s.w) hu hb (z17 ok ha h1) e2 false x;refine z1d ok rfl (z0a rfl hn) ?_ (.bool _) e3 h;simp only[execOp,Sem.run_bind,cond_true,cond_false]at hrun ⊢;rw[hrun];rfl
   ·cases hc
  ·rename_i ms hu;split at hc
   ·cases hc;obtain⟨v,h1,e1⟩:=z0i e;obtain⟨r,h2,e2,e3⟩:=z0f e1;obtain⟨rfl,hrun⟩:=zma (P:=P) (w:=s.w) hu hb (z17 ok ha h1) e2 true x;refine z1d ok rfl (z0a rfl hn) ?_ (.bool _) e3 h;simp only[execOp,Sem.run_bind,cond_true,cond_false]at hrun ⊢;rw[hrun];rfl
   ·cases hc
  ·rename_i hu;cases hc;exact key _ a b 1 ha hb hu (by intro v hv;cases v<;>first | rfl | exact(nomatch hv)) rfl
  ·rename_i hu;split at hc
   ·cases hc
   ·rename_i hE;cases hc;exact key _ a b 2 ha hb hu (by intro v hv;cases v<;>first | rfl | (simp only[zgj]at hv;exact absurd hv (by decide)) | (simp only[z8h];cases hb0:Nat.beq (P.cellsOf _) 0 with | true=>exact absurd (Nat.eq_of_beq_eq_true hb0) hE | false=>rfl)) rfl
  ·rename_i hu;cases hc;exact key _ a b 3 ha hb hu (by intro v hv;cases v<;>first | rfl | exact(nomatch hv)) rfl
  ·rename_i hu;cases hc;exact key _ a b 4 ha hb hu (by intro v hv;cases v<;>first | rfl | exact(nomatch hv)) rfl
  ·cases hc;exact key _ a b 0 ha hb (by assumption) (by intro v hv;cases v<;>first | rfl | exact(nomatch hv)) rfl
  ·cases hc
 ·cases hc
theorem z17d(ok:Ok s){t:TypeId}(hc:z0s P priv ⟨some d,.alloc t,type,pos,after,guard⟩=some ins)(hn:insOk s.t.size ins=true)(e:z08 C ins s.fr k s.h=some res)(h:z29 s ins.dst k res next) :
  (⟨some d,.alloc t,type,pos,after,guard⟩:Oper).wp P ⟨s.t,[]⟩ s.w next Q:=by
 simp only[z0s]at hc;cases hm:mem d priv with
 | true=>
  rw[hm]at hc;obtain⟨pv,hp,rfl⟩:=map_some hc;obtain⟨i,zv,hi,hz,hr⟩:=zv4 hp;exact zei ok rfl (z0a rfl hn) (t:=t) (hr s.ρ) (by simp[execOp,Instr.alloc,z38 hi hz,newVar,newRow]) e h
 | false=>
  rw[hm]at hc;obtain⟨z,hz,rfl⟩:=map_some hc;simp only[z08]at e;obtain⟨p,h1,e1,e2⟩:=z0f e;refine z3c ok rfl (z0a rfl hn) (zvc (P:=P) ok.heap hz e1) ?_ e2 h;intro rv w' hrun;simp[execOp,hrun]
theorem z1at(ok:Ok s){t:TypeId}{x:Operand}(hc:z0s P priv ⟨some d,.box t x,type,pos,after,guard⟩=some ins)(hn:insOk s.t.size ins=true)(e:z08 C ins s.fr k s.h=some res)(h:z29 s ins.dst k res next) :
  (⟨some d,.box t x,type,pos,after,guard⟩:Oper).wp P ⟨s.t,[]⟩ s.w next Q:=by
 simp only[z0s]at hc;split at hc
 ·rename_i a ha;cases hm:mem d priv with
  | true=>
   rw[hm]at hc;simp only[cond_true]at hc;split at hc
   ·cases hc;obtain⟨cs,hv,e1⟩:=z2t e;have hr:=z17 ok ha hv;generalize hq:Act.eval ⟨s.t,[]⟩ x=q at hr;cases hr with
    | agg _ xs hxs=>exact zei ok rfl (z0a rfl hn) (t:=t) (c:=xs.toArray) (pv :=.raw cs) (by simpa[PV.cells]using hxs) (by simp[execOp,hq,Instr.box,newVar,newRow,Value.cells]) e1 h
   ·cases hc;obtain⟨cs,hv,e1⟩:=z2t e;have hr:=z17 ok ha hv;generalize hq:Act.eval ⟨s.t,[]⟩ x=q at hr;cases hr with
    | agg _ xs hxs=>exact zei ok rfl (z0a rfl hn) (t:=t) (c:=xs.toArray) (pv :=.st cs) (by simpa[PV.cells]using hxs) (by simp[execOp,hq,Instr.box,newVar,newRow,Value.cells]) e1 h
   ·cases hc;obtain⟨v,hv,e1⟩:=z0i e;split at e1
    ·rename_i hcell;have hr:=z17 ok ha hv;have h1:=hr.oneCell hcell;exact zei ok rfl (z0a rfl hn) (t:=t) (c := #[Act.eval ⟨s.t,[]⟩ x]) (pv :=.st [v]) (.cons _ _ _ _ hr .nil) (by simp[execOp,Instr.box,newVar,newRow,z8f h1]) e1 h
    ·cases e1
   ·cases hc
  | false=>
   rw[hm]at hc;cases hc;cases hg:z9b P t with
   | true=>
    rw[hg]at e;obtain⟨cs,hv,e1⟩:=z2t e;obtain⟨p,h1,e1,e2⟩:=z0f e1;refine z3c ok rfl (z0a rfl hn) (z10o (P:=P) (t:=t) ok.heap (z17 ok ha hv) e1) ?_ e2 h;intro rv w' hrun;simp[execOp,hrun]
   | false=>
    rw[hg]at e;obtain⟨cs,hv,e1⟩:=z0i e;obtain⟨p,h1,e1,e2⟩:=z0f e1;refine z3c ok rfl (z0a rfl hn) (zy1 (P:=P) (t:=t) ok.heap (z17 ok ha hv) e1) ?_ e2 h;intro rv w' hrun;simp[execOp,hrun]
 ·cases hc
theorem z19n(ok:Ok s){t:TypeId}{x:Operand}(hc:z0s P priv ⟨some d,.load t x,type,pos,after,guard⟩=some ins)(hn:insOk s.t.size ins=true)(e:z08 C ins s.fr k s.h=some res)(h:z29 s ins.dst k res next) :
  (⟨some d,.load t x,type,pos,after,guard⟩:Oper).wp P ⟨s.t,[]⟩ s.w next Q:=by
 simp only[z0s]at hc;split at hc
 ·rename_i n;split at hc
  case h_2=>cases hc
  rename_i ty ht;cases hc;have ht:vty P t=some ty∨lty P t=some ty:=by
   revert ht;cases (mem n priv)with
   | true=>exact .inl
   | false=>exact .inr
  rcases z2f e with⟨q,hv,e1⟩ | ⟨m,o,hv,e1⟩
  ·obtain⟨r,h1,e2,e3⟩:=z0f e1;obtain⟨rfl,rv,hrun,hr⟩:_∧_:=ht.elim (fun ht=>zd9 (P:=P) ok.heap ht (z5z ok hv) e2) fun ht=>zvb (P:=P) ok.heap ht (z5z ok hv) e2;exact z1d ok rfl (z0a rfl hn) (by simp[execOp,hrun]) hr e3 h
  ·obtain⟨pv,hp,e2⟩:=z0i e1;have ht:vty P t=some ty:=by
    rcases ht with ht | ht
    ·exact ht
    ·rcases zsb ht with ht | ⟨f,caps,rfl,ht⟩
     ·exact ht
     ·cases hpv:pv.1<;>rw[hpv]at e2<;>cases e2
   obtain⟨⟨c,el,h1,h2⟩,h3⟩:=ok.priv m pv.1 pv.2 hp;obtain⟨v,rv,e3,hr,hrun⟩:=zka (P:=P) ht h1 h2 e2;have hx:Act.eval ⟨s.t,[]⟩ (.tmp n)=.pointer (some ⟨s.π m,o,none⟩):=z5z ok hv;exact z1d ok rfl (z0a rfl hn) (by simp[execOp,hx,hrun]) hr e3 h
 ·cases hc
theorem z17e(ok:Ok s){t:TypeId}{a x:Operand}(hc:z0s P priv ⟨none,.store t a x,type,pos,after,guard⟩=some ins)(hn:insOk s.t.size ins=true)(e:z08 C ins s.fr k s.h=some res)(h:z29 s ins.dst k res next) :
  (⟨none,.store t a x,type,pos,after,guard⟩:Oper).wp P ⟨s.t,[]⟩ s.w next Q:=by
 simp only[z0s]at hc;split at hc
 ·rename_i n b hb;have kk:∃m:Option Nat,ins=.store m (.t n) b∧∃dd,P.underlying t=some dd∧((m=none∧zal dd=false∧P.cellsOf t=1)∨(m=some (P.cellsOf t)∧zal dd=true)):=by
   cases hg:z9b P t with
   | true=>
    rw[hg]at hc;cases hc;have hund:∃dd,P.underlying t=some dd:=by
     cases hu:P.underlying t with
     | none=>simp[z9b,hu]at hg
     | some dd=>exact⟨dd,rfl⟩
    obtain⟨dd,hu⟩:=hund;exact⟨_,rfl,dd,hu,.inr ⟨rfl,by rw[zm8 hu]at hg;exact hg⟩⟩
   | false=>
    rw[hg]at hc;simp only[cond_false]at hc;split at hc
    ·rename_i h1;obtain⟨h1,h2⟩:=h1;cases hc;obtain⟨dd,hu⟩:=z81 h2;exact⟨_,rfl,dd,hu,.inl ⟨rfl,by rw[zm8 hu]at hg;exact hg,h1⟩⟩
    ·cases hc
  obtain⟨m,rfl,dd,hu,hm⟩:=kk;have e0:(∃q v,(Opd.t n).val s.fr=some (.v (.ptr q))∧b.mv s.fr=some v∧∃u h1,(Instr.storeAt t (Act.eval ⟨s.t,[]⟩ (.tmp n)) (Act.eval ⟨s.t,[]⟩ x)).run P s.w=.ok u h1∧∃h2,HRel s.ρ h2 h1.heap∧HStp s.ρ s.h s.w s.ρ h2 h1∧k s.fr h2=some res) ∨
    (∃g o pv v,(Opd.t n).val s.fr=some (.loc g o)∧z0g s.fr.p g=some (pv,true)∧b.mv s.fr=some v∧pstore pv m o v (fun pv'=>k (s.fr.pset g pv')) s.h=some res):=by
   rcases hm with⟨rfl,ha,h1⟩ | ⟨rfl,ha⟩
   ·rcases z2f e with⟨q,hv,e1⟩ | ⟨g,o,hv,e1⟩
    ·obtain⟨v,hb2,e2⟩:=z0i e1;obtain⟨u,h1',e3,e4⟩:=z0f e2;obtain⟨w',hrun,k1,k2⟩:=z10m (P:=P) ok.heap hu h1 (z5z ok hv) (z17 ok hb hb2) e3;exact .inl ⟨q,v,hv,hb2,(),w',hrun,h1',k1,k2,e4⟩
    ·obtain⟨pv,hp,e2⟩:=z0i e1;obtain⟨hw,e3⟩:=z2u e2;obtain⟨v,hb2,e4⟩:=z0i e3;exact .inr ⟨g,o,pv.1,v,hv,by rw[hp,←hw],hb2,e4⟩
   ·rcases z2f e with⟨q,hv,e1⟩ | ⟨g,o,hv,e1⟩
    ·obtain⟨vs,hb2,e2⟩:=z2t e1;obtain⟨u,h1',e3,e4⟩:=z0f e2;obtain⟨w',hrun,k1,k2⟩:=z10n (P:=P) ok.heap hu (z5z ok hv) (z17 ok hb hb2) e3;exact .inl ⟨q,_,hv,hb2,(),w',hrun,h1',k1,k2,e4⟩
    ·obtain⟨pv,hp,e2⟩:=z0i e1;obtain⟨hw,e3⟩:=z2u e2;obtain⟨v,hb2,e4⟩:=z0i e3;exact .inr ⟨g,o,pv.1,v,hv,by rw[hp,←hw],hb2,e4⟩
  have hdst:zv5 (.store m (.t n) b):=rfl;rcases e0 with⟨q,v,hv,hb2,u,w',hrun,h2,k1,k2,e4⟩ | ⟨g,o,pv,v,hv,hp,hb2,e4⟩
  ·obtain⟨ok2,st⟩:=ok.step k1 k2;refine zky rfl (w':=w') (by simp[execOp,hrun]) (h _ ok2 st e4)
  ·obtain⟨⟨c,el,h1,h2⟩,h3⟩:=ok.priv g pv true hp;obtain⟨pv',c',e5,hrel,hrun⟩:=zs8 (P:=P) hu hm h1 h2 (z17 ok hb hb2) e4;have hx:Act.eval ⟨s.t,[]⟩ (.tmp n)=.pointer (some ⟨s.π g,o,none⟩):=z5z ok hv;obtain⟨ok2,st⟩:=ok.pset hp h1 hrel;refine zky rfl (w':=s.w.setRow (s.π g) c') (by simp[execOp,hx,hrun]) (h _ ok2 st e5)
 ·cases hc
theorem zxu(ok:Ok s){x:Operand}(hc:z0s P priv ⟨some d,.nilCheck x,type,pos,after,guard⟩=some ins)(hn:insOk s.t.size ins=true)(e:z08 C ins s.fr k s.h=some res)(h:z29 s ins.dst k res next) :
  (⟨some d,.nilCheck x,type,pos,after,guard⟩:Oper).wp P ⟨s.t,[]⟩ s.w next Q:=by
 simp only[z0s]at hc;split at hc
 ·rename_i n;split at hc
  ·cases hc;obtain⟨f,cs,hv,e1⟩:=zgb e;have hr:=z71 ok hv;generalize hq:Act.eval ⟨s.t,[]⟩ (.tmp n)=q at hr;cases hr with
   | fn _ _ vs hvs=>exact z1d ok rfl (z0a rfl hn) (rv :=.func (.func f) #[] vs.toArray) (by simp[execOp,hq]) (.fn _ _ _ hvs) e1 h
  ·cases hc;rcases z2f e with⟨q,hv,e1⟩ | ⟨m,o,hv,e1⟩
   ·obtain⟨r,h1,e2,e3⟩:=z0f e1;have hr:=z5z ok hv;cases q with
    | none=>cases e2
    | some a=>
     cases e2;refine z1d ok rfl (z0a rfl hn) ?_ hr e3 h;generalize hq:Act.eval ⟨s.t,[]⟩ (.tmp n)=q at hr;cases hr;simp[execOp,hq]
   ·have hx:Act.eval ⟨s.t,[]⟩ (.tmp n)=.pointer (some ⟨s.π m,o,none⟩):=z5z ok hv;exact zcj ok rfl (z0a rfl hn) (fv :=.loc m o) rfl (by simp[execOp,hx]) e1 h
 ·rename_i f0;cases hc;have e1:k (s.fr.set d (.fn f0 [])) s.h=some res:=e;exact z1d ok rfl (z0a rfl hn) (by simp[execOp,Act.eval]) (.fn _ _ _ .nil) e1 h
 ·cases hc
theorem zv6(ok:Ok s){t:TypeId}{x:Operand}{i:Nat}(hc:z0s P priv ⟨some d,.fieldAddr t x i,type,pos,after,guard⟩=some ins)(hn:insOk s.t.size ins=true)(e:z08 C ins s.fr k s.h=some res)(h:z29 s ins.dst k res next) :
  (⟨some d,.fieldAddr t x i,type,pos,after,guard⟩:Oper).wp P ⟨s.t,[]⟩ s.w next Q:=by
 simp only[z0s]at hc;split at hc
 ·rename_i fs n hu;split at hc
  ·rename_i f hf;split at hc
   ·rename_i hz;obtain⟨hz,hund⟩:=hz;obtain⟨df,hfu⟩:=z81 hund;cases hc;rcases z2f e with⟨q,hv,e1⟩ | ⟨m,o,hv,e1⟩
    ·obtain⟨p,h1,e2,e3⟩:=z0f e1;refine z3c ok rfl (z0a rfl hn) (z10g (P:=P) ok.heap hu hf hfu hz (z5z ok hv) e2) ?_ e3 h;intro rv w' hrun;simp[execOp,hrun]
    ·have hx:Act.eval ⟨s.t,[]⟩ (.tmp n)=.pointer (some ⟨s.π m,o,none⟩):=z5z ok hv;refine zcj ok rfl (z0a rfl hn) (fv :=.loc m (o+f.offset)) (y :=.pointer (some ⟨s.π m,o+f.offset,none⟩)) rfl ?_ e1 h;simp[execOp,hx,Instr.fieldAt,z0o hu,hf,Instr.sureAddr,fieldPlace,z1j hfu,hz,z3m]
   ·cases hc
  ·cases hc
 ·cases hc
theorem z17f(ok:Ok s){t:TypeId}{x:Operand}{i:Nat}(hc:z0s P priv ⟨some d,.field t x i,type,pos,after,guard⟩=some ins)(hn:insOk s.t.size ins=true)(e:z08 C ins s.fr k s.h=some res)(h:z29 s ins.dst k res next) :
  (⟨some d,.field t x i,type,pos,after,guard⟩:Oper).wp P ⟨s.t,[]⟩ s.w next Q:=by
 simp only[z0s]at hc;split at hc
 ·rename_i fs n hu;split at hc
  ·rename_i f hf;split at hc
   ·rename_i ty hty;have core:∀cs v,(Opd.t n).mv s.fr=some (.agg cs)→∀rv,VRel s.ρ v rv→(∀xs:Array Value,Act.eval ⟨s.t,[]⟩ (.tmp n)=.agg xs→(part f.type xs f.offset).run P s.w=.ok rv s.w)→k (s.fr.set d v) s.h=some res→z29 s [d] k res next→d<s.t.size →
      (⟨some d,.field t (.tmp n) i,type,pos,after,guard⟩:Oper).wp P ⟨s.t,[]⟩ s.w next Q:=by
     intro cs v hv rv hr hp e2 h hlt;have hxr:=z71 ok hv;generalize hq:Act.eval ⟨s.t,[]⟩ (.tmp n)=q at hxr hp;cases hxr with
     | agg _ xs hxs=>exact z1d ok rfl hlt (by simp[execOp,hq,Instr.field,z0o hu,hf,asAgg,hp _ rfl]) hr e2 h
    cases ha:zmb P depth t with
    | true=>
     rw[ha]at hc;cases hc;obtain⟨cs,hv,e1⟩:=z2t e;obtain⟨v,rv,e2,hr,hp⟩:=zs7 (P:=P) (w:=s.w) (pv :=.raw cs) hty e1 (z71 ok hv);exact core cs v hv rv hr hp e2 h (z0a rfl hn)
    | false=>
     rw[ha]at hc;simp only[cond_false]at hc;have kk:ins=.fldV d f.offset ty (.t n)∧(∃c,ty=.c c)∨ins=.fldV d f.offset ty (.t n)∧(∃ts,ty=.st ts)∨ins=.fldV d f.offset ty (.t n)∧(∃kd,ty=.arr kd)∨ins=.fldV d f.offset ty (.t n)∧∃g cp,ty=.fnc g cp:=by
      cases ty with
      | c c=>cases hc;exact .inl ⟨rfl,_,rfl⟩
      | st ts=>cases hc;exact .inr (.inl ⟨rfl,_,rfl⟩)
      | agg m=>cases hc
      | arr kd=>cases hc;exact .inr (.inr (.inl ⟨rfl,_,rfl⟩))
      | fnc g cp=>cases hc;exact .inr (.inr (.inr ⟨rfl,_,_,rfl⟩))
     have e':∃cs,(Opd.t n).mv s.fr=some (.agg cs)∧z6l (.st cs) ty f.offset (fun v=>k (s.fr.set d v)) s.h=some res:=by
      rcases kk with⟨rfl,c,rfl⟩ | ⟨rfl,ts,rfl⟩ | ⟨rfl,kd,rfl⟩ | ⟨rfl,g,cp,rfl⟩
      ·exact z2t e
      ·exact z2t e
      ·cases e
      ·cases e
     obtain⟨cs,hv,e1⟩:=e';obtain⟨v,rv,e2,hr,hp⟩:=zs7 (P:=P) (w:=s.w) (pv :=.st cs) hty e1 (z71 ok hv);have hd:ins.dst=[d]:=by rcases kk with⟨rfl,_⟩ | ⟨rfl,_⟩ | ⟨rfl,_⟩ | ⟨rfl,_⟩<;>rfl
     rw[hd]at h;exact core cs v hv rv hr hp e2 h (z0a hd hn)
   ·cases hc
  ·cases hc
 ·cases hc
theorem zv7(ok:Ok s){t:TypeId}{x i:Operand}(hc:z0s P priv ⟨some d,.indexAddr t x i,type,pos,after,guard⟩=some ins)(hn:insOk s.t.size ins=true)(e:z08 C ins s.fr k s.h=some res)(h:z29 s ins.dst k res next) :
  (⟨some d,.indexAddr t x i,type,pos,after,guard⟩:Oper).wp P ⟨s.t,[]⟩ s.w next Q:=by
 simp only[z0s]at hc;split at hc
 ·rename_i m E n hu;split at hc
  ·rename_i hund;obtain⟨dE,hE⟩:=z81 hund;obtain⟨o,ho,rfl⟩:=map_some hc;rcases z2f e with⟨q,hv,e1⟩ | ⟨g,off,hv,e1⟩
   ·obtain⟨kd,j,hj,e1⟩:=z30 e1;obtain⟨p,h1,e2,e3⟩:=z0f e1;have hji:=z17 ok ho hj;have hji2:Act.eval ⟨s.t,[]⟩ i=.int kd j:=by generalize hq:Act.eval ⟨s.t,[]⟩ i=q at hji;cases hji;rfl
    refine z3c ok rfl (z0a rfl hn) (zxv (P:=P) (kd:=kd) ok.heap hu hE (z5z ok hv) e2) ?_ e3 h;intro rv w' hrun;simp[execOp,hji2,hrun]
   ·obtain⟨kd,j,hj,e1⟩:=z30 e1;obtain⟨p,h1,e2,e3⟩:=z0f e1;have hji:=z17 ok ho hj;have hji2:Act.eval ⟨s.t,[]⟩ i=.int kd j:=by generalize hq:Act.eval ⟨s.t,[]⟩ i=q at hji;cases hji;rfl
    have hx:Act.eval ⟨s.t,[]⟩ (.tmp n)=.pointer (some ⟨s.π g,off,none⟩):=z5z ok hv;split at e2
    ·rename_i hb;cases e2;refine zcj ok rfl (z0a rfl hn) (fv :=.loc g (off+j.toNat * P.cellsOf E)) (y :=.pointer (some ⟨s.π g,off+j.toNat * P.cellsOf E,none⟩)) rfl ?_ e3 h;simp[execOp,hx,hji2,Instr.indexAt,asIntOf,z0o hu,Instr.sureAddr,z1j hE,hb.1,hb.2,z3m]
    ·cases e2
  ·cases hc
 ·rename_i E n hu;split at hc
  ·rename_i hund;obtain⟨dE,hE⟩:=z81 hund;obtain⟨o,ho,rfl⟩:=map_some hc;obtain⟨p,l,z,hv,e1⟩:=z2b e;obtain⟨kd,j,hj,e1⟩:=z30 e1;split at e1
   ·rename_i hz;obtain⟨q,h1,e2,e3⟩:=z0f e1;rw[←hz]at hv;have hji:=z17 ok ho hj;have hji2:Act.eval ⟨s.t,[]⟩ i=.int kd j:=by generalize hq:Act.eval ⟨s.t,[]⟩ i=q at hji;cases hji;rfl
    refine z3c ok rfl (z0a rfl hn) (z10h (P:=P) (kd:=kd) (s:=⟨p,l⟩) ok.heap hu hE (z71 ok hv) e2) ?_ e3 h;intro rv w' hrun;simp[execOp,hji2,hrun]
   ·cases e1
  ·cases hc
 ·cases hc
theorem zv8(ok:Ok s){t:TypeId}{a b:Operand}(hc:z0s P priv ⟨some d,.makeSlice t a b,type,pos,after,guard⟩=some ins)(hn:insOk s.t.size ins=true)(e:z08 C ins s.fr k s.h=some res)(h:z29 s ins.dst k res next) :
  (⟨some d,.makeSlice t a b,type,pos,after,guard⟩:Oper).wp P ⟨s.t,[]⟩ s.w next Q:=by
 simp only[z0s]at hc;split at hc
 ·rename_i E oa ob hu ha hb;split at hc
  ·cases hc
  ·rename_i hb0;obtain⟨z,hz,rfl⟩:=map_some hc;obtain⟨kl,l,hl,e1⟩:=z30 e;obtain⟨kc,c,hcc,e1⟩:=z30 e1;obtain⟨sl,h1,e2,e3⟩:=z0f e1;have hli:=z17 ok ha hl;have hci:=z17 ok hb hcc;have hl2:Act.eval ⟨s.t,[]⟩ a=.int kl l:=by generalize hq:Act.eval ⟨s.t,[]⟩ a=q at hli;cases hli;rfl
   have hc2:Act.eval ⟨s.t,[]⟩ b=.int kc c:=by generalize hq:Act.eval ⟨s.t,[]⟩ b=q at hci;cases hci;rfl
   refine z3c ok rfl (z0a rfl hn) (zy2 (P:=P) (kl:=kl) (kc:=kc) ok.heap hu hz e2 (by omega)) ?_ e3 h;intro rv w' hrun;simp[execOp,hl2,hc2,hrun]
 ·cases hc
end
end Go.Mini

/- Single operations: calls, builtins, slices, structs, maps. -/
namespace Go.Mini
universe u
section
variable{P:Program}{β:Type}{s:S}{res:β×Hp}{next:Act→World→Prop}{Q:Exit→Act→World→Prop}{k:Fr→M β}{C:List (Nat×Entry)}{priv:List Nat}
variable{type:TypeId}{pos:String}{after:Array Edge}{guard:Option (Nat×Bool)}{ins:Ins}{d:Nat}
theorem za1(ok:Ok s){t:TypeId}{x:Operand}{o:Opd}(ho:opd P t x=some o){kd:IntKind}{n:Int}(hv:o.mv s.fr=some (.int kd n)):Act.eval ⟨s.t,[]⟩ x=.int kd n:=by
 have h:=z17 ok ho hv;generalize Act.eval ⟨s.t,[]⟩ x=q at h;cases h;rfl
theorem z3n{α:Type}{a:Array α}{l:List α}(h:a.toList=l):a=l.toArray:=by rw[←h]
theorem zjm{α γ:Type}(a:Array α)(f:α→γ):a.map f=(a.toList.map f).toArray:=by cases a;simp
theorem zss(ok:Ok s){o:Oper}(hd:o.dst=some d)(hlt:d<s.t.size){f:FuncId}{en:Entry}(hs:Sound P f en){vs:List MV}{xs:List Value}(hv:VRels s.ρ vs xs)
  (hrun:(execOp (Act.eval ⟨s.t,[]⟩) o).run P s.w=(callFunc f xs.toArray).run P s.w) (e:en.run vs (fun v=>k (s.fr.set d v)) s.h=some res) (h:z29 s [d] k res next):o.wp P ⟨s.t,[]⟩ s.w next Q:=by
 obtain⟨v,h1,e1,e2⟩:=Entry.run_some e;unfold Oper.wp;rw[hrun,hs.enter,Oper.upon_enter];refine(hs.calls vs v s.h h1 e1 s.ρ s.w xs ok.heap hv).mono ?_;rintro en w' ⟨rv,ρ',rfl,hr,kh,st⟩
 obtain⟨k1,st1⟩:=ok.step kh st;obtain⟨k2,st2⟩:=k1.set (d:=d) hlt hr;have:=h _ k2 ((st1.trans st2).mono (by simp)) e2
 simpa[Act.put,hd]using this
theorem zvf(ok:Ok s)(hC:∀f en,z0g C f=some en→Sound P f en){f:FuncId}{args:Array Operand}{argTypes:Array TypeId}
  (hc:z0s P priv ⟨some d,.call ⟨.value (.func f),args,argTypes⟩,type,pos,after,guard⟩=some ins) (hn:insOk s.t.size ins=true) (e:z08 C ins s.fr k s.h=some res) (h:z29 s ins.dst k res next) :
  (⟨some d,.call ⟨.value (.func f),args,argTypes⟩,type,pos,after,guard⟩:Oper).wp P ⟨s.t,[]⟩ s.w next Q:=by
 obtain⟨os,hos,rfl⟩:=map_some hc;obtain⟨vs,hvs,e1⟩:=z0i e;obtain⟨en,hen,e2⟩:=z0i e1;have hv:=zgd ok hos hvs;refine zss ok rfl (z0a rfl hn) (hC f en hen) hv ?_ e2 h;simp only[execOp,resolve,zjm,Deferred.ofValue,Act.eval,invoke,Sem.run_bind,Sem.run_pure,Result.andThen_ok,Array.empty_append,Array.append_empty]
theorem zy8(ok:Ok s)(hC:∀f en,z0g C f=some en→Sound P f en){n:Nat}{args:Array Operand}{argTypes:Array TypeId}
  (hc:z0s P priv ⟨some d,.call ⟨.value (.tmp n),args,argTypes⟩,type,pos,after,guard⟩=some ins) (hn:insOk s.t.size ins=true) (e:z08 C ins s.fr k s.h=some res) (h:z29 s ins.dst k res next) :
  (⟨some d,.call ⟨.value (.tmp n),args,argTypes⟩,type,pos,after,guard⟩:Oper).wp P ⟨s.t,[]⟩ s.w next Q:=by
 obtain⟨os,hos,rfl⟩:=map_some hc;obtain⟨g,caps,hg,e0⟩:=zgb e;obtain⟨vs,hvs,e1⟩:=z0i e0;obtain⟨en,hen,e2⟩:=z0i e1;have hv:=zgd ok hos hvs;have hf:=z71 ok hg;generalize hq:Act.eval ⟨s.t,[]⟩ (.tmp n)=q at hf;cases hf with
 | fn _ _ cs hcs=>
  refine zss ok rfl (z0a rfl hn) (hC g en hen) (hv.append hcs) ?_ e2 h;simp only[execOp,resolve,zjm,hq,Deferred.ofValue,invoke,Sem.run_bind,Sem.run_pure,Result.andThen_ok,Array.empty_append,List.append_toArray,List.nil_append]
theorem z1au(ok:Ok s){args:Array Operand}{argTypes:Array TypeId}(hc:z0s P priv ⟨some d,.call ⟨.builtin .len,args,argTypes⟩,type,pos,after,guard⟩=some ins)(hn:insOk s.t.size ins=true)(e:z08 C ins s.fr k s.h=some res)(h:z29 s ins.dst k res next) :
  (⟨some d,.call ⟨.builtin .len,args,argTypes⟩,type,pos,after,guard⟩:Oper).wp P ⟨s.t,[]⟩ s.w next Q:=by
 simp only[z0s]at hc;split at hc
 ·rename_i t x ht hx;obtain rfl:args = #[x]:=z3n hx;obtain rfl:argTypes = #[t]:=z3n ht;split at hc
  ·rename_i a hu ho;cases hc;obtain⟨l,hv,e1⟩:=z49 e;have hr:=z17 ok ho hv;generalize hq:Act.eval ⟨s.t,[]⟩ x=q at hr;cases hr;exact z1d ok rfl (z0a rfl hn) (rv :=.int .i64 l.length) (by simp[execOp,resolve,invoke,builtin,hq,Builtin.len_,z0o hu,goInt,show(⟨l.toArray⟩:ByteArray).size=l.length from by simp[ByteArray.size]]) (.int _ _) e1 h
  ·rename_i E a hu ho;cases hc;obtain⟨p,l,z,hv,e1⟩:=z2b e;have hr:=z17 ok ho hv;generalize hq:Act.eval ⟨s.t,[]⟩ x=q at hr;cases hr with
   | slNil=>exact z1d ok rfl (z0a rfl hn) (rv :=.int .i64 0) (by simp[execOp,resolve,invoke,builtin,hq,Builtin.len_,z0o hu,goInt]) (.int _ _) e1 h
   | sl=>exact z1d ok rfl (z0a rfl hn) (rv :=.int .i64 l) (by simp[execOp,resolve,invoke,builtin,hq,Builtin.len_,z0o hu,goInt]) (.int _ _) e1 h
  ·rename_i m E o hu ho;cases hc;have e1:k (s.fr.set d (.int .i64 m)) s.h=some res:=e;exact z1d ok rfl (z0a rfl hn) (rv :=.int .i64 m) (by simp[execOp,resolve,invoke,builtin,Builtin.len_,z0o hu,goInt]) (.int _ _) e1 h
  ·rename_i K E a hu ho;cases hc;obtain⟨r,hv,e1⟩:=z31 e;obtain⟨m,h1,e2,e3⟩:=z0f e1;have hr:=z17 ok ho hv;obtain⟨es,h2,e4,e5⟩:=z0f e2;cases e5;generalize hq:Act.eval ⟨s.t,[]⟩ x=q at hr;cases hr with
   | mapNil=>
    cases e4;exact z1d ok rfl (z0a rfl hn) (rv :=.int .i64 0) (by simp[execOp,resolve,invoke,builtin,hq,Builtin.len_,z0o hu,goInt]) (.int _ _) e3 h
   | map b rb hb=>
    simp only[z8e]at e4;split at e4
    ·rename_i es' hg;cases e4;have hk:=ok.heap.blk _ _ hb;rw[hg]at hk;obtain⟨rs,ck,h1,h2⟩:=hk;have hl:es.length=rs.size:=by have:=h2.1.length;simpa using this
     exact z1d ok rfl (z0a rfl hn) (rv :=.int .i64 es.length) (by simp[execOp,resolve,invoke,builtin,hq,Builtin.len_,z0o hu,goInt,getObj,Sem.run,h1,hl]) (.int _ _) e3 h
    ·cases e4
  ·cases hc
 ·cases hc
theorem z1av(ok:Ok s){args:Array Operand}{argTypes:Array TypeId}(hc:z0s P priv ⟨some d,.call ⟨.builtin .min,args,argTypes⟩,type,pos,after,guard⟩=some ins)(hn:insOk s.t.size ins=true)(e:z08 C ins s.fr k s.h=some res)(h:z29 s ins.dst k res next) :
  (⟨some d,.call ⟨.builtin .min,args,argTypes⟩,type,pos,after,guard⟩:Oper).wp P ⟨s.t,[]⟩ s.w next Q:=by
 simp only[z0s]at hc;split at hc
 ·rename_i t u x y ht hx;obtain rfl:args = #[x,y]:=z3n hx;split at hc
  ·rename_i a b hoa hob;cases hc;obtain⟨k1,m,hm,e1⟩:=z30 e;obtain⟨k2,n,hn',e2⟩:=z30 e1;have h1:=za1 ok hoa hm;have h2:=za1 ok hob hn';exact z1d ok rfl (z0a rfl hn) (by simp[execOp,resolve,invoke,builtin,h1,h2,Builtin.min_,Builtin.min2]) (.int _ _) e2 h
  ·cases hc
 ·cases hc
theorem z1aw(ok:Ok s){args:Array Operand}{argTypes:Array TypeId}(hc:z0s P priv ⟨some d,.call ⟨.builtin .max,args,argTypes⟩,type,pos,after,guard⟩=some ins)(hn:insOk s.t.size ins=true)(e:z08 C ins s.fr k s.h=some res)(h:z29 s ins.dst k res next) :
  (⟨some d,.call ⟨.builtin .max,args,argTypes⟩,type,pos,after,guard⟩:Oper).wp P ⟨s.t,[]⟩ s.w next Q:=by
 simp only[z0s]at hc;split at hc
 ·rename_i t u x y ht hx;obtain rfl:args = #[x,y]:=z3n hx;split at hc
  ·rename_i a b hoa hob;cases hc;obtain⟨k1,m,hm,e1⟩:=z30 e;obtain⟨k2,n,hn',e2⟩:=z30 e1;have h1:=za1 ok hoa hm;have h2:=za1 ok hob hn';exact z1d ok rfl (z0a rfl hn) (by simp[execOp,resolve,invoke,builtin,h1,h2,Builtin.max_,Builtin.max2]) (.int _ _) e2 h
  ·cases hc
 ·cases hc
theorem z14k(ok:Ok s){args:Array Operand}{argTypes:Array TypeId}(hc:z0s P priv ⟨some d,.call ⟨.builtin .append,args,argTypes⟩,type,pos,after,guard⟩=some ins)(hn:insOk s.t.size ins=true)(e:z08 C ins s.fr k s.h=some res)(h:z29 s ins.dst k res next) :
  (⟨some d,.call ⟨.builtin .append,args,argTypes⟩,type,pos,after,guard⟩:Oper).wp P ⟨s.t,[]⟩ s.w next Q:=by
 simp only[z0s]at hc;split at hc
 ·rename_i t u x y ht hx;obtain rfl:args = #[x,y]:=z3n hx;obtain rfl:argTypes = #[t,u]:=z3n ht;split at hc
  ·rename_i E F a b hu hu2 hoa hob;split at hc
   ·rename_i z hz;split at hc
    ·rename_i hcond;obtain⟨hzl,hb0,he0,hund⟩:=hcond;obtain⟨dE,hE⟩:=z81 hund;cases hc;obtain⟨p,l,z1,hv,e1⟩:=z2b e;obtain⟨q,m,z2,hv2,e2⟩:=z2b e1;split at e2
     ·rename_i hzz;obtain⟨hz1,hz2⟩:=hzz;rw[←hz1]at hv;rw[←hz2]at hv2;obtain⟨r,h1,e3,e4⟩:=z0f e2;refine z3c ok rfl (z0a rfl hn) (z10p (P:=P) (R:=type) (s:=⟨p,l⟩) (t:=⟨q,m⟩) ok.heap hu hE hu2 hz hzl hb0 he0 (z17 ok hoa hv) (z17 ok hob hv2) e3) ?_ e4 h;intro rv w' hrun;simp[execOp,resolve,invoke,builtin,hrun]
     ·cases e2
    ·cases hc
   ·cases hc
  ·rename_i E a b hu hu2 hoa hob;split at hc
   ·rename_i z kd hz hE;split at hc
    ·rename_i hcond;obtain⟨hzl,hb1,he1⟩:=hcond;cases hc;obtain⟨p,l,z1,hv,e1⟩:=z2b e;obtain⟨tt,hv2,e2⟩:=z49 e1;split at e2
     ·rename_i hz1;subst hz1;obtain⟨r,h1,e3,e4⟩:=z0f e2;refine z3c ok rfl (z0a rfl hn) (zy4 (P:=P) (R:=type) (s:=⟨p,l⟩) (t:=tt) ok.heap hu hE hu2 he1 hb1 hz hzl (z17 ok hoa hv) (z17 ok hob hv2) e3) ?_ e4 h;intro rv w' hrun;simp[execOp,resolve,invoke,builtin,hrun]
     ·cases e2
    ·cases hc
   ·cases hc
  ·cases hc
 ·cases hc
theorem z19q(ok:Ok s){args:Array Operand}{argTypes:Array TypeId}(hc:z0s P priv ⟨some d,.call ⟨.builtin .copy,args,argTypes⟩,type,pos,after,guard⟩=some ins)(hn:insOk s.t.size ins=true)(e:z08 C ins s.fr k s.h=some res)(h:z29 s ins.dst k res next) :
  (⟨some d,.call ⟨.builtin .copy,args,argTypes⟩,type,pos,after,guard⟩:Oper).wp P ⟨s.t,[]⟩ s.w next Q:=by
 simp only[z0s]at hc;split at hc
 ·rename_i t u x y ht hx;obtain rfl:args = #[x,y]:=z3n hx;obtain rfl:argTypes = #[t,u]:=z3n ht;split at hc
  ·rename_i E F a b hu hu2 hoa hob;split at hc
   ·rename_i hcond;obtain⟨he0,hund⟩:=hcond;obtain⟨dE,hE⟩:=z81 hund;cases hc;obtain⟨p,l,z1,hv,e1⟩:=z2b e;obtain⟨q,m,z2,hv2,e2⟩:=z2b e1;split at e2
    ·rename_i hzz;obtain⟨hz1,hz2⟩:=hzz;rw[←hz1]at hv;rw[←hz2]at hv2;obtain⟨r,h1,e3,e4⟩:=z0f e2;refine z3c ok rfl (z0a rfl hn) (zy5 (P:=P) (U:=u) (R:=type) (s:=⟨p,l⟩) (t:=⟨q,m⟩) ok.heap hu hE he0 (z17 ok hoa hv) (z17 ok hob hv2) e3) ?_ e4 h;intro rv w' hrun;simp[execOp,resolve,invoke,builtin,hrun]
    ·cases e2
   ·cases hc
  ·rename_i E a b hu hu2 hoa hob;split at hc
   ·rename_i hcond;obtain⟨he1,hund⟩:=hcond;obtain⟨dE,hE⟩:=z81 hund;cases hc;obtain⟨p,l,z1,hv,e1⟩:=z2b e;obtain⟨tt,hv2,e2⟩:=z49 e1;split at e2
    ·rename_i hz1;subst hz1;obtain⟨r,h1,e3,e4⟩:=z0f e2;refine z3c ok rfl (z0a rfl hn) (zvd (P:=P) (U:=u) (R:=type) (s:=⟨p,l⟩) (t:=tt) ok.heap hu hE he1 (z17 ok hoa hv) (z17 ok hob hv2) e3) ?_ e4 h;intro rv w' hrun;simp[execOp,resolve,invoke,builtin,hrun]
    ·cases e2
   ·cases hc
  ·cases hc
 ·cases hc
theorem zfp(ok:Ok s){t:TypeId}{lo:Option Operand}{a:Option Opd}(ho:zsg P t lo=some a){els:Int}{kk:Int→M β}{hh:Hp}(e:intOf s.fr a els kk hh=some res) :
  ∃n,zge (lo.map (Act.eval ⟨s.t,[]⟩)) els n∧kk n hh=some res:=by
 cases lo with
 | none=>cases ho;exact⟨els,.inl ⟨rfl,rfl⟩,e⟩
 | some x=>
  obtain⟨o,ho2,rfl⟩:=map_some ho;obtain⟨kd,n,hv,e1⟩:=z30 e;exact⟨n,.inr ⟨kd,by simp[za1 ok ho2 hv]⟩,e1⟩
theorem z17j(ok:Ok s){t:TypeId}{x:Operand}{lo hi:Option Operand}(hc:z0s P priv ⟨some d,.slice t x lo hi none,type,pos,after,guard⟩=some ins)(hn:insOk s.t.size ins=true)(e:z08 C ins s.fr k s.h=some res)(h:z29 s ins.dst k res next) :
  (⟨some d,.slice t x lo hi none,type,pos,after,guard⟩:Oper).wp P ⟨s.t,[]⟩ s.w next Q:=by
 simp only[z0s]at hc;split at hc
 ·rename_i a b hoa hob;split at hc
  ·rename_i hu;obtain⟨o,ho,rfl⟩:=map_some hc;obtain⟨l,hv,e1⟩:=z49 e;obtain⟨m,hm,e2⟩:=zfp ok hoa e1;obtain⟨n,hn',e3⟩:=zfp ok hob e2;obtain⟨r,h1,e4,e5⟩:=z0f e3;have hr:=z17 ok ho hv;unfold slcS at e4;split at e4
   ·rename_i hb;obtain⟨hb0,hb1,hb2⟩:=hb;cases e4;generalize hq:Act.eval ⟨s.t,[]⟩ x=q at hr;cases hr;have hsz:(⟨l.toArray⟩:ByteArray).size=l.length:=by simp[ByteArray.size]
    have hbd:=zd8 (P:=P) (w:=s.w) (isS:=false) (len:=l.length) (cap:=l.length) hm hn' hb0 hb1 hb2 (Nat.le_refl _);have hext:(⟨l.toArray⟩:ByteArray).extract m.toNat n.toNat=⟨((l.drop m.toNat).take (n - m).toNat).toArray⟩:=by
     apply ByteArray.ext;rw[ByteArray.data_extract];apply Array.ext';simp[List.take_drop];congr 2;omega
    refine z1d ok rfl (z0a rfl hn) (rv :=.string ⟨((l.drop m.toNat).take (n - m).toNat).toArray⟩) ?_ (.str _) e5 h;simp only[execOp,hq,Instr.sliceAt,Sem.run_bind,z0o hu,Result.andThen_ok,Instr.slice,Option.map_none,Option.isSome_none,Bool.false_eq_true,if_false,Sem.run_pure,hsz,hbd,hext]
   ·cases e4
  ·rename_i E hu;split at hc
   ·rename_i hund;obtain⟨dE,hE⟩:=z81 hund;obtain⟨o,ho,rfl⟩:=map_some hc;obtain⟨p,l,z,hv,e1⟩:=z2b e;split at e1
    ·rename_i hz;rw[←hz]at hv;obtain⟨m,hm,e2⟩:=zfp ok hoa e1;obtain⟨n,hn',e3⟩:=zfp ok hob e2;obtain⟨r,h1,e4,e5⟩:=z0f e3;refine z3c ok rfl (z0a rfl hn) (z10i (P:=P) (s:=⟨p,l⟩) ok.heap hu hE (z17 ok ho hv) hm hn' e4) ?_ e5 h;intro rv w' hrun;simp[execOp,hrun]
    ·cases e1
   ·cases hc
  ·rename_i m0 E hu;split at hc
   ·split at hc
    ·rename_i hund;obtain⟨dE,hE⟩:=z81 hund;cases hc;obtain⟨p,hv,e1⟩:=zp8 e;obtain⟨m,hm,e2⟩:=zfp ok hoa e1;obtain⟨n,hn',e3⟩:=zfp ok hob e2;obtain⟨r,h1,e4,e5⟩:=z0f e3;refine z3c ok rfl (z0a rfl hn) (zxw (P:=P) ok.heap hu hE (z71 ok hv) hm hn' e4) ?_ e5 h;intro rv w' hrun;simp[execOp,hrun]
    ·cases hc
   ·cases hc
  ·cases hc
 ·cases hc
theorem z17k(ok:Ok s){t:TypeId}{x i:Operand}(hc:z0s P priv ⟨some d,.index t x i,type,pos,after,guard⟩=some ins)(hn:insOk s.t.size ins=true)(e:z08 C ins s.fr k s.h=some res)(h:z29 s ins.dst k res next) :
  (⟨some d,.index t x i,type,pos,after,guard⟩:Oper).wp P ⟨s.t,[]⟩ s.w next Q:=by
 simp only[z0s]at hc;split at hc
 ·rename_i m E hu;split at hc
  ·rename_i c a j hty hoa hoj;split at hc
   ·rename_i h1c;cases hc;obtain⟨cs,hv,e1⟩:=z2t e;obtain⟨kd,n,hj,e2⟩:=z30 e1;obtain⟨v,h1,e3,e4⟩:=z0f e2;obtain⟨y,h2,e5,e6⟩:=z0f e4;obtain⟨e7,rfl⟩:=z2z e5;have hr:=z17 ok hoa hv;have hi:=za1 ok hoj hj;unfold idxV at e3;split at e3
    ·rename_i hb;obtain⟨e8,rfl⟩:=z2z e3;generalize hq:Act.eval ⟨s.t,[]⟩ x=q at hr;cases hr with
     | agg _ xs hxs=>
      obtain⟨d0,hE,hd0⟩:=zba hty;rcases hd0 with⟨hd0,c',hc',_⟩ | ⟨_,⟨_,hc',_⟩ | hc'⟩
      ·obtain⟨rv,hrv,hrr⟩:=hxs.get _ _ e8;have hp:=z73 (P:=P) (w:=s.w) hE hd0 (cs:=xs.toArray) (off:=n.toNat) (by simpa using hrv);have hen:=CTy.enc_dec e7;rw[hen]at e6;exact z1d ok rfl (z0a rfl hn) (rv:=rv) (by simp[execOp,hq,hi,Instr.index,asIntOf,z0o hu,hb,z1j hE,h1c,hp]) hrr e6 h
      ·cases hc'
      ·cases hc'
    ·cases e3
   ·cases hc
  ·rename_i ty a j hno hty hoa hoj;cases hc;obtain⟨cs,hv,e1⟩:=z2t e;obtain⟨kd,n,hj,e2⟩:=z30 e1;obtain⟨v,h1,e3,e4⟩:=z0f e2;obtain⟨y,h2,e5,e6⟩:=z0f e4;obtain⟨e7,rfl⟩:=z2z e5;have hr:=z17 ok hoa hv;have hi:=za1 ok hoj hj;unfold idxVn at e3;split at e3
   ·rename_i hb;split at e3
    ·rename_i hle;cases e3;generalize hq:Act.eval ⟨s.t,[]⟩ x=q at hr;cases hr with
     | agg _ xs hxs=>
      obtain⟨d0,hE,hd0⟩:=zba hty;have hagg:zal d0=true:=by
       rcases hd0 with⟨hd0,c',hc',_⟩ | ⟨hd0,_⟩
       ·exact absurd hc' (hno c' · )
       ·exact hd0
      have hp:=zdv (P:=P) (w:=s.w) hE hagg xs.toArray (n.toNat * P.cellsOf E);have hen:=Ty.enc_dec e7;rw[hen]at e6;exact z1d ok rfl (z0a rfl hn) (by simp[execOp,hq,hi,Instr.index,asIntOf,z0o hu,hb,z1j hE,hp]) (zs6 hxs _ _ hle) e6 h
    ·cases e3
   ·cases e3
  ·cases hc
 ·rename_i hu;split at hc
  ·rename_i a j hoa hoj;cases hc;obtain⟨l,hv,e1⟩:=z49 e;obtain⟨kd,n,hj,e2⟩:=z30 e1;obtain⟨v,h1,e3,e4⟩:=z0f e2;have hr:=z17 ok hoa hv;have hi:=za1 ok hoj hj;unfold idxS at e3;split at e3
   ·rename_i hb;obtain⟨b,h2,e5,e6⟩:=z0f e3;obtain⟨hb2,rfl⟩:=z2z e5;cases e6
    ·generalize hq:Act.eval ⟨s.t,[]⟩ x=q at hr;cases hr;have hg:(⟨l.toArray⟩:ByteArray)[n.toNat]? = some b:=by
      have hlt:n.toNat<l.length:=(List.getElem?_eq_some_iff.1 hb2).1;rw[getElem?_pos (⟨l.toArray⟩:ByteArray) n.toNat (by simpa[ByteArray.size]using hlt)];have:=List.getElem?_eq_getElem hlt
      rw[this]at hb2;exact hb2
     exact z1d ok rfl (z0a rfl hn) (rv :=.int .u8 b.toNat) (by simp[execOp,hq,hi,Instr.index,asIntOf,z0o hu,hb,hg]) (.int _ _) e4 h
   ·cases e3
  ·cases hc
 ·cases hc
theorem z10s(ok:Ok s){t:TypeId}(hc:z0s P priv ⟨some d,.makeMap t none,type,pos,after,guard⟩=some ins)(hn:insOk s.t.size ins=true)(e:z08 C ins s.fr k s.h=some res)(h:z29 s ins.dst k res next) :
  (⟨some d,.makeMap t none,type,pos,after,guard⟩:Oper).wp P ⟨s.t,[]⟩ s.w next Q:=by
 cases hc;simp only[z08]at e;obtain⟨r,h1,e1,e2⟩:=z0f e;cases e1;have hal:=ok.heap.alloc (w':=s.w.alloc (.map #[] 0)) (.map []) (by simp) 0 (.map #[] 0) rfl rfl rfl rfl (fun ρ' hx=>⟨#[],0,heap_alloc_new _ _,.nil,by simp[MapKept.Stamped]⟩);refine z3c (r:=(Instr.makeMap t none).run P s.w) ok rfl (z0a rfl hn) ⟨.map (some s.w.heap.size),_,_,?_,.map s.h.size _ (Rho.put_same _ _ _),hal.1,hal.2⟩ ?_ e2 h
 ·simp[Instr.makeMap]
 ·intro rv w' hrun;simp[execOp,hrun]
theorem zy9(ok:Ok s){f:FuncId}{first caps:Array Operand}(hc:z0s P priv ⟨some d,.makeFunc (.func f) first caps,type,pos,after,guard⟩=some ins)(hn:insOk s.t.size ins=true)(e:z08 C ins s.fr k s.h=some res)(h:z29 s ins.dst k res next) :
  (⟨some d,.makeFunc (.func f) first caps,type,pos,after,guard⟩:Oper).wp P ⟨s.t,[]⟩ s.w next Q:=by
 simp only[z0s]at hc;split at hc
 ·rename_i hf;split at hc
  ·rename_i os hos;cases hc;obtain⟨vs,hvs,e1⟩:=z0i e;have hv:=zgd ok hos hvs;have hf0:first = #[]:=Array.eq_empty_of_size_eq_zero hf
   refine z1d ok rfl (z0a rfl hn) (rv :=.func (.func f) #[] (caps.toList.map (Act.eval ⟨s.t,[]⟩)).toArray) ?_ (.fn _ _ _ hv) e1 h;simp[execOp,Instr.makeFunc,hf0];exact zjm _ _
  ·cases hc
 ·cases hc
theorem zmr(ok:Ok s){t:TypeId}{x:Operand}(hc:z0s P priv ⟨some d,.makeInterface t x,type,pos,after,guard⟩=some ins)(hn:insOk s.t.size ins=true)(e:z08 C ins s.fr k s.h=some res)(h:z29 s ins.dst k res next) :
  (⟨some d,.makeInterface t x,type,pos,after,guard⟩:Oper).wp P ⟨s.t,[]⟩ s.w next Q:=by
 simp only[z0s]at hc;split at hc
 ·cases hc
 ·rename_i dd hdd hu;obtain⟨o,ho,rfl⟩:=map_some hc;obtain⟨v,hv,e1⟩:=z0i e;refine z1d ok rfl (z0a rfl hn) (rv :=.iface t (Act.eval ⟨s.t,[]⟩ x)) ?_ (.iface _ _ _ (z17 ok ho hv)) e1 h;have:(Instr.makeInterface t (Act.eval ⟨s.t,[]⟩ x)).run P s.w=.ok (.iface t (Act.eval ⟨s.t,[]⟩ x)) s.w:=by
   unfold Instr.makeInterface;rw[Sem.run_bind,z0o hu,Result.andThen_ok];cases dd<;>first | rfl | exact absurd rfl (hdd _)
  simp[execOp,this]
 ·cases hc
end
end Go.Mini

/- Single operations: literals of structs and arrays; maps; then all of them in one. -/
namespace Go.Mini
universe u
theorem zst(off:Nat):∀(xs:List Value)(k:Nat)(cells:Array Value),off+k+xs.length≤cells.size →
  ((xs.zipIdx k).foldl (fun(cs:Array Value)(p:Value×Nat)=>cs.setIfInBounds (off+p.2) p.1) cells).size=cells.size ∧
  ∀i,((xs.zipIdx k).foldl (fun(cs:Array Value)(p:Value×Nat)=>cs.setIfInBounds (off+p.2) p.1) cells)[i]? = if off+k≤i∧i<off+k+xs.length then xs[i - (off+k)]? else cells[i]?
 | [],k,cells,_=>⟨rfl,fun i=>by rw[if_neg (by simp)];rfl⟩
 | x::xs,k,cells,h=>by
  simp only[List.length_cons]at h;obtain⟨h1,h2⟩:=zst off xs (k+1) (cells.setIfInBounds (off+k) x) (by simp;omega);simp only[List.zipIdx_cons,List.foldl_cons];refine⟨by rw[h1];simp,fun i=>?_⟩;rw[h2];simp only[List.length_cons];by_cases a:off+k≤i∧i<off+k+(xs.length+1)
  ·rw[if_pos a];by_cases b:i=off+k
   ·subst b;rw[if_neg (by omega),Array.getElem?_setIfInBounds_self_of_lt (by omega)];simp
   ·rw[if_pos (by omega),show i - (off+k)=(i - (off+(k+1)))+1 by omega,List.getElem?_cons_succ]
  ·rw[if_neg a,if_neg (by omega),Array.getElem?_setIfInBounds_ne (by omega)]
section
variable{P:Program}{β:Type}{s:S}{res:β×Hp}{next:Act→World→Prop}{Q:Exit→Act→World→Prop}{k:Fr→M β}{C:List (Nat×Entry)}{priv:List Nat}
variable{type:TypeId}{pos:String}{after:Array Edge}{guard:Option (Nat×Bool)}{ins:Ins}{d:Nat}
theorem zdc(ok:Ok s){place:Nat→Option (Nat×TypeId)}{pl:Nat→Option (Nat×Nat)}(hpl:∀i off t,place i=some (off,t)→pl i=some (off,P.cellsOf t)) :
  ∀{parts:List (Nat×Operand)}{ps:List (Nat×Option Nat×Opd)},zfi P place parts=some ps→∀{l:List (Nat×Option Nat×MV)},z4x s.fr ps=some l→∀{z cs:List MV},z2d z l=some cs→∀{cells:Array Value},VRels s.ρ z cells.toList →
   ∃cells',Instr.fill pl cells (parts.map fun p=>(p.1,Act.eval ⟨s.t,[]⟩ p.2))=some cells'∧VRels s.ρ cs cells'.toList
 | [],ps,hps,l,hl,z,cs,hf,cells,hr=>by
  cases hps;cases hl;simp only[z2d]at hf;cases hf;exact⟨cells,rfl,hr⟩
 | (i,x)::r,ps,hps,l,hl,z,cs,hf,cells,hr=>by
  simp only[zfi]at hps;split at hps
  ·rename_i off t hp;split at hps
   ·rename_i o ps' ho hps';have hlen:=hr.length;simp at hlen;have key:∀(n:Option Nat)(v:MV)(rv:Value)(vs:List MV)(xs:List Value)(l':List (Nat×Option Nat×MV)),Act.eval ⟨s.t,[]⟩ x=rv→rv.cells.toList=xs→VRels s.ρ vs xs→vs.length=P.cellsOf t→off+vs.length≤z.length→z4x s.fr ps'=some l'→z2d (z11 z off vs) l'=some cs →
      ∃cells',Instr.fill pl cells (((i,x)::r).map fun p=>(p.1,Act.eval ⟨s.t,[]⟩ p.2))=some cells'∧VRels s.ρ cs cells'.toList:=by
     intro n v rv vs xs l' hrv hxs hv hvl hle hl' hf';have hvx:=hv.length;have hsz:rv.cells.size=xs.length:=by rw[←hxs];simp
     obtain⟨f1,f2⟩:=zst off xs 0 cells (by omega);have hfold:rv.cells.zipIdx.foldl (fun cs(x:Value×Nat)=>cs.setIfInBounds (off+x.2) x.1) cells=(xs.zipIdx 0).foldl (fun(cs:Array Value)(p:Value×Nat)=>cs.setIfInBounds (off+p.2) p.1) cells:=by
      rw[←hxs,←Array.foldl_toList,Array.toList_zipIdx]
     have hnew:VRels s.ρ (z11 z off vs) ((xs.zipIdx 0).foldl (fun(cs:Array Value)(p:Value×Nat)=>cs.setIfInBounds (off+p.2) p.1) cells).toList:=by
      apply VRels.of_get
      ·rw[zc4 _ _ _ hle];simp[f1];omega
      ·intro j u y hu hy;rw[zgn _ _ _ _ hle]at hu;rw[Array.getElem?_toList,f2]at hy;simp only[Nat.add_zero]at hy;rw[←hvx]at hy;split at hu
       ·rename_i hj;rw[if_pos hj]at hy;obtain⟨y',hy',hr'⟩:=hv.get _ _ hu;rw[hy']at hy;cases hy;exact hr'
       ·rename_i hj;rw[if_neg hj]at hy;obtain⟨y',hy',hr'⟩:=hr.get _ _ hu;rw[Array.getElem?_toList]at hy';rw[hy']at hy;cases hy;exact hr'
     obtain⟨cells',g1,g2⟩:=zdc ok hpl hps' hl' hf' hnew;refine⟨cells',?_,g2⟩;simp only[List.map_cons,Instr.fill,hrv,hpl _ _ _ hp];rw[if_neg (by simp;omega)];rw[hfold];exact g1
    cases hg:z9b P t with
    | true=>
     rw[hg]at hps;cases hps;simp only[z4x]at hl;split at hl
     ·rename_i v l' hv hl';cases hl;have hrv:=z17 ok ho hv;cases v with
      | agg vs=>
       simp only[z2d]at hf;split at hf
       ·rename_i hc;generalize hq:Act.eval ⟨s.t,[]⟩ x=q at hrv;cases hrv with
        | agg _ xs hxs=>exact key none default _ vs xs l' hq (by simp[Value.cells]) hxs hc.1 (by omega) hl' hf
       ·cases hf
      | _=>cases hf
     ·cases hl
    | false=>
     rw[hg]at hps;simp only[cond_false]at hps;split at hps
     ·rename_i h1;cases hps;simp only[z4x]at hl;split at hl
      ·rename_i v l' hv hl';cases hl;have hrv:=z17 ok ho hv;have hf2:(if off<z.length∧z10 v=true then z2d (z.set off v) l' else none)=some cs:=by
        cases v<;>exact hf
       split at hf2
       ·rename_i hc;rw[←over_one _ _ _ hc.1]at hf2;exact key none default _ [v] [Act.eval ⟨s.t,[]⟩ x] l' rfl (by rw[z8f (hrv.oneCell hc.2)]) (.cons _ _ _ _ hrv .nil) (by simp[h1]) (by simp;omega) hl' hf2
       ·cases hf2
      ·cases hl
     ·cases hps
   ·cases hps
  ·cases hps
theorem zdz:∀{l:List (Nat×Option Nat×MV)}{z cs:List MV},z2d z l=some cs→cs.length=z.length
 | [],z,cs,h=>by simp only[z2d]at h;cases h;rfl
 | (off,some n,v)::r,z,cs,h=>by
  cases v with
  | agg vs=>
   simp only[z2d]at h;split at h
   ·rename_i hc;rw[zdz h,zc4 _ _ _ (by omega)]
   ·cases h
  | _=>cases h
 | (off,none,v)::r,z,cs,h=>by
  have h2:(if off<z.length∧z10 v=true then z2d (z.set off v) r else none)=some cs:=by
   cases v<;>exact h
  split at h2
  ·rw[zdz h2];simp
  ·cases h2
theorem z14l{α:Type}(fs:List Field)(f:Field→Sem α)(g:Field→α)(h:∀x∈fs,∀w:World,(f x).run P w=.ok (g x) w)(w:World):(fs.mapM f).run P w=.ok (fs.map g) w:=by
 induction fs with
 | nil=>simp
 | cons x fs ih=>
  have h1:=h x (by simp) w;have h2:=ih (fun y hy=>h y (by simp[hy]));simp[h1,h2]
theorem z17l{t:TypeId}{parts:Array (Nat×Operand)}(ok:Ok s)(hc:z0s P priv ⟨some d,.build t parts,type,pos,after,guard⟩=some ins)(hn:insOk s.t.size ins=true)(e:z08 C ins s.fr k s.h=some res)(h:z29 s ins.dst k res next) :
  (⟨some d,.build t parts,type,pos,after,guard⟩:Oper).wp P ⟨s.t,[]⟩ s.w next Q:=by
 simp only[z0s]at hc;have hparts:(parts.map fun p=>(p.1,Act.eval ⟨s.t,[]⟩ p.2)).toList=parts.toList.map fun p=>(p.1,Act.eval ⟨s.t,[]⟩ p.2):=by simp
 split at hc
 ·rename_i z fs hz hu;split at hc
  ·rename_i hall;obtain⟨ps,hps,rfl⟩:=map_some hc;obtain⟨l,hl,e1⟩:=z0i e;obtain⟨cs,hf,e2⟩:=z0i e1;obtain⟨i,zv,hi,hzv,hzr⟩:=zeroOf_spec hz;have hmap:(fs.mapM fun f=>do pure (f.offset,←sizeOf f.type):Sem (Array (Nat×Nat))).run P s.w=.ok (fs.map fun f=>(f.offset,P.cellsOf f.type)) s.w:=by
    rw[Array.mapM_eq_mapM_toList,Sem.run_map,z14l fs.toList _ (fun f=>(f.offset,P.cellsOf f.type))]
    ·simp;rw[zjm]
    ·intro x hx w;have:=List.all_eq_true.1 hall x hx
     obtain⟨dd,hd⟩:=z81 this;simp[z1j hd]
   obtain⟨cells',g1,g2⟩:=zdc (pl:=fun j=>(fs.map fun f=>(f.offset,P.cellsOf f.type))[j]?) ok (by
    intro j off t' hp;obtain⟨f,hf1,hf2⟩:=map_some hp;cases hf2;simp[hf1]) hps hl hf (hzr s.ρ)
   refine z1d ok rfl (z0a rfl hn) (rv :=.agg cells') ?_ (by have:=VRel.agg _ _ g2;simpa using this) e2 h;simp only[execOp,Instr.build,Sem.run_bind,z38 hi hzv,Result.andThen_ok,z0o hu,hmap,hparts,g1,Sem.run_pure]
  ·cases hc
 ·rename_i z m E hz hu;split at hc
  ·rename_i hund;obtain⟨dE,hE⟩:=z81 hund;obtain⟨ps,hps,rfl⟩:=map_some hc;obtain⟨l,hl,e1⟩:=z0i e;obtain⟨cs,hf,e2⟩:=z0i e1;obtain⟨i,zv,hi,hzv,hzr⟩:=zeroOf_spec hz;obtain⟨cells',g1,g2⟩:=zdc (pl:=fun j=>some (j * P.cellsOf E,P.cellsOf E)) ok (by
    intro j off t' hp;cases hp;rfl) hps hl hf (hzr s.ρ)
   refine z1d ok rfl (z0a rfl hn) (rv :=.agg cells') ?_ (by have:=VRel.agg _ _ g2;simpa using this) e2 h;simp only[execOp,Instr.build,Sem.run_bind,z38 hi hzv,Result.andThen_ok,z0o hu,z1j hE,hparts,g1,Sem.run_pure]
  ·cases hc
 ·cases hc
theorem z10t(n:Nat)(z:List MV):zse n z=z0t n z:=by
 induction n with
 | zero=>rfl
 | succ n ih=>simp only[zse,z0t,ih]
theorem zsu{t:TypeId}{len:Nat}{parts:Array (Nat×Operand)}(ok:Ok s)(hc:z0s P priv ⟨some d,.buildSlice t len parts,type,pos,after,guard⟩=some ins)(hn:insOk s.t.size ins=true)(e:z08 C ins s.fr k s.h=some res)(h:z29 s ins.dst k res next) :
  (⟨some d,.buildSlice t len parts,type,pos,after,guard⟩:Oper).wp P ⟨s.t,[]⟩ s.w next Q:=by
 simp only[z0s]at hc;have hparts:(parts.map fun p=>(p.1,Act.eval ⟨s.t,[]⟩ p.2)).toList=parts.toList.map fun p=>(p.1,Act.eval ⟨s.t,[]⟩ p.2):=by simp
 split at hc
 ·rename_i E hu;split at hc
  ·rename_i z hz;split at hc
   ·rename_i hcond;obtain⟨hund,hzl,hsmall,hlsm⟩:=hcond;obtain⟨dE,hE⟩:=z81 hund;obtain⟨ps,hps,rfl⟩:=map_some hc;obtain⟨l,hl,e1⟩:=z0i e;obtain⟨cs,hf,e2⟩:=z0i e1;obtain⟨p,h1,e3,e4⟩:=z0f e2;cases e3;obtain⟨i,zv,hi,hzv,hzr⟩:=zeroOf_spec hz;rw[z10t]at hf;have hrel:=zl0 (ρ:=s.ρ) len (hzr s.ρ) (P.cellsOf E) hzl;obtain⟨cells',g1,g2⟩:=zdc (pl:=fun j=>some (j * P.cellsOf E,P.cellsOf E)) ok (by
     intro j off t' hp;cases hp;rfl) hps hl hf hrel
    obtain⟨ρ',n1,n2,n3,n4⟩:=z8g (P:=P) ok.heap E g2;have hlen:cells'.size=len * P.cellsOf E:=by
     have a1:=g2.length;have a2:=zdz hf;have a3:=hrel.length;simp at a1 a3;omega
    refine z3c (r :=.ok (.slice (some ⟨s.w.heap.size,0,none⟩) len len) (s.w.alloc (.cells cells' E))) ok rfl (z0a rfl hn) (v :=.sl (some ⟨s.h.size,0⟩) len (P.cellsOf E)) ⟨_,ρ',_,rfl,zi6 n2 _ (Nat.le_refl _) (by omega),n3,n4⟩ ?_ e4 h;intro rv w' hrun;cases hrun;have hbig:¬(len * P.cellsOf E > 2^24):=by omega
    by_cases h0:len * P.cellsOf E=0
    ·have hg:(Array.range (len * P.cellsOf E)).map (fun x=>zv.cells[x%zv.cells.size]!) = #[]:=by rw[h0];simp
     rw[hg]at g1;have hg2:(Array.range (len * P.cellsOf E)).map (fun x=>(#[]:Array Value)[x%(#[]:Array Value).size]!) = #[]:=by rw[h0];simp
     have h0':(len * P.cellsOf E=0)=True:=eq_true h0;simp only[execOp,Instr.buildSlice,Sem.run_bind,z0o hu,Result.andThen_ok,z1j hE,hbig,if_false,h0',if_true,Sem.run_pure,hparts,hg2,g1,n1]
    ·simp only[execOp,Instr.buildSlice,Sem.run_bind,z0o hu,Result.andThen_ok,z1j hE,hbig,if_false,h0,Sem.run_pure,z38 hi hzv,hparts,g1,n1]
   ·cases hc
  ·cases hc
 ·cases hc
end
end Go.Mini
