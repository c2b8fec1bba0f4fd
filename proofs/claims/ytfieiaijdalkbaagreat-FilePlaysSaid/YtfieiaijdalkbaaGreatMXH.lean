/- Regions whose order is drawn: blocks that were filled early are set aside, and put back. -/
import Derived.Test.YtfieiaijdalkbaaGreatMX4
namespace Go.Mini
universe u
theorem zlx{h h1:Hp}(hg:∀c,h1.get c=h.get c∨h1.get c=.dead){c:Nat}(ho:Own h1 c):Own h c:=by
 unfold Own at *;rcases hg c with e | e
 ·rwa [←e]
 ·rw[e]at ho;rcases ho with⟨_,h⟩ | ⟨_,h⟩<;>cases h
theorem HRel.killed{ρ:Rho}{h h1:Hp}{H:Array Obj}(k:HRel ρ h H)(hs:h1.size=h.size)(hg:∀c,h1.get c=h.get c∨h1.get c=.dead):HRel ρ h1 H:=by
 have hd:∀c,¬z1o h1 c→¬z1o h c:=by
  intro c hc;unfold z1o at *;rcases hg c with e | e
  ·rwa [←e]
  ·exact absurd e hc
 refine⟨fun b rb e=>by rw[hs];exact k.dom b rb e,fun b hb=>k.live b (hd b hb),fun b b' rb rb' e e' hb hb'=>k.inj b b' rb rb' e e' (zlx hg hb) (hd b' hb'),fun b rb e=>?_,k.gl⟩;rcases hg b with e' | e'
 ·rw[e'];exact k.blk b rb e
 ·rw[e'];trivial
theorem zbz{ρ:Rho}{h h1:Hp}(hg:∀c,h1.get c=h.get c∨h1.get c=.dead){r:Nat}(f:z7m ρ h1 r):z7m ρ h r:=by
 obtain⟨c,q,e,ho,rfl⟩:=f;exact⟨c,q,e,zlx hg ho,rfl⟩
theorem zai{ρ:Rho}{h h1:Hp}(hg:∀c,h1.get c=h.get c∨h1.get c=.dead){r:Nat}(f:Liv ρ h1 r):Liv ρ h r:=by
 obtain⟨c,q,e,ho,rfl⟩:=f;refine⟨c,q,e,fun hd=>ho ?_,rfl⟩;unfold z1o at *;rcases hg c with e | e
 ·rwa [e]
 ·exact e
theorem Hp.mix(h g:Hp)(K:Nat→Bool):∀n:Nat,∃h':Hp,h'.size=h.size∧∀c,h'.get c=if c<n∧K c=true then g.get c else h.get c
 | 0=>⟨h,rfl,fun c=>by simp⟩
 | n+1=>by
  obtain⟨h',h1,h2⟩:=Hp.mix h g K n;by_cases hk:K n=true
  ·refine⟨h'.set n (g.get n),h1,fun c=>?_⟩;rw[Hp.get_set,h2];by_cases e:c=n
   ·subst e;simp[hk]
   ·rw[if_neg e];by_cases hc:c<n
    ·simp[hc,Nat.lt_succ_of_lt hc]
    ·have:¬c<n+1:=by omega
     simp[hc,this]
  ·refine⟨h',h1,fun c=>?_⟩;rw[h2];by_cases e:c=n
   ·subst e;simp[hk]
   ·by_cases hc:c<n
    ·simp[hc,Nat.lt_succ_of_lt hc]
    ·have:¬c<n+1:=by omega
     simp[hc,this]
structure StpC(s s':S)(ds:List Nat):Prop where
 ext:Ext s.ρ s'.ρ
 os:s'.w.os=s.w.os
 tape:s'.w.tape=s.w.tape
 output:s'.w.output=s.w.output
 size:s.w.heap.size≤s'.w.heap.size
 old:∀r,r<s.w.heap.size→¬z7m s.ρ s.h r→¬Wr s r→s'.w.heap[r]? = s.w.heap[r]?
 foot:∀r,z7m s'.ρ s'.h r→z7m s.ρ s.h r∨s.w.heap.size≤r
 liv:∀r,Liv s'.ρ s'.h r→Liv s.ρ s.h r∨s.w.heap.size≤r
 wr:∀r,Wr s' r→Wr s r∨s.w.heap.size≤r
 pi:∀n,n ∉ ds→s'.π n=s.π n
 pi2:∀n,s'.π n=s.π n∨s.w.heap.size≤s'.π n
 tsz:s'.t.size=s.t.size
 tmp:∀i,i ∉ ds→s'.t.getD i undef=s.t.getD i undef
theorem Stp.c{s s':S}{ds:List Nat}(a:Stp s s' ds):StpC s s' ds:=⟨a.ext,a.os,a.tape,a.output,a.size,a.old,a.foot,a.liv,a.wr,a.pi,a.pi2,a.tsz,a.tmp⟩
theorem StpC.stp{s s':S}{ds:List Nat}(a:StpC s s' ds)(g:Grw s.ρ s.h s'.ρ s'.h):Stp s s' ds:=⟨a.ext,a.os,a.tape,a.output,a.size,g,a.old,a.foot,a.liv,a.wr,a.pi,a.pi2,a.tsz,a.tmp⟩
theorem StpC.trans{s s' s'':S}{d1 d2:List Nat}(a:StpC s s' d1)(b:StpC s' s'' d2):StpC s s'' (d1++d2) where
 ext:=a.ext.trans b.ext
 os:=b.os.trans a.os
 tape:=b.tape.trans a.tape
 output:=b.output.trans a.output
 size:=Nat.le_trans a.size b.size
 old:=fun r hr hf hw=>(b.old r (Nat.lt_of_lt_of_le hr a.size) (fun k=>by
  rcases a.foot r k with k | k
  ·exact hf k
  ·omega) (fun k=>by
  rcases a.wr r k with k | k
  ·exact hw k
  ·omega)).trans (a.old r hr hf hw)
 foot:=fun r k=>by
  rcases b.foot r k with k | k
  ·exact a.foot r k
  ·exact .inr (Nat.le_trans a.size k)
 liv:=fun r k=>by
  rcases b.liv r k with k | k
  ·exact a.liv r k
  ·exact .inr (Nat.le_trans a.size k)
 wr:=fun r k=>by
  rcases b.wr r k with k | k
  ·exact a.wr r k
  ·exact .inr (Nat.le_trans a.size k)
 pi:=fun n hn=>(b.pi n (fun c=>hn (List.mem_append_right _ c))).trans (a.pi n (fun c=>hn (List.mem_append_left _ c)))
 pi2:=fun n=>by
  rcases b.pi2 n with k | k
  ·rw[k];exact a.pi2 n
  ·exact .inr (Nat.le_trans a.size k)
 tsz:=b.tsz.trans a.tsz
 tmp:=fun i hi=>(b.tmp i (fun c=>hi (List.mem_append_right _ c))).trans (a.tmp i (fun c=>hi (List.mem_append_left _ c)))
theorem StpC.mono{s s':S}{d1 d2:List Nat}(a:StpC s s' d1)(h:∀x∈d1,x∈d2):StpC s s' d2:=
 {a with pi:=fun n hn=>a.pi n fun c=>hn (h n c),tmp:=fun i hi=>a.tmp i fun c=>hi (h i c)}
theorem Ok.killed{s:S}(ok:Ok s){h1:Hp}(hs:h1.size=s.h.size)(hg:∀c,h1.get c=s.h.get c∨h1.get c=.dead):Ok {s with h:=h1}:=
 ⟨ok.heap.killed hs hg,ok.slots,fun n pv b e=>⟨(ok.priv n pv b e).1,fun f=>(ok.priv n pv b e).2 (zai hg f)⟩,ok.pinj⟩
theorem z140{s s2:S}(ok:Ok s){h1:Hp}(hg:∀c,h1.get c=s.h.get c∨h1.get c=.dead){ds:List Nat}(ok2:Ok s2)(st:StpC {s with h:=h1} s2 ds)
  (hp:∀n pv b,z0g s2.fr.p n=some (pv,b)→∃qv c,z0g s.fr.p n=some (qv,c)) (K:Nat→Bool) (hK:∀c,K c=true→h1.get c=.dead) (hKo:∀c,K c=true→¬z1o s.h c→Own s.h c) (h3:Hp) (hs3:h3.size=s2.h.size)
  (hg3:∀c,h3.get c=if K c=true then s.h.get c else s2.h.get c) :
  Ok {s2 with h:=h3}∧StpC s {s2 with h:=h3} ds∧∀c,K c=true→s.h.get c≠.dead→s2.h.get c=.dead:=by
 -- a living block that was set aside
 have aside:∀c,K c=true→¬z1o s.h c→∃rb,s.ρ c=some rb∧s2.ρ c=some rb∧rb.r<s.w.heap.size∧¬Liv s.ρ h1 rb.r∧¬Liv s2.ρ s2.h rb.r:=by
  intro c hc hd;obtain⟨rb,e⟩:=ok.heap.live c hd;have hlt:=ok.heap.lt e hd;have hn1:¬Liv s.ρ h1 rb.r:=by
   rintro⟨c',q,e',hd',hr⟩
   have hne:c'≠c:=fun x=>hd' (by unfold z1o;rw[x];exact hK c hc);have hd2:¬z1o s.h c':=by
    unfold z1o at *;rcases hg c' with k | k
    ·rwa [←k]
    ·exact absurd k hd'
   exact ok.heap.inj c c' rb q e e' (hKo c hc hd) hd2 (fun x=>hne x.symm) hr.symm
  refine⟨rb,e,st.ext c rb e,hlt,hn1,fun f=>?_⟩;rcases st.liv _ f with f | f
  ·exact hn1 f
  ·have:s.w.heap.size≤rb.r:=f
   omega
 have hdead2:∀c,K c=true→s.h.get c≠.dead→s2.h.get c=.dead:=by
  intro c hc hd;obtain⟨rb,e1,e2,_,_,hn⟩:=aside c hc hd;by_cases hd2:s2.h.get c=.dead
  ·exact hd2
  ·exact absurd ⟨c,rb,e2,hd2,rfl⟩ hn
 have hlive:∀c,¬z1o h3 c→(K c=true∧¬z1o s.h c)∨(K c=false∧¬z1o s2.h c):=by
  intro c hd;unfold z1o at *;rw[hg3]at hd;cases hk:K c with
  | true=>rw[hk,if_pos rfl]at hd;exact .inl ⟨rfl,hd⟩
  | false=>rw[hk,if_neg (by simp)]at hd;exact .inr ⟨rfl,hd⟩
 have heap3:HRel s2.ρ h3 s2.w.heap:=by
  refine⟨fun b rb e=>by rw[hs3];exact ok2.heap.dom b rb e,fun b hb=>?_,fun b b' rb rb' e e' ho hb' hne=>?_,fun b rb e=>?_,ok2.heap.gl⟩
  ·rcases hlive b hb with⟨hk,hd⟩ | ⟨_,hd⟩
   ·obtain⟨rb,_,e2,_⟩:=aside b hk hd;exact⟨rb,e2⟩
   ·exact ok2.heap.live b hd
  ·rcases hlive b ho.live with⟨hk,hd⟩ | ⟨hk,hd⟩<;>rcases hlive b' hb' with⟨hk',hd'⟩ | ⟨hk',hd'⟩
   ·obtain⟨q,e1,e2,_⟩:=aside b hk hd;obtain⟨q',e1',e2',_⟩:=aside b' hk' hd';rw[e]at e2;rw[e']at e2';cases e2;cases e2';exact ok.heap.inj b b' _ _ e1 e1' (hKo b hk hd) hd' hne
   ·obtain⟨q,e1,e2,_,_,hn⟩:=aside b hk hd;rw[e]at e2;cases e2;exact fun hr=>hn ⟨b',rb',e',hd',hr.symm⟩
   ·obtain⟨q,e1,e2,_,_,hn⟩:=aside b' hk' hd';rw[e']at e2;cases e2;exact fun hr=>hn ⟨b,rb,e,hd,hr⟩
   ·exact ok2.heap.inj b b' rb rb' e e' (by unfold Own at *;rwa [hg3,hk,if_neg (by simp)]at ho) hd' hne
  ·rw[hg3];cases hk:K b with
   | false=>rw[if_neg (by simp)];exact ok2.heap.blk b rb e
   | true=>
    rw[if_pos rfl];by_cases hd:z1o s.h b
    ·unfold z1o at hd;rw[hd];trivial
    ·obtain⟨q,e1,e2,hlt,hn1,_⟩:=aside b hk hd;rw[e]at e2;cases e2;refine((ok.heap.blk b rb e1).heap (st.old _ hlt (fun f=>hn1 f.liv) ?_)).mono st.ext;rintro⟨n,pv,hn,hr⟩
     have hr2:s.π n=rb.r:=hr;exact(ok.priv n pv true hn).2 ⟨b,rb,e1,hd,hr2.symm⟩
 refine⟨⟨heap3,ok2.slots,fun n pv b e=>⟨(ok2.priv n pv b e).1,?_⟩,ok2.pinj⟩,?_,hdead2⟩
 ·rintro⟨c,q,ec,hd,hr⟩
  have hr2:q.r=s2.π n:=hr;rcases hlive c hd with⟨hk,hd2⟩ | ⟨_,hd2⟩
  ·obtain⟨rb,e1,e2,hlt,_⟩:=aside c hk hd2;have ec':s2.ρ c=some q:=ec;rw[ec']at e2;cases e2;rcases st.pi2 n with h | h
   ·have h':s2.π n=s.π n:=h;obtain⟨qv,c',hq⟩:=hp n pv b e;exact(ok.priv n qv c' hq).2 ⟨c,q,e1,hd2,hr2.trans h'⟩
   ·have h':s.w.heap.size≤s2.π n:=h;omega
  ·exact(ok2.priv n pv b e).2 ⟨c,q,ec,hd2,hr⟩
 ·refine⟨st.ext,st.os,st.tape,st.output,st.size,fun r hr hf hw=>st.old r hr (fun f=>hf (zbz hg f)) hw,?_,?_,st.wr,st.pi,st.pi2,st.tsz,st.tmp⟩
  ·rintro r ⟨c,q,ec,ho,rfl⟩
   have ho':Own h3 c:=ho;rcases hlive c ho'.live with⟨hk,hd⟩ | ⟨hk,hd⟩
   ·obtain⟨rb,e1,e2,_⟩:=aside c hk hd;have ec':s2.ρ c=some q:=ec;rw[ec']at e2;cases e2;refine .inl ⟨c,q,e1,?_,rfl⟩;unfold Own at *;rw[hg3,hk,if_pos rfl]at ho';exact ho'
   ·have ho2:Own s2.h c:=by
     unfold Own at *;rw[hg3,hk,if_neg (by simp)]at ho';exact ho'
    rcases st.foot q.r ⟨c,q,ec,ho2,rfl⟩with f | f
    ·exact .inl (zbz hg f)
    ·exact .inr f
  ·rintro r ⟨c,q,ec,hd0,rfl⟩
   have hd0':¬z1o h3 c:=hd0;rcases hlive c hd0' with⟨hk,hd⟩ | ⟨hk,hd⟩
   ·obtain⟨rb,e1,e2,_⟩:=aside c hk hd;have ec':s2.ρ c=some q:=ec;rw[ec']at e2;cases e2;exact .inl ⟨c,q,e1,hd,rfl⟩
   ·rcases st.liv q.r ⟨c,q,ec,hd,rfl⟩with f | f
    ·exact .inl (zai hg f)
    ·exact .inr f
end Go.Mini

/- Regions whose order is drawn: a block that was held is filled. -/
namespace Go.Mini
universe u
mutual
theorem VRel.via{ρ ρ2 ρ3:Rho}(hv:∀c rb,ρ c≠none→ρ2 c=some rb→ρ3 c=some rb):∀{v:MV}{x0 x:Value},VRel ρ v x0→VRel ρ2 v x→VRel ρ3 v x
 | _,_,_,.bool b,.bool _ =>.bool b
 | _,_,_,.int k n,.int _ _ =>.int k n
 | _,_,_,.str s,.str _ =>.str s
 | _,_,_,.nil,.nil =>.nil
 | _,_,_,.ptr a rb h,.ptr _ rb2 h2 =>.ptr a rb2 (hv _ _ (by rw[h];simp) h2)
 | _,_,_,.slNil z,.slNil _ =>.slNil z
 | _,_,_,.sl a rb len z cap ra h hl hc hm,.sl _ rb2 _ _ cap2 ra2 h2 hl2 hc2 hm2 =>.sl a rb2 len z cap2 ra2 (hv _ _ (by rw[h];simp) h2) hl2 hc2 hm2
 | _,_,_,.mapNil,.mapNil =>.mapNil
 | _,_,_,.map b rb h,.map _ rb2 h2 =>.map b rb2 (hv _ _ (by rw[h];simp) h2)
 | _,_,_,.fn f cs vs h,.fn _ _ vs2 h2 =>.fn f cs vs2 (VRels.via hv h h2)
 | _,_,_,.nilFn,.nilFn =>.nilFn
 | _,_,_,.iface t v x h,.iface _ _ x2 h2 =>.iface t v x2 (VRel.via hv h h2)
 | _,_,_,.nilIface,.nilIface =>.nilIface
 | _,_,_,.agg cs vs h,.agg _ vs2 h2 =>.agg cs vs2 (VRels.via hv h h2)
 | _,_,_,.tup cs vs h,.tup _ vs2 h2 =>.tup cs vs2 (VRels.via hv h h2)
theorem VRels.via{ρ ρ2 ρ3:Rho}(hv:∀c rb,ρ c≠none→ρ2 c=some rb→ρ3 c=some rb):∀{vs:List MV}{xs0 xs:List Value},VRels ρ vs xs0→VRels ρ2 vs xs→VRels ρ3 vs xs
 | _,_,_,.nil,.nil =>.nil
 | _,_,_,.cons v x0 vs xs0 h hs,.cons _ x _ xs h2 hs2 =>.cons v x vs xs (VRel.via hv h h2) (VRels.via hv hs hs2)
end
theorem ERel.via{ρ ρ2 ρ3:Rho}(hv:∀c rb,ρ c≠none→ρ2 c=some rb→ρ3 c=some rb):∀{es:List (MV×MV)}{r0 r:List MapEntry},ERel ρ es r0→ERel ρ2 es r→ERel ρ3 es r
 | _,_,_,.nil,.nil =>.nil
 | _,_,_,.cons k v e es rs hk hv1 h,.cons _ _ e2 _ rs2 hk2 hv2 h2 =>.cons k v e2 es rs2 (hk.via hv hk2) (hv1.via hv hv2) (ERel.via hv h h2)
def BC(ρ:Rho):Blk→Prop
 | .cells cs _=>∀v∈cs,∃x,VRel ρ v x
 | .map es=>∃r,ERel ρ es r
 | .dead=>True
theorem z5i.bc{ρ:Rho}{rb:RB}{x:Blk}{H:Array Obj}(h:z5i ρ rb x H):BC ρ x:=by
 cases x with
 | cells cs ro=>
  obtain⟨c,el,fz,_,_,_,h4,_⟩:=h;intro v hv;obtain⟨i,hi⟩:=List.getElem?_of_mem hv;obtain⟨v',_,hr⟩:=h4 i v hi;exact⟨v',hr⟩
 | map es=>
  obtain⟨res,ck,_,h,_⟩:=h;exact⟨_,h⟩
 | dead=>trivial
theorem z5i.via{ρ ρ2 ρ3:Rho}(hv:∀c rb,ρ c≠none→ρ2 c=some rb→ρ3 c=some rb){rb:RB}{x:Blk}{H:Array Obj}(h0:BC ρ x)(h:z5i ρ2 rb x H):z5i ρ3 rb x H:=by
 cases x with
 | cells cs ro=>
  obtain⟨c,el,fz,h1,h2,h3,h4,h5⟩:=h;refine⟨c,el,fz,h1,h2,h3,fun i v hi=>?_,h5⟩;obtain⟨v',a,b⟩:=h4 i v hi;obtain⟨x0,hx0⟩:=h0 v (List.mem_of_getElem? hi);exact⟨v',a,hx0.via hv b⟩
 | map es=>
  obtain⟨res,ck,h1,h2⟩:=h;obtain⟨r,hr⟩:=h0;exact⟨res,ck,h1,hr.via hv h2.1,h2.2⟩
 | dead=>trivial
inductive Ren(n b:Nat):FV→FV→Prop
 | ptr:Ren n b (.v (.ptr (some ⟨n,0⟩))) (.v (.ptr (some ⟨b,0⟩)))
 | sl (l e:Nat):Ren n b (.v (.sl (some ⟨n,0⟩) l e)) (.v (.sl (some ⟨b,0⟩) l e))
 | map:Ren n b (.v (.map (some n))) (.v (.map (some b)))
theorem Ren.rel{n b:Nat}{V0 V:FV}(h:Ren n b V0 V){ρ2 ρ3:Rho}{π:Nat→Nat}{rb:RB}(e2:ρ2 n=some rb)(e3:ρ3 b=some rb){x:Value}(hr:zb9 ρ2 π V0 x):zb9 ρ3 π V x:=by
 cases h with
 | ptr=>
  have hr':VRel ρ2 (.ptr (some ⟨n,0⟩)) x:=hr;cases hr' with
  | ptr _ q hq=>
   have hq':ρ2 n=some q:=hq;rw[e2]at hq';cases hq';exact VRel.ptr ⟨b,0⟩ rb e3
 | sl l e=>
  have hr':VRel ρ2 (.sl (some ⟨n,0⟩) l e) x:=hr;cases hr' with
  | sl _ q _ _ cap ra hq hl hc=>
   have hq':ρ2 n=some q:=hq;rw[e2]at hq';cases hq';exact VRel.sl ⟨b,0⟩ rb l e cap ra e3 hl hc
 | map=>
  have hr':VRel ρ2 (.map (some n)) x:=hr;cases hr' with
  | map _ q hq=>
   rw[e2]at hq;cases hq;exact VRel.map b rb e3
theorem z115{s s2:S}(ok:Ok s){d b:Nat}{V0 V:FV}{blk:Blk}(hb:s.h.get b=.dead)(hlt:b<s.h.size)(hρ:s.ρ b=none)(hblk:z6f blk)(hbc:BC s.ρ blk)
  (hren:Ren s.h.size b V0 V) (ok2:Ok s2) (st:Stp s s2 [d]) (hfr:s2.fr=s.fr.setF d V0) (hh:s2.h=s.h.push blk) :
  ∃s3:S,s3.t=s2.t∧s3.w=s2.w∧s3.fr=s.fr.setF d V∧s3.h=s.h.set b blk∧(∃rb,s3.ρ=s.ρ.put b rb)∧Ok s3∧StpC s s3 [d]:=by
 have hnd:¬z1o s2.h s.h.size:=by
  unfold z1o;rw[hh,Hp.get_push,if_pos rfl];exact hblk.ne
 obtain⟨rb,erb⟩:=ok2.heap.live s.h.size hnd;have hext:Ext s.ρ (s.ρ.put b rb):=by
  intro c q e;rw[Rho.put_other _ _ (fun x=>by rw[x,hρ]at e;cases e)];exact e
 have hvia:∀c q,s.ρ c≠none→s2.ρ c=some q→s.ρ.put b rb c=some q:=by
  intro c q h1 h2;cases h3:s.ρ c with
  | none=>exact absurd h3 h1
  | some q'=>
   have:=st.ext c q' h3
   rw[h2]at this;cases this;exact hext c _ h3
 have z4y:∀c,c<s.h.size→s2.h.get c=s.h.get c:=by
  intro c hc;rw[hh,Hp.get_push,if_neg (by omega)]
 have hget:∀c,(s.h.set b blk).get c=if c=b then blk else s.h.get c:=fun c=>Hp.get_set _ _ _ _
 have hlv:∀c,¬z1o (s.h.set b blk) c→c≠b→¬z1o s.h c:=by
  intro c hd hne;unfold z1o at *;rwa [hget,if_neg hne]at hd
 have hbrb:z5i s2.ρ rb blk s2.w.heap:=by
  have:=ok2.heap.blk _ _ erb
  rwa [hh,Hp.get_push,if_pos rfl]at this
 have heap3:HRel (s.ρ.put b rb) (s.h.set b blk) s2.w.heap:=by
  have inj1:∀c q,s.ρ c=some q→¬z1o s.h c→rb.r≠q.r:=by
   intro c q e hd;have hc:c<s.h.size:=ok.heap.dom c q e;refine ok2.heap.inj s.h.size c rb q erb (st.ext c q e) (hblk.own (by rw[hh,Hp.get_push,if_pos rfl])) ?_ (by omega);unfold z1o;rw[z4y c hc];exact hd
  refine⟨fun c q e=>?_,fun c hd=>?_,fun c c' q q' e e' ho hd' hne=>?_,fun c q e=>?_,z10k hext ok.heap.gl⟩
  ·by_cases hc:c=b
   ·subst hc;exact hlt
   ·rw[Rho.put_other _ _ hc]at e;exact ok.heap.dom c q e
  ·by_cases hc:c=b
   ·subst hc;exact⟨rb,Rho.put_same _ _ _⟩
   ·obtain⟨q,e⟩:=ok.heap.live c (hlv c hd hc);exact⟨q,hext c q e⟩
  ·have hd:=ho.live;by_cases hc:c=b
   ·have hc':c'≠b:=fun x=>hne (hc.trans x.symm);rw[hc,Rho.put_same]at e;cases e;rw[Rho.put_other _ _ hc']at e';exact inj1 c' q' e' (hlv c' hd' hc')
   ·rw[Rho.put_other _ _ hc]at e;by_cases hc':c'=b
    ·rw[hc',Rho.put_same]at e';cases e';exact(inj1 c q e (hlv c hd hc)).symm
    ·rw[Rho.put_other _ _ hc']at e';exact ok.heap.inj c c' q q' e e' (by unfold Own at *;rwa [hget,if_neg hc]at ho) (hlv c' hd' hc') hne
  ·rw[hget];by_cases hc:c=b
   ·rw[if_pos hc];rw[hc,Rho.put_same]at e;cases e;exact hbrb.via hvia hbc
   ·rw[if_neg hc];rw[Rho.put_other _ _ hc]at e;have h2:=ok2.heap.blk c q (st.ext c q e);rw[z4y c (ok.heap.dom c q e)]at h2;exact h2.via hvia (ok.heap.blk c q e).bc
 have liv2:∀r,Liv (s.ρ.put b rb) (s.h.set b blk) r→Liv s2.ρ s2.h r:=by
  rintro r ⟨c,q,e,hd,rfl⟩
  by_cases hc:c=b
  ·rw[hc,Rho.put_same]at e;cases e;exact⟨s.h.size,rb,erb,hnd,rfl⟩
  ·rw[Rho.put_other _ _ hc]at e;refine⟨c,q,st.ext c q e,?_,rfl⟩;have:=hlv c hd hc
   unfold z1o at *;rwa [z4y c (ok.heap.dom c q e)]
 have foot2:∀r,z7m (s.ρ.put b rb) (s.h.set b blk) r→z7m s2.ρ s2.h r:=by
  rintro r ⟨c,q,e,ho,rfl⟩
  by_cases hc:c=b
  ·rw[hc,Rho.put_same]at e;cases e;refine⟨s.h.size,rb,erb,?_,rfl⟩;unfold Own at *;rw[hget,if_pos hc]at ho;rw[hh,Hp.get_push,if_pos rfl];exact ho
  ·rw[Rho.put_other _ _ hc]at e;refine⟨c,q,st.ext c q e,?_,rfl⟩;unfold Own at *;rw[hget,if_neg hc]at ho;rw[z4y c (ok.heap.dom c q e)];exact ho
 have hp2:s2.fr.p=s.fr.p:=by rw[hfr];rfl
 have hlk2:z0g s2.fr.v d=some V0:=by rw[hfr];exact(z1i d V0 s.fr.v d).trans (if_pos rfl)
 refine⟨{s2 with ρ:=s.ρ.put b rb,h:=s.h.set b blk,fr:=s.fr.setF d V},rfl,rfl,rfl,rfl,⟨rb,rfl⟩,⟨heap3,fun i x hx=>?_,fun n pv c hn=>?_,fun n m x y hx hy hne=>?_⟩,?_⟩
 ·have hx':(if d=i then some V else z0g s.fr.v i)=some x:=(z1i d V s.fr.v i).symm.trans hx;by_cases hd:d=i
  ·rw[if_pos hd]at hx';cases hx';subst hd;obtain⟨g1,g2⟩:=ok2.slots d V0 hlk2;exact⟨g1,hren.rel erb (Rho.put_same _ _ _) g2⟩
  ·rw[if_neg hd]at hx';obtain⟨g1,g2⟩:=ok.slots i x hx';refine⟨by show i<s2.t.size;rw[st.tsz];exact g1,?_⟩;show zb9 (s.ρ.put b rb) s2.π x (s2.t.getD i undef);rw[st.tmp i (by simpa using fun c=>hd c.symm)];have g3:=g2.mono hext;cases x with
   | v v=>exact g3
   | gone=>trivial
   | loc n o=>
    have h2:z0g s2.fr.v i=some (.loc n o):=by rw[hfr];exact(z1i d V0 s.fr.v i).trans ((if_neg hd).trans hx')
    have g4:=(ok2.slots i _ h2).2;rw[st.tmp i (by simpa using fun c=>hd c.symm)]at g4;exact g4
 ·have hn2:z0g s2.fr.p n=some (pv,c):=by rw[hp2];exact hn
  obtain⟨⟨c1,el,h1,h2⟩,h3⟩:=ok2.priv n pv c hn2;obtain⟨⟨c0,el0,h10,h20⟩,_⟩:=ok.priv n pv c hn;exact⟨⟨c1,el,h1,h20.via hvia h2⟩,fun f=>h3 (liv2 _ f)⟩
 ·exact ok2.pinj n m x y (by rw[hp2];exact hx) (by rw[hp2];exact hy) hne
 ·refine⟨hext,st.os,st.tape,st.output,st.size,st.old,fun r f=>st.foot r (foot2 r f),fun r f=>st.liv r (liv2 r f),?_,st.pi,st.pi2,st.tsz,st.tmp⟩;rintro r ⟨n,pv,hn,rfl⟩
  exact st.wr _ ⟨n,pv,by rw[hp2];exact hn,rfl⟩
end Go.Mini
