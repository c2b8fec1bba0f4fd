/- Layer 16: trim, shrink. -/
import Derived.Test.YtfieiaijdalkbaaGreatP16za
namespace Go.Moat
open Go.Mini
section
variable{N:Nat}{β:Type}{l:List HA}{S:β→HA}{v d o:Nat}{g:Geo}{V V1 V2:VolS}{T T1 T2 P P2:z0q}{ii c a from':Nat}{n n1:Ino}{s t:Sl}{i:Int}{A B:HA}{xs ys:List Nat}
theorem z158(fs:FS g V T P)(hd:dep c≠0)(hP:∀s,z1t c s→P ii s=T ii s):kids (P ii) c=zdz T T ii c 0:=by
 apply List.ext_getElem?;intro j;by_cases hj:j<32
 ·rw[z4v _ _ hj,zgv _ _ _ _ _ hj,if_neg (by omega)];by_cases h75:kid c j<75
  ·rw[hP _ (.inr (z47 hd hj h75))]
  ·have e:kid c j=75:=by have:=z7s c hj;omega
   rw[e,fs.pout,fs.out _ _ (by omega)]
 ·rw[List.getElem?_eq_none (by rw[z3i];omega),List.getElem?_eq_none (by rw[z7p];omega)]
theorem z13n(hg:g.ok)(hN:5000<N):∀(D K c:Nat)(V:VolS)(T P:z0q),dep c≤D→D<K→FS g V T P→(∀s,z1t c s→P ii s=T ii s)→T ii c≠0 →
  Tri (z00 [z0l v d g V,pts o (.cells (z1j v i n a) false)]) (z0e K (zeh N) (some ⟨o,0⟩,(T ii c:Int),(dep c:Int),(fst' c:Int),(from':Int))) fun r=>exA fun x:VolS×z0q×z0q=>pu (r=(((x.2.1 ii c:Nat):Int),(0:Int))∧Trim g V T P ii c from' x.1 x.2.1 x.2.2) (z00 [z0l v d g x.1,pts o (.cells (z1j v i n a) false)]):=by
 intro D;induction D with
 | zero=>
  intro K c V T P hD hK fs hP hz;obtain⟨K,rfl⟩:∃k,K=k+1:=⟨K - 1,by omega⟩;have hd:dep c=0:=by omega
  have hle:=fs.le ii c;have hnum:=fs.num hg ii c;rw[z12];generalize z0e K (zeh N)=self;unfold zeh F_10;dsimp only;refine z05 (by simp;omega) (z07 (by simp[hd]) ?_);by_cases hf:fst' c<from'
  ·exact z07 (by simpa using hf) (z03 [0,0] fun q hq=>⟨(V,T,P),⟨rfl,z11g fs hP hd hf⟩,hq⟩)
  ·refine z05 (by simpa using hf) ?_;refine z0u (z0b (z3o 1 rfl rfl ?_));have e1:wr .i64 ((T ii c:Int) - 1)=((T ii c - 1:Nat):Int):=by
    rw[z0d (by omega) (by omega)];omega
   rw[e1];have hu:V.n.m.usedE g ((T ii c - 1:Nat):Int)=0:=by
    unfold MetaS.usedE;rw[if_pos (by omega),Int.toNat_natCast,if_pos (fs.used ii c hz)]
   refine z02 [0] (zn0 hg fs.ok.inv.ok fs.ok.inv.rf (fs.ok.inv.gr hg) _ hN) fun r9=>z04 fun h9=>z01 ?_;rw[hu]at h9;rw[if_pos hu,Int.toNat_natCast];subst h9;dsimp only[sel,rem,nth,del,cat,upd];refine z03 [0,0] fun q hq=>⟨(V.free g (T ii c - 1),put T ii c 0,P),⟨?_,z11f hg fs hd hz (by omega)⟩,hq⟩;show _=(((put T ii c 0 ii c:Nat):Int),(0:Int));unfold put;rw[if_pos ⟨rfl,rfl⟩];rfl
 | succ D ih=>
  intro K c V T P hD hK fs hP hz;by_cases hd:dep c=0
  ·exact ih K c V T P (by omega) (by omega) fs hP hz
  obtain⟨K,rfl⟩:∃k,K=k+1+1:=⟨K - 2,by omega⟩;have hle:=fs.le ii c;have hnum:=fs.num hg ii c;have h75:=fs.pos hz;have IH:=fun(c':Nat)(V:VolS)(T P:z0q)(h1:dep c'+1=dep c) fs hP hz=>ih (K+1) c' V T P (by omega) (by omega) fs hP hz;have h0:=zn8 (N:=N) K;rw[z12];generalize z0e (K+1) (zeh N)=self at IH h0 ⊢;unfold zeh F_10;dsimp only;refine z05 (by simp;omega) (z05 (by simp;omega) ?_);refine z02 [0,0] (z9b hg hnum (fs.tab ii c hd) hN) fun r10=>z04 fun h10=>z01 ?_;dsimp only[sel,rem,nth,del,cat,upd];refine z05 (by simp[h10]) ?_;have ej:(if decide ((1:Int)<(dep c:Int))=true then ret (32:Int)else ret (1:Int):M Int)=ret ((z5j c:Nat):Int):=by
   unfold z5j;by_cases h1:1<dep c
   ·rw[if_pos h1,if_pos (by simp;omega)];rfl
   ·rw[if_neg h1,if_neg (by simp;omega)];rfl
  rw[ej];refine z0s ?_;have hmost:most=70368744177664:=rfl;refine z0a 0 rfl fun l10=>?_;have l10':=l10;rw[z1k,z3i]at l10';refine z02 [0] (show Tri _ (z96 1 8 _) _ from z8c (z0j l10) (by omega) (zi6 _) (by omega)) fun r12=>z01 ?_;dsimp only[sel,rem,nth,del,cat,upd];rw[z158 fs hd hP];refine z02 [1,1,1,0] (z11h (i:=i) (n:=n) (a:=a) (o:=o) (v:=v) (d:=d) (Tw:=z06 r12 1 (z18 (zdz T T ii c 0))) hg hN hd h75 fs hP h0 IH N 0 V T P (by omega) (by omega) (zuk fs)) fun j19=>z10 fun x=>z04 fun hj=>z01 ?_;obtain⟨V2,T2,P2⟩:=x;obtain⟨hj,L⟩:=hj;have L:TLoop g V T P ii c from' 32 V2 T2 P2:=L;subst hj;dsimp only[sel,rem,nth,del,cat,upd];have eself:=zjh L hd h75;refine z0a 0 rfl fun l10=>?_;refine z02 [0] (zqa (z0j l10) (by rw[z3i];omega) (by omega)) fun r22=>z04 fun h22=>z01 ?_;dsimp only[sel,rem,nth,del,cat,upd];have gk:∀j,j<32→(kids (T2 ii) c)[j]?.getD 0=T2 ii (kid c j):=fun j hj=>by rw[z4v _ _ hj];rfl
  have e1:wr .i64 ((T ii c:Int) - 1)=((T ii c - 1:Nat):Int):=by
   rw[z0d (by omega) (by omega)];omega
  have hz2:T2 ii c≠0:=by rw[eself];exact hz
  have hub:=L.fs.used ii c hz2;rw[eself]at hub;cases r22 with
  | false=>
   have hx:∀j,j<32→T2 ii (kid c j)=0:=fun j hj=>by
    rw[←gk j hj];exact h22.2 rfl j (by rw[z3i];exact hj)
   refine z07 rfl ?_;refine z0u (z0b (z3o 2 rfl rfl ?_));rw[e1];have hu:V2.n.m.usedE g ((T ii c - 1:Nat):Int)=0:=by
    unfold MetaS.usedE;rw[if_pos (by omega),Int.toNat_natCast,if_pos hub]
   refine z02 [1] (zn0 hg L.fs.ok.inv.ok L.fs.ok.inv.rf (L.fs.ok.inv.gr hg) _ hN) fun r9=>z04 fun h9=>z01 ?_;rw[hu]at h9;rw[if_pos hu,Int.toNat_natCast];subst h9;dsimp only[sel,rem,nth,del,cat,upd];refine z03 [0,1] fun q hq=>⟨(V2.free g (T ii c - 1),put T2 ii c 0,z3g P T2 ii c),⟨?_,z11e L hd h75 hg fs hz hx⟩,hq⟩;show _=(((put T2 ii c 0 ii c:Nat):Int),(0:Int));unfold put;rw[if_pos ⟨rfl,rfl⟩];rfl
  | true=>
   obtain⟨j0,hj0,hx0⟩:=h22.1 rfl;rw[z3i]at hj0;rw[gk j0 hj0]at hx0;have hx:∃j,j<32∧T2 ii (kid c j)≠0:=⟨j0,hj0,hx0⟩;refine z05 (by simp) ?_;refine z0a 3 rfl fun l12=>?_;refine z02 [0,2] (zxy (z0j l10) (z0j l12) (by rw[z3i,z7p]) (by rw[z3i];omega) (by omega)) fun r27=>z04 fun h27=>z01 ?_;dsimp only[sel,rem,nth,del,cat,upd];cases r27 with
   | true=>
    have heq:∀j,j<32→T2 ii (kid c j)=P ii (kid c j):=fun j hj=>by
     have:=h27 rfl j (by rw[z3i];exact hj)
     rw[gk j hj,←z158 fs hd hP,z4v _ _ hj]at this;exact this
    refine z07 rfl (z03 [2,2] fun q hq=>⟨(V2,T2,z3g P T2 ii c),⟨?_,z11d L hd h75 fs hx heq⟩,hq⟩);show _=(((T2 ii c:Nat):Int),(0:Int));rw[eself]
   | false=>
    refine z05 (by simp) ?_;have tok:TabOk (kids (T2 ii) c):=⟨z3i _ _,fun p hp=>by
     unfold kids at hp;obtain⟨k,_,rfl⟩:=List.mem_map.1 hp;exact L.fs.num hg _ _⟩
    refine z02 [0] (zmi tok (z0j l10) hN) fun r28=>z04 fun h28=>z01 ?_;dsimp only[sel,rem,nth,del,cat,upd];refine z0u (z0b (z3o 4 rfl rfl ?_));refine z0a 0 rfl fun l28=>?_;rw[e1];have hw:V2.writeE g ((T ii c - 1:Nat):Int) (zai (kids (T2 ii) c))=0:=by
     unfold VolS.writeE MetaS.usedE;rw[if_pos (zb8 tok),if_pos (by omega),Int.toNat_natCast,if_pos hub]
    refine z02 [3,0] (zc1 hg L.fs.ok.inv.ok _ (z0j l28) (by rw[zb8 tok];omega)) fun r32=>z04 fun h32=>z01 ?_;rw[hw]at h32;rw[if_pos hw,Int.toNat_natCast];subst h32;dsimp only[sel,rem,nth,del,cat,upd];refine z03 [0,3] fun q hq=>⟨(V2.write g (T ii c - 1) (zai (kids (T2 ii) c)),T2,z3g P T2 ii c),⟨?_,zxx L hd h75 hg fs hz hx⟩,hq⟩;show _=(((T2 ii c:Nat):Int),(0:Int));rw[eself]
theorem zhw(hg:g.ok)(hN:5000<N)(fs:FS g V T T){c:Nat}{dd ff:Int}(h1:dd=(dep c:Nat))(h2:ff=(fst' c:Nat)) :
  Tri (z00 [z0l v d g V,pts o (.cells (z1j v i n a) false)]) (F_23 N (some ⟨o,0⟩) (T ii c:Int) dd ff (from':Int)) fun r=>exA fun x:VolS×z0q×z0q=>pu (r=(((x.2.1 ii c:Nat):Int),(0:Int))∧Trim g V T T ii c from' x.1 x.2.1 x.2.2) (z00 [z0l v d g x.1,pts o (.cells (z1j v i n a) false)]):=by
 subst h1 h2;unfold F_23;by_cases hz:T ii c=0
 ·obtain⟨K,rfl⟩:∃k,N=k+1:=⟨N - 1,by omega⟩;have e0:((0:Nat):Int)=0:=rfl;have:=zn8 (N:=K+1) K (some ⟨o,0⟩) (dep c:Int) (fst' c:Int) (from':Int)
  unfold zeh at this;rw[hz,e0,this];refine z03 [0,0] fun q hq=>⟨(V,T,T),⟨?_,zps fs (fun _ _=>rfl) hz⟩,hq⟩;show _=(((T ii c:Nat):Int),(0:Int));rw[hz];rfl
 ·exact z13n hg hN 2 N c V T T (by unfold dep;(repeat' split)<;>omega) (by omega) fs (fun _ _=>rfl) hz
end
end Go.Moat

/- Layer 16: shrink, Cut. -/
namespace Go.Moat
open Go.Mini
structure Shr(g:Geo)(V:VolS)(T:z0q)(ii from' m:Nat)(V':VolS)(T':z0q):Prop where
 fs:FS g V' T' T'
 same:∀j s,¬(j=ii∧s<m)→T' j s=T j s
 leaf:∀s,s<m→dep s=0→T' ii s=if from'≤fst' s then 0 else T ii s
 some:∀s,s<m→dep s≠0→(∃j,j<32∧T' ii (kid s j)≠0)→T' ii s=T ii s
 none:∀s,s<m→dep s≠0→(∀j,j<32→T' ii (kid s j)=0)→T' ii s=0
 bk:∀j s,dep s=0→T' j s≠0→bk g V' (T' j s)=bk g V (T j s)
 lab:Lab V.n.m V'.n.m
 kp:Keeps V V'
 xt:XtT g ii V T V' T'
section
variable{N:Nat}{β:Type}{l:List HA}{S:β→HA}{v d o:Nat}{g:Geo}{V V1 V2:VolS}{T T1 T2 P P2:z0q}{ii c a from' m m':Nat}{n n1:Ino}{s t:Sl}{i:Int}
theorem z11i(fs:FS g V T T):Shr g V T ii from' 0 V T:=
 ⟨fs,fun _ _ _=>rfl,fun s h=>by omega,fun s h=>by omega,fun s h=>by omega,fun _ _ _ _=>rfl,Lab.rfl' _,z5p V,XtT.rfl'⟩
theorem Shr.nz(h:Shr g V T ii from' m V1 T1)(s:Nat)(hz:T1 ii s≠0):T1 ii s=T ii s:=by
 by_cases hm:s<m
 case neg=>exact h.same ii s fun x=>hm x.2
 by_cases hd:dep s=0
 ·have:=h.leaf s hm hd
  rw[this]at hz ⊢;split
  ·rename_i h1;rw[if_pos h1]at hz;exact absurd rfl hz
  ·rfl
 ·by_cases hx:∃j,j<32∧T1 ii (kid s j)≠0
  ·exact h.some s hm hd hx
  ·exact absurd (h.none s hm hd fun j hj=>Decidable.byContradiction fun c=>hx ⟨j,hj,c⟩) hz
theorem zl4(h:Shr g V T ii from' m V1 T1)(R:Trim g V1 T1 T1 ii c from' V2 T2 P2)(hmm:m≤m')(h75:m'≤75)(hu:∀s,s<75→(z1t c s↔m≤s∧s<m'))(hcl:∀s j,s<m→dep s≠0→j<32→kid s j<75→kid s j<m)(hroot:∀s j,dep s≠0→j<32→kid s j≠c):Shr g V T ii from' m' V2 T2:=by
 have nu:∀s,s<m→¬z1t c s:=fun s hs hx=>by
  have:=(hu s (by omega)).1 hx
  omega
 have old:∀s,m≤s→T1 ii s=T ii s:=fun s hs=>h.same ii s fun x=>by omega
 have new:∀s,s<m→T2 ii s=T1 ii s:=fun s hs=>R.same ii s fun x=>nu s hs x.2;have newK:∀s,s<m→dep s≠0→∀j,j<32→T2 ii (kid s j)=T1 ii (kid s j):=fun s hs hd j hj=>by
  by_cases hk:kid s j<75
  ·exact new _ (hcl s j hs hd hj hk)
  ·rw[R.fs.out _ _ (by omega),h.fs.out _ _ (by omega)]
 refine⟨R.fs.congr fun i s hd j hj=>?_,fun j s hs=>?_,fun s hs hd=>?_,fun s hs hd hx=>?_,fun s hs hd hx=>?_,fun j s hd hz=>?_,h.lab.trans R.lab,h.kp.trans R.kp,h.xt.trans R.xt h.nz⟩
 ·rw[R.p _ _ (z7s s hj)];split
  ·rfl
  ·rename_i hn;refine R.same _ _ fun x=>?_;rcases x.2 with e | e
   ·exact hroot s j hd hj e
   ·exact hn ⟨x.1,e⟩
 ·by_cases hs75:s<75
  ·rw[R.same j s fun x=>hs ⟨x.1,((hu s hs75).1 x.2).2⟩];exact h.same j s fun x=>hs ⟨x.1,by omega⟩
  ·rw[R.fs.out _ _ (by omega)];rw[←h.same j s fun x=>by omega,h.fs.out _ _ (by omega)]
 ·by_cases hm:s<m
  ·rw[new s hm];exact h.leaf s hm hd
  ·rw[R.leaf s ((hu s (by omega)).2 (by omega)) hd,old s (by omega)]
 ·by_cases hm:s<m
  ·rw[new s hm];obtain⟨j,hj,hx⟩:=hx;exact h.some s hm hd ⟨j,hj,by rwa [newK s hm hd j hj]at hx⟩
  ·rw[R.some s ((hu s (by omega)).2 (by omega)) hd hx,old s (by omega)]
 ·by_cases hm:s<m
  ·rw[new s hm];exact h.none s hm hd fun j hj=>by rw[←newK s hm hd j hj];exact hx j hj
  ·exact R.none s ((hu s (by omega)).2 (by omega)) hd hx
 ·rw[R.bk j s hd hz];have:=R.nz j s hd hz
  exact h.bk j s hd (by rw[←this];exact hz)
theorem zgw{p q:Nat→Nat}{k:Nat}(hr:z4l n1 p)(hk:k<60)(h:∀k',k'<60→rs k'≠rs k→q (rs k')=p (rs k')):z4l (n1.put (z3d k - 4) (q (rs k):Nat)) q:=by
 intro k' hk';rw[Ino.put_at _ (zdf hk).2.1];by_cases e:rs k'=rs k
 ·rw[if_pos (zjg.2 e),e]
 ·rw[if_neg fun x=>e (zjg.1 x),hr k' hk',h k' hk' e]
theorem zgx(R:Trim g V1 T1 P ii (rs c) from' V2 T2 P2):∀k',k'<60→rs k'≠rs c→T2 ii (rs k')=T1 ii (rs k'):=fun k' _ hne=>R.same ii _ fun x=>by
 rcases x.2 with e | e
 ·exact hne e
 ·exact zn3 _ _ e
def Nod(n n1:Ino):Prop:=n1.k=n.k∧n1.r=n.r∧n1.at 0=n.at 0∧n1.at 1=n.at 1
theorem Nod.put(h:Nod n n1){j:Nat}(h2:2≤j)(hj:j<12)(x:Int):Nod n (n1.put j x):=by
 obtain⟨h3,h4,h5,h6⟩:=h;refine⟨h3,h4,?_,?_⟩
 ·rw[Ino.put_at _ hj,if_neg (by omega),h5]
 ·rw[Ino.put_at _ hj,if_neg (by omega),h6]
theorem ze0{k:Nat}(h:k<8):rs k=k:=by unfold rs;rw[if_pos h]
theorem zul{c s:Nat}(h:c<8):z1t c s↔s=c:=by
 constructor
 ·rintro(h1 | h1)
  ·exact h1
  ·simp[z1a]at h1;omega
 ·exact .inl
theorem zum(hg:g.ok)(hN:5000<N):∀(K k:Nat)(V1:VolS)(T1:z0q)(n1:Ino),8 - k<K→k≤8→Shr g V T ii from' k V1 T1→z4l n1 (T1 ii)→Nod n n1 →
  Tri (z00 [z0l v d g V1,pts o (.cells (z1j v i n1 a) false)]) (z0e K (F_3m N (some ⟨o,0⟩) (from':Int) (some ⟨o,0+2⟩)) (k:Int)) fun r=>exA fun x:VolS×z0q×Ino=>pu (r=.inl ()∧Shr g V T ii from' 8 x.1 x.2.1∧z4l x.2.2 (x.2.1 ii)∧Nod n x.2.2) (z00 [z0l v d g x.1,pts o (.cells (z1j v i x.2.2 a) false)]):=by
 intro K;induction K with
 | zero=>intro k V1 T1 n1 h;omega
 | succ K ih=>
  intro k V1 T1 n1 h hk hs hr hn;rw[z12];generalize z0e K (F_3m N (some ⟨o,0⟩) (from':Int) (some ⟨o,0+2⟩))=go at ih ⊢;unfold F_3m;by_cases hk8:k<8
  case neg=>
   obtain rfl:k=8:=by omega
   exact z05 (by simp) (z03 [0,0] fun q hq=>⟨(V1,T1,n1),⟨rfl,hs,hr,hn⟩,hq⟩)
  have hk60:k<60:=by omega
  have hO:=zdf hk60;have hw:z3d k=6+k:=by unfold z3d;rw[if_pos hk8]
  have ea:∀f:Option MA→M (Unit⊕Int),bd (idxA 8 1 (some ⟨o,0+2+4⟩) (k:Int)) f=f (some ⟨o,z3d k⟩):=fun f=>by
   funext h;unfold idxA;simp only[bd];rw[if_pos (by omega)];unfold ret;dsimp only;rw[Int.toNat_natCast,hw];unfold MA.add;dsimp only;rw[show 0+2+4+k * 1=6+k by omega]
  refine z07 (by simp;omega) ?_;refine z0u (z0b ?_);rw[ea];refine tri_ldI 1 rfl (by rw[show z3d k=4+(z3d k - 4) by omega];exact z7b hO.2.1) ?_;rw[hr k hk60];refine z02 [0,0] (zhw (ii:=ii) (c:=rs k) hg hN hs.fs (by rw[ze0 hk8];unfold dep;rw[if_neg (by omega),if_neg (by omega)];rfl) (by rw[ze0 hk8];unfold fst';rw[if_pos hk8])) fun r11=>z10 fun x=>z04 fun h11=>z01 ?_;obtain⟨V2,T2,P2⟩:=x;obtain⟨h11,R⟩:=h11;have R:Trim g V1 T1 T1 ii (rs k) from' V2 T2 P2:=R;subst h11;dsimp only[sel,rem,nth,del,cat,upd];refine z0u (z0b ?_);rw[ea];refine tri_stc 1 rfl (by rw[z7e];omega) rfl ?_;have es:(z1j v i n1 a).set (z3d k) (.int .i64 ((T2 ii (rs k):Nat):Int))=z1j v i (n1.put (z3d k - 4) (T2 ii (rs k):Nat)) a:=by
   have:=za7 v i n1 a hO.2.1 ((T2 ii (rs k):Nat):Int)
   rwa [show 4+(z3d k - 4)=z3d k by omega]at this
  rw[es];refine z05 (by simp) ?_;rw[z0d (by omega) (by omega)];have hS:Shr g V T ii from' (k+1) V2 T2:=by
   refine zl4 hs R (by omega) (by omega) (fun s hs=>?_) (fun s j hs hd=>?_) fun s j hd hj=>zjf k s j hd hj
   ·rw[ze0 hk8,zul hk8];omega
   ·rcases z2c hd with rfl | rfl | rfl<;>omega
  exact z1n [0,0] (ih (k+1) V2 T2 _ (by omega) (by omega) hS (zgw hr hk60 (zgx R)) (hn.put hO.2.2 hO.2.1 _))
theorem zun(hg:g.ok)(hN:5000<N)(fs:FS g V T T)(hr:z4l n (T ii)) :
  Tri (z00 [z0l v d g V,pts o (.cells (z1j v i n a) false)]) (F_32 N (some ⟨o,0⟩) (from':Int)) fun r=>exA fun x:VolS×z0q×Ino=>pu (r=0∧Shr g V T ii from' 75 x.1 x.2.1∧z4l x.2.2 (x.2.1 ii)∧Nod n x.2.2) (z00 [z0l v d g x.1,pts o (.cells (z1j v i x.2.2 a) false)]):=by
 unfold F_32;refine z0u (z0b ?_);refine z02 [0,0] (zum hg hN N 0 V T n (by omega) (by omega) (z11i fs) hr ⟨rfl,rfl,rfl,rfl⟩) fun j15=>z10 fun x=>z04 fun hj=>z01 ?_;obtain⟨V1,T1,n1⟩:=x;obtain⟨hj,S1,r1,nd1⟩:=hj;have S1:Shr g V T ii from' 8 V1 T1:=S1;have r1:z4l n1 (T1 ii):=r1;have nd1:Nod n n1:=nd1;subst hj;dsimp only[sel,rem,nth,del,cat,upd];refine z0u (z0b ?_);refine tri_ldI 1 rfl (z7b (n:=n1) (j:=10) (by omega)) ?_;have e10:n1.at 10=(T1 ii 8:Nat):=r1 8 (by omega);rw[e10];refine z02 [0,0] (zhw (ii:=ii) (c:=8) hg hN S1.fs rfl rfl) fun r21=>z10 fun x=>z04 fun h21=>z01 ?_;obtain⟨V2,T2,P2⟩:=x;obtain⟨h21,R⟩:=h21;have R:Trim g V1 T1 T1 ii (rs 8) from' V2 T2 P2:=R;subst h21;dsimp only[sel,rem,nth,del,cat,upd];refine z0u (z0b ?_);refine tri_stc 1 rfl (by rw[z7e];omega) rfl ?_;rw[show 0+2+12=4+10 from rfl,za7 v i n1 a (by omega)];refine z05 (by simp) ?_;have S2:Shr g V T ii from' 41 V2 T2:=by
  refine zl4 S1 R (by omega) (by omega) (fun s hs=>?_) (fun s j hs hd=>?_) fun s j hd hj=>zjf 8 s j hd hj
  ·simp[rs,z1t,z1a];omega
  ·rcases z2c hd with rfl | rfl | rfl<;>omega
 have r2:z4l (n1.put 10 (T2 ii 8:Nat)) (T2 ii):=zgw (k:=8) r1 (by omega) (zgx R);have nd2:=nd1.put (j:=10) (by omega) (by omega) ((T2 ii 8:Nat):Int);dsimp only[sel,rem,nth,del,cat,upd];generalize n1.put 10 ((T2 ii 8:Nat):Int)=n2 at r2 nd2 ⊢;refine z0u (z0b ?_);refine tri_ldI 1 rfl (z7b (n:=n2) (j:=11) (by omega)) ?_;have e11:n2.at 11=(T2 ii 41:Nat):=r2 40 (by omega);rw[e11];refine z02 [0,0] (zhw (ii:=ii) (c:=41) hg hN S2.fs rfl rfl) fun r27=>z10 fun x=>z04 fun h27=>z01 ?_;obtain⟨V3,T3,P3⟩:=x;obtain⟨h27,R3⟩:=h27;have R3:Trim g V2 T2 T2 ii (rs 40) from' V3 T3 P3:=R3;subst h27;dsimp only[sel,rem,nth,del,cat,upd];refine z0u (z0b ?_);refine tri_stc 1 rfl (by rw[z7e];omega) rfl ?_;rw[show 0+2+13=4+11 from rfl,za7 v i n2 a (by omega)];have S3:Shr g V T ii from' 75 V3 T3:=by
  refine zl4 S2 R3 (by omega) (by omega) (fun s hs=>?_) (fun s j hs hd hj=>?_) fun s j hd hj=>zjf 40 s j hd hj
  ·simp[rs,z1t,z1a];omega
  ·rcases z2c hd with rfl | rfl | rfl<;>simp[kid]<;>omega
 exact z03 [0,0] fun q hq=>⟨(V3,T3,n2.put 11 (T3 ii 41:Nat)),⟨rfl,S3,zgw (k:=40) r2 (by omega) (zgx R3),nd2.put (j:=11) (by omega) (by omega) _⟩,hq⟩
end
end Go.Moat

/- Layer 16: Cut. -/
namespace Go.Moat
open Go.Mini
def ztc(g:Geo)(V:VolS)(T:z0q):Prop:=∀i x,z2g V.n.m i≤x→x<3840→fb g V T i x=0
structure CutP(g:Geo)(V:VolS)(T:z0q)(ii size:Nat)(V':VolS)(T':z0q):Prop where
 fv:FV g V' T'
 same:∀j s,j≠ii→T' j s=T j s
 leaf:∀s,s<75→dep s=0→T' ii s=if(size+63) / 64≤fst' s then 0 else T ii s
 some:∀s,s<75→dep s≠0→(∃j,j<32∧T' ii (kid s j)≠0)→T' ii s=T ii s
 none:∀s,s<75→dep s≠0→(∀j,j<32→T' ii (kid s j)=0)→T' ii s=0
 fb:∀j x,x<3840→fb g V' T' j x=if j=ii∧size≤x then 0 else fb g V T j x
 ino:∃n',V'.n.m.ino=V.n.m.ino.set ii n'∧n'.k=(z14 V.n.m.ino ii).k∧n'.r=(z14 V.n.m.ino ii).r∧n'.at 0=(z14 V.n.m.ino ii).at 0∧n'.at 1=(size:Int)
 rows:∀r,(∃n∈V.n.m.ino,n.k≠0∧n.r=r)→(z1c V'.n.m.rows r).1=(z1c V.n.m.rows r).1
 kp:Keeps V V'
 xt:XtT g ii V T V' T'
def cE(m:MetaS)(i size:Int):Int:=if m.hasE i≠0 then m.hasE i else if size<0∨3840<size then 1 else 0
section
variable{N:Nat}{β:Type}{l:List HA}{S:β→HA}{v d o:Nat}{g:Geo}{V V1 V2:VolS}{T T1 T2 P P2:z0q}{ii c a from' m m' size:Nat}{n n1:Ino}{s t:Sl}{i:Int}
theorem ziq:∀n:Nat,z0r n [MV.int .u8 (0:Int)]=bytesOf (List.replicate n 0)
 | 0=>rfl
 | n+1=>by
  show[MV.int .u8 (0:Int)]++z0r n [MV.int .u8 (0:Int)]=_;rw[ziq n];rfl
theorem z11j(j:Nat):z1e[j]?.getD 0=0:=by
 unfold z1e;rw[List.getElem?_replicate];split<;>rfl
theorem zbj(h:T ii (lf (m / 64))=0):fb g V T ii m=0:=by
 unfold fb bk;rw[h,if_pos rfl];exact z11j _
theorem ztd(h:Shr g V T ii from' 75 V1 T1)(j:Nat){x:Nat}(hx:x<3840):fb g V1 T1 j x=if j=ii∧from'≤x / 64 then 0 else fb g V T j x:=by
 have hk:x / 64<60:=by omega
 have hd:=zje (x / 64);have hl:=(z192 hk).2;by_cases hz:T1 j (lf (x / 64))=0
 ·rw[zbj hz];split
  ·rfl
  ·rename_i hn;by_cases e:j=ii
   ·subst e;have:=h.leaf _ hl hd
    rw[zzz _ hk,if_neg fun y=>hn ⟨rfl,y⟩]at this;exact(zbj (by rw[←this];exact hz)).symm
   ·have:=h.same j (lf (x / 64)) fun y=>e y.1
    exact(zbj (by rw[←this];exact hz)).symm
 ·rw[if_neg]
  ·unfold fb;rw[h.bk j _ hd hz]
  ·rintro⟨rfl,hf⟩
   have:=h.leaf _ hl hd
   rw[zzz _ hk,if_pos hf]at this;exact hz this
theorem zxz(h:size≤3840):F_2x N (size:Int)=ret (((size+63) / 64:Nat):Int):=by
 unfold F_2x;by_cases h0:size=0
 ·subst h0;rfl
 ·rw[if_neg (by simp;omega)];have e1:wr .i64 ((size:Int) - 1)=((size - 1:Nat):Int):=by rw[z0d (by omega) (by omega)];omega
  have e2:((size - 1:Nat):Int).tdiv 64=(((size - 1) / 64:Nat):Int):=rfl;rw[e1,e2,z0d (n:=(((size - 1) / 64:Nat):Int)) (by omega) (by omega),z0d (by omega) (by omega)];congr 1;omega
theorem z14j(hg:g.ok)(ok:MetaOk g V.n.m){size:Int}(h:cE V.n.m i size≠0) :
  Tri (z00 [z0l v d g V]) (F_01 N (some ⟨v,0⟩) i size) fun r=>pu (r=cE V.n.m i size) (z00 [z0l v d g V]):=by
 unfold cE at h ⊢;unfold F_01;refine z02 [0] (z8u hg ok i) fun r5=>z10 fun o=>z04 fun h5=>z01 ?_;by_cases hE:V.n.m.hasE i=0
 case neg=>
  rw[if_neg hE]at h5;subst h5;refine z07 (by simpa using hE) (z03 [0] fun q hq=>⟨?_,hq⟩);rw[if_pos hE]
 rw[if_pos hE]at h5 ⊢;subst h5;have hE':¬(V.n.m.hasE i≠0):=fun c=>c hE;simp only[if_neg hE']at h ⊢;refine z05 (by simp) ?_;by_cases h0:size<0∨3840<size
 ·rw[if_pos h0];exact z07 (by simpa using h0) (z03 [0] fun q hq=>⟨rfl,hq⟩)
 ·rw[if_neg h0]at h;exact absurd rfl h
theorem zl5(hg:g.ok)(hN:5000<N)(F:FV g V T)(Z:ztc g V T)(hE:V.n.m.hasE (ii:Int)=0)(hsz:size≤3840) :
  Tri (z00 [z0l v d g V]) (F_01 N (some ⟨v,0⟩) (ii:Int) (size:Int)) fun r=>exA fun x:VolS×z0q=>pu (r=0∧CutP g V T ii size x.1 x.2) (z00 [z0l v d g x.1]):=by
 have hok:=zfk F.fs.ok.inv.ok hE;have h0:=hok.s0;have h1:=hok.s1;unfold F_01;refine z02 [0] (z8u hg F.fs.ok.inv.ok (ii:Int)) fun r5=>z10 fun o=>z04 fun h5=>z01 ?_;rw[if_pos hE]at h5 ⊢;rw[zcm hE];subst h5;dsimp only[sel,rem,nth,del,cat,upd];refine z05 (by simp) ?_;refine z05 (by simp;omega) ?_;rw[zxz hsz];refine z0s ?_;refine z02 [0,0] (zun (ii:=ii) hg hN F.fs (F.roots ii)) fun r6=>z10 fun x=>z04 fun h6=>z01 ?_;obtain⟨V1,T1,n1⟩:=x;obtain⟨h6,S1,r1,w1,w2,w3,w4⟩:=h6;have S1:Shr g V T ii ((size+63) / 64) 75 V1 T1:=S1;have r1:z4l n1 (T1 ii):=r1;have w1:n1.k=(z14 V.n.m.ino ii).k:=w1;have w2:n1.r=(z14 V.n.m.ino ii).r:=w2;have w3:n1.at 0=(z14 V.n.m.ino ii).at 0:=w3;have w4:n1.at 1=(z14 V.n.m.ino ii).at 1:=w4;subst h6;dsimp only[sel,rem,nth,del,cat,upd];refine z05 (by simp) ?_;have em:(size:Int).tmod 64=((size%64:Nat):Int):=rfl;have ed:wr .i64 ((size:Int).tdiv 64)=((size / 64:Nat):Int):=by
  have e1:(size:Int).tdiv 64=((size / 64:Nat):Int):=rfl;rw[e1,z0d (by omega) (by omega)]
 rw[em,ed];refine z02 [0,0] (Q:=fun c=>pu (c=decide (0<size%64∧(size:Int)<(z14 V.n.m.ino ii).at 1)) (z00 [z0l v d g V1,pts o (.cells (z1j v (ii:Int) n1 (V.n.m.inodeL ii)) false)])) ?_ fun c11=>z04 fun h11=>z01 ?_
 ·by_cases hm:0<size%64
  ·refine z07 (by simp;omega) ?_;refine z0u (z0b (z0b (tri_ldI 1 rfl (z7b (n:=n1) (j:=1) (by omega)) ?_)));rw[w4];refine z03 [0,0] fun q hq=>⟨?_,hq⟩;by_cases h:(size:Int)<(z14 V.n.m.ino ii).at 1<;>simp[h,hm]
  ·refine z05 (by simp;omega) (z03 [0,0] fun q hq=>⟨?_,hq⟩);simp[hm]
 dsimp only[sel,rem,nth,del,cat,upd];have key:Tri (z00 [z0l v d g V1,pts o (.cells (z1j v (ii:Int) n1 (V.n.m.inodeL ii)) false)]) (if c11=true then(bd (F_0q N (some ⟨o,0⟩) ((size / 64:Nat):Int)) fun r_12=>if(!decide (r_12.2=(0:Int)))=true then(ret (Sum.inr r_12.2))else(bd (if(!decide (r_12.1=(0:Int)))=true then(bd (F_0f N (some ⟨v,0⟩) (wr .i64 (r_12.1 - (1:Int)))) fun r_13=>if(!decide (r_13.2=(0:Int)))=true then(ret (Sum.inr r_13.2))else(bd (slc 1 r_13.1 ((size%64:Nat):Int) (r_13.1.len:Int)) fun l_14=>bd (slClr 1 ([MV.int .u8 (0:Int)]) l_14) fun _=>bd (F_0g N (some ⟨v,0⟩) (wr .i64 (r_12.1 - (1:Int))) r_13.1) fun r_15=>if(!decide (r_15=(0:Int)))=true then(ret (Sum.inr r_15))else(ret ((Sum.inl ())))))else(ret ((Sum.inl ())))) fun j_16=>(match j_16 with | Sum.inl j_17=>ret ((Sum.inl ())) | Sum.inr j_18=>ret (Sum.inr j_18))))else(ret ((Sum.inl ()))):M (Unit⊕Int))
   fun r=>exA fun V2:VolS=>pu (r=.inl ()∧FS g V2 T1 T1∧(∀j x,x<3840→fb g V2 T1 j x=if j=ii∧size≤x then 0 else fb g V T j x)∧V2.n.m=V1.n.m∧Keeps V1 V2∧XtT g ii V1 T1 V2 T1) (z00 [z0l v d g V2,pts o (.cells (z1j v (ii:Int) n1 (V.n.m.inodeL ii)) false)]):=by
  have big:∀j x,x<3840→¬(0<size%64∧(size:Int)<(z14 V.n.m.ino ii).at 1)→fb g V1 T1 j x=if j=ii∧size≤x then 0 else fb g V T j x:=fun j x hx hno=>by
   rw[ztd S1 j hx];by_cases e:j=ii
   ·subst e;by_cases h2:size≤x
    ·rw[if_pos (show _∧_ from⟨rfl,h2⟩)];split
     ·rfl
     ·rename_i hn;refine Z j x ?_ hx;unfold z2g;have:¬(size+63) / 64≤x / 64:=fun y=>hn ⟨rfl,y⟩
      omega
    ·rw[if_neg fun y=>h2 (by have:=y.2;omega),if_neg fun y=>h2 y.2]
   ·rw[if_neg fun y=>e y.1,if_neg fun y=>e y.1]
  by_cases hc:0<size%64∧(size:Int)<(z14 V.n.m.ino ii).at 1
  case neg=>
   rw[decide_eq_false hc]at h11;subst h11;exact z05 (by simp) (z03 [0,0] fun q hq=>⟨V1,⟨rfl,S1.fs,fun j x hx=>big j x hx hc,rfl,z5p _,XtT.rfl'⟩,hq⟩)
  rw[decide_eq_true hc]at h11;subst h11;have hk:size / 64<60:=by omega
  have hf1:(size+63) / 64=size / 64+1:=by omega
  refine z07 rfl ?_;refine z02 [0,0] (zim hg hk (r1 _ hk) (zo9 hg S1.fs hk) hN) fun r12=>z04 fun h12=>z01 ?_;subst h12;dsimp only[sel,rem,nth,del,cat,upd];refine z05 (by simp) ?_;by_cases hz:T1 ii (lf (size / 64))=0
  ·refine z02 [0,0] (Q:=fun j=>pu (j=.inl ()) (z00 [z0l v d g V1,pts o (.cells (z1j v (ii:Int) n1 (V.n.m.inodeL ii)) false)])) (z05 (by simp[hz]) (z03 [0,0] fun q hq=>⟨rfl,hq⟩)) fun j=>z04 fun hj=>z01 ?_;subst hj;dsimp only[sel,rem,nth,del,cat,upd];refine z03 [0,0] fun q hq=>⟨V1,⟨rfl,S1.fs,fun j x hx=>?_,rfl,z5p _,XtT.rfl'⟩,hq⟩;have h2:=ztd S1 j hx;by_cases e:j=ii∧size≤x
   ·obtain⟨rfl,e⟩:=e;rw[if_pos ⟨rfl,e⟩];by_cases e2:x / 64=size / 64
    ·exact zbj (by rw[e2];exact hz)
    ·rw[h2,if_pos ⟨rfl,by omega⟩]
   ·rw[if_neg e,h2,if_neg fun y=>e ⟨y.1,by have:=y.2;omega⟩]
  ·have hle:=S1.fs.le ii (lf (size / 64));have hnum:=S1.fs.num hg ii (lf (size / 64));have hl64:=zhy S1.fs ii (lf (size / 64));have ebk:bk g V1 (T1 ii (lf (size / 64)))=V1.readB g ((T1 ii (lf (size / 64)) - 1:Nat):Int):=by unfold bk;rw[if_neg hz]
   have hX:(z8o (bk g V1 (T1 ii (lf (size / 64)))) (size%64) (List.replicate (64 - size%64) 0)).length=64:=by rw[zhx (by simp;omega)];exact hl64
   refine z02 [0,0] (Q:=fun j=>pu (j=.inl ()) (z00 [z0l v d g (V1.write g (T1 ii (lf (size / 64)) - 1) (z8o (bk g V1 (T1 ii (lf (size / 64)))) (size%64) (List.replicate (64 - size%64) 0))),pts o (.cells (z1j v (ii:Int) n1 (V.n.m.inodeL ii)) false)])) ?_ fun j=>z04 fun hj=>z01 ?_
   ·refine z07 (by simp;omega) ?_;have ep:wr .i64 ((T1 ii (lf (size / 64)):Int) - 1)=((T1 ii (lf (size / 64)) - 1:Nat):Int):=by
     rw[z0d (by omega) (by omega)];omega
    rw[ep];have hre:=S1.fs.ok.re (T1 ii (lf (size / 64)) - 1) (by omega);refine z02 [0] (zd5 hg _) fun r9=>z04 fun h9=>z01 ?_;rw[hre]at h9;rw[if_pos hre,←ebk];dsimp only[sel,rem,nth,del,cat,upd];refine z05 (by simp[h9]) ?_;obtain⟨s9,e9⟩:=r9;dsimp only[sel,rem,nth,del,cat,upd];refine za2 1 rfl (fun _ h0=>?_) fun b9 ln9 h0 hl9=>?_
    ·have:=congrArg List.length h0
     rw[z0c,hl64]at this;simp at this
    subst h0;rw[z0c,hl64]at hl9;obtain rfl:ln9=64:=by omega
    refine z3q (by omega) (by simp;omega) (by simp) ?_;rw[Int.toNat_natCast,Int.toNat_natCast];have es:z2t 1 (⟨some ⟨b9,0⟩,64⟩:Sl) (size%64) 64=⟨some ⟨b9,size%64⟩,64 - size%64⟩:=by
     unfold z2t;simp[MA.add]
    rw[es];unfold slClr;rw[if_neg (by simp;omega)];dsimp only[sel,rem,nth,del,cat,upd];rw[ziq];refine z5u 1 rfl (by rw[z0c];simp) (by rw[z0c,z0c,hl64];simp;omega) (z3a _) ?_;rw[zk2];have hw:V1.writeE g ((T1 ii (lf (size / 64)) - 1:Nat):Int) (z8o (bk g V1 (T1 ii (lf (size / 64)))) (size%64) (List.replicate (64 - size%64) 0))=0:=by
     unfold VolS.writeE MetaS.usedE;rw[if_pos hX,if_pos (by omega),Int.toNat_natCast,if_pos (S1.fs.used ii _ hz)]
    refine z02 [0,0] (zc1 hg S1.fs.ok.inv.ok _ (s:=⟨some ⟨b9,0⟩,64⟩) (rd_pts0 (by rw[z0c,hX])) (by omega)) fun r12=>z04 fun h12=>z01 ?_;rw[hw]at h12;rw[if_pos hw,Int.toNat_natCast];dsimp only[sel,rem,nth,del,cat,upd];exact z05 (by simp[h12]) (z03 [0,1] fun q hq=>⟨rfl,hq⟩)
   ·subst hj;dsimp only[sel,rem,nth,del,cat,upd];refine z03 [0,0] fun q hq=>⟨_,⟨rfl,S1.fs.leaf (zje _) hz hX,fun j x hx=>?_,rfl,zbx _ _ _,zp3 hz _⟩,hq⟩;rw[zsc S1.fs hz,zp5 (by simp;omega)];have h2:=ztd S1 j hx;by_cases e:j=ii∧x / 64=size / 64
    ·obtain⟨rfl,e⟩:=e;rw[if_pos ⟨rfl,e⟩];by_cases e2:size≤x
     ·rw[if_pos ⟨by omega,by simp;omega⟩,if_pos ⟨rfl,e2⟩,List.getElem?_replicate];split<;>rfl
     ·rw[if_neg (by omega),if_neg fun y=>e2 y.2];have e3:(bk g V1 (T1 j (lf (size / 64))))[x%64]?.getD 0=fb g V1 T1 j x:=by unfold fb;rw[e]
      rw[e3,h2,if_neg fun y=>by have:=y.2;omega]
    ·rw[if_neg e,h2];by_cases e2:j=ii∧size≤x
     ·rw[if_pos e2,if_pos ⟨e2.1,by have:=e2.2;have:¬x / 64=size / 64:=fun y=>e ⟨e2.1,y⟩;omega⟩]
     ·rw[if_neg e2,if_neg fun y=>e2 ⟨y.1,by have:=y.2;omega⟩]
 refine z02 [0,0] key fun j19=>z10 fun V2=>z04 fun hj=>z01 ?_;obtain⟨hj,fs2,hfb,em2,kp2,xt2⟩:=hj;subst hj;dsimp only[sel,rem,nth,del,cat,upd];refine z0u (z0b (z0b (tri_stc 1 rfl (by rw[z7e];omega) rfl ?_)));rw[show 0+2+3=4+1 from rfl,za7 v _ n1 _ (by omega)];have eino:V2.n.m.ino=V.n.m.ino:=by rw[em2];exact S1.lab.1
 have hE2:V2.n.m.hasE (ii:Int)=0:=by
  unfold MetaS.hasE;rw[eino];exact hE
 obtain⟨hset,fv⟩:=zta (V:=V2) (n2:=n1) (T0:=T1) hg fs2 (n1:=n1) (sz:=(size:Int)) (fun j hj=>by
  rw[eino];intro k hk;rw[S1.same j _ fun y=>hj y.1];exact F.roots j k hk) r1 hE2 (by rw[eino];exact w1) (by rw[eino];exact w2) (by rw[eino];exact w3) (by omega) (by omega)
 refine z02 [0,0] (zpl hg fs2.ok.inv.ok hN) fun r24=>z04 fun h24=>z01 ?_;rw[hset]at h24;rw[if_pos hset,Int.toNat_natCast];dsimp only[sel,rem,nth,del,cat,upd];refine z03 [0] fun q hq=>⟨(V2.wM (V2.n.m.set ii (n1.put 1 (size:Int))),T1),⟨h24,fv,fun j s hj=>S1.same j s fun y=>hj y.1,S1.leaf,S1.some,S1.none,hfb,⟨n1.put 1 (size:Int),?_,w1,w2,?_,?_⟩,fun r hr=>?_,(S1.kp.trans kp2).trans (zko _ _),(have e:=S1.xt.trans xt2 S1.nz;⟨e.full,e.dk,e.own⟩)⟩,hq⟩
 ·show V2.n.m.ino.set ii _=_;rw[eino]
 ·rw[Ino.put_at _ (by omega),if_neg (by omega)];exact w3
 ·rw[Ino.put_at _ (by omega),if_pos rfl]
 ·show(z1c V2.n.m.rows r).1=_;rw[em2];exact S1.lab.2 r hr
end
end Go.Moat

/- Layer 16: Blocks. -/
namespace Go.Moat
open Go.Mini
def z1y(p:Nat→Nat):Nat→Nat→List Nat
 | 0,c=>if p c=0 then[]else[p c - 1]
 | D+1,c=>if p c=0 then[]else(p c - 1)::(List.range 32).flatMap fun j=>z1y p D (kid c j)
def z4w(p:Nat→Nat):List Nat:=((List.range 8).flatMap fun k=>z1y p 0 k)++z1y p 1 8++z1y p 2 41
theorem zgy{p:Nat→Nat}{c:Nat}(h:p c=0)(D:Nat):z1y p D c=[]:=by
 cases D<;>(unfold z1y;rw[if_pos h])
theorem zfl{f:Nat→List Nat}{b:Nat}(h:∀j,(f j).length≤b):∀n,((List.range n).flatMap f).length≤n * b
 | 0=>by simp
 | n+1=>by
  rw[List.range_succ,List.flatMap_append,List.length_append,Nat.add_mul,show[n].flatMap f=f n by simp];have:=zfl h n
  have h2:=h n;omega
theorem ze1(p:Nat→Nat):∀(D c:Nat),(z1y p D c).length≤40^D
 | 0,c=>by unfold z1y;split<;>simp
 | D+1,c=>by
  unfold z1y;split
  ·simp
  ·have h1:=zfl (fun j=>ze1 p D (kid c j)) 32;have h2:0<40^D:=Nat.pos_of_ne_zero (by simp);rw[List.length_cons,Nat.pow_succ];omega
theorem zgz{p q:Nat→Nat}(h:∀s,p s≠0↔q s≠0):∀(D c:Nat),(z1y p D c).length=(z1y q D c).length:=by
 have hz:∀s,p s=0↔q s=0:=fun s=>by
  have:=h s
  omega
 have fl:∀{f f':Nat→List Nat}(e:∀j,(f j).length=(f' j).length)(n:Nat),((List.range n).flatMap f).length=((List.range n).flatMap f').length:=fun e n=>by
  induction n with
  | zero=>rfl
  | succ n ih=>rw[List.range_succ,List.flatMap_append,List.flatMap_append,List.length_append,List.length_append,ih];simp[e]
 intro D;induction D with
 | zero=>
  intro c;unfold z1y;by_cases e:p c=0
  ·rw[if_pos e,if_pos ((hz c).1 e)]
  ·rw[if_neg e,if_neg fun x=>e ((hz c).2 x)];rfl
 | succ D ih=>
  intro c;unfold z1y;by_cases e:p c=0
  ·rw[if_pos e,if_pos ((hz c).1 e)]
  ·rw[if_neg e,if_neg fun x=>e ((hz c).2 x),List.length_cons,List.length_cons,fl (fun j=>ih (kid c j))]
theorem zte{p q:Nat→Nat}(h:∀s,p s≠0↔q s≠0):(z4w p).length=(z4w q).length:=by
 have fl:∀n:Nat,((List.range n).flatMap fun k=>z1y p 0 k).length=((List.range n).flatMap fun k=>z1y q 0 k).length:=fun n=>by
  induction n with
  | zero=>rfl
  | succ n ih=>rw[List.range_succ,List.flatMap_append,List.flatMap_append,List.length_append,List.length_append,ih];simp[zgz h]
 unfold z4w;rw[List.length_append,List.length_append,List.length_append,List.length_append,fl,zgz h,zgz h]
def ztf(b:Nat)(xs:List Nat):HA:=exA fun s:Sl=>z00 [pts b (.cells [.sl s.p s.len 1] false),z06 s 1 (z18 xs)]
section
variable{N:Nat}{β:Type}{l:List HA}{S:β→HA}{v d o c4 co cw:Nat}{g:Geo}{V V1 V2:VolS}{T T1 T2 P P2:z0q}{ii c a:Nat}{n n1:Ino}{s t:Sl}{i:Int}{m:M β}
theorem zoa(k:Nat){b:Nat}{xs:List Nat}(hl:l[k]? = some (ztf b xs))(kk:∀s:Sl,Tri (z00 (pts b (.cells [.sl s.p s.len 1] false)::z06 s 1 (z18 xs)::del l k)) m S):Tri (z00 l) m S:=
 zgh k hl (φ:=fun _:Sl=>True) (L:=fun s=>[pts b (.cells [.sl s.p s.len 1] false),z06 s 1 (z18 xs)]) (fun _ ⟨s,h⟩=>⟨s,trivial,h⟩) fun s _=>kk s
theorem zl6{b:Nat}{s:Sl}{xs:List Nat}{q:PH}(h:z00 (pts b (.cells [.sl s.p s.len 1] false)::z06 s 1 (z18 xs)::l) q):z00 (ztf b xs::l) q:=
 zgg [pts b (.cells [.sl s.p s.len 1] false),z06 s 1 (z18 xs)] (A:=ztf b xs) (fun q hq=>⟨s,hq⟩) h
abbrev zei(N:Nat):=fun(self:(Int×Int×Option MA×Option MA×Option MA)→M Int)(v:Int×Int×Option MA×Option MA×Option MA)=>F_0z N self v.1 v.2.1 v.2.2.1 v.2.2.2.1 v.2.2.2.2
abbrev z9c(v d o c4 co cw:Nat)(g:Geo)(V:VolS)(i:Int)(n:Ino)(a:Nat)(xs:List Nat):List HA:=[ztf co xs,z0l v d g V,pts o (.cells (z1j v i n a) false),pts c4 (.cells [.ptr (some ⟨o,0⟩)] false),pts cw (.cells [.fn 41 [.ptr (some ⟨co,0⟩),.ptr (some ⟨c4,0⟩),.ptr (some ⟨cw,0⟩)]] false)]
theorem zn9(K:Nat)(x:Int)(p q r:Option MA):z0e (K+1) (zei N) (0,x,p,q,r)=ret 0:=by
 rw[z12];unfold zei F_0z;rw[if_pos (by simp)]
theorem z11k(hN:5000<N)(fs:FS g V T T){c D:Nat}(hd:dep c=D+1){self:(Int×Int×Option MA×Option MA×Option MA)→M Int}{r:Sl×Int}{xs:List Nat}(hxs:xs.length+32 * 40^D≤1000000)
  (h0:∀x p q r,self (0,x,p,q,r)=ret 0)
  (hs:∀(c':Nat)(xs:List Nat),dep c'=D→T ii c'≠0→xs.length+40^D≤1000000→Tri (z00 (z9c v d o c4 co cw g V i n a xs)) (self ((T ii c':Int),(D:Int),some ⟨co,0⟩,some ⟨c4,0⟩,some ⟨cw,0⟩)) fun r=>pu (r=0) (z00 (z9c v d o c4 co cw g V i n a (xs++z1y (T ii) D c')))) :
  ∀(K k:Nat),32 - k<K→k≤32 →
  Tri (z00 (z06 r.1 1 (z18 (kids (T ii) c))::z9c v d o c4 co cw g V i n a (xs++(List.range k).flatMap fun j=>z1y (T ii) D (kid c j)))) (z0e K (F_3h N ((D+1:Nat):Int) (some ⟨cw,0⟩) self r) ((0:Int),(k:Int))) fun r'=>pu (r'=0) (z00 (z9c v d o c4 co cw g V i n a (xs++(List.range 32).flatMap fun j=>z1y (T ii) D (kid c j)))):=by
 intro K;induction K with
 | zero=>intro k h;omega
 | succ K ih=>
  intro k h hk;rw[z12];generalize z0e K (F_3h N ((D+1:Nat):Int) (some ⟨cw,0⟩) self r)=go at ih ⊢;unfold F_3h;refine z0a 0 rfl fun lr=>?_;have lr':=lr;rw[z1k,z3i]at lr';by_cases hkl:k<32
  case neg=>
   obtain rfl:k=32:=by omega
   exact z05 (by simp;omega) (z03 [1,1,1,1,1] fun q hq=>⟨rfl,hq⟩)
  refine z07 (by simp;omega) ?_;have hgt:(z18 (kids (T ii) c))[k]? = some (.int .i64 (T ii (kid c k):Nat)):=by
   have:=z4v (T ii) c hkl
   simp only[z1w,List.getElem?_map,this];rfl
  refine tri_rI 0 rfl (z0j lr) (i:=k) (k :=.i64) hgt ?_;have hlen:((List.range k).flatMap fun j=>z1y (T ii) D (kid c j)).length≤k * 40^D:=zfl (fun j=>ze1 (T ii) D (kid c j)) k;have hmul:(k+1) * 40^D≤32 * 40^D:=Nat.mul_le_mul_right _ (by omega);rw[Nat.add_mul,Nat.one_mul]at hmul;have ext:(List.range (k+1)).flatMap (fun j=>z1y (T ii) D (kid c j))=((List.range k).flatMap fun j=>z1y (T ii) D (kid c j))++z1y (T ii) D (kid c k):=by
   rw[List.range_succ,List.flatMap_append];simp
  have hD:D≤1:=by
   have:dep c≠0:=by omega
   rcases z2c this with rfl | rfl | rfl<;>simp[dep]at hd<;>omega
  have a1:wr .i64 (((D+1:Nat):Int) - 1)=((D:Nat):Int):=by rw[z0d (by omega) (by omega)];omega
  refine z02 [1,1,1,1,1] (Q:=fun j=>pu (j=0) (z00 (z9c v d o c4 co cw g V i n a (xs++(List.range (k+1)).flatMap fun j=>z1y (T ii) D (kid c j))))) ?_ fun j17=>z04 fun hj=>z01 ?_
  ·refine z07 (by simp) ?_;refine zde 4 rfl rfl rfl ?_;dsimp only;rw[a1];by_cases hz:T ii (kid c k)=0
   ·have e0:((0:Nat):Int)=0:=rfl;rw[hz,e0,h0];refine z0s (z03 [0,0,0,0,0] fun q hq=>⟨rfl,?_⟩);rw[ext,zgy hz,List.append_nil];exact hq
   ·have h75:=fs.pos hz;have ed:=zj9 (by omega) hkl h75;refine z02 [0,0,0,0,0] (hs (kid c k) _ (by omega) hz (by rw[List.length_append];omega)) fun r16=>z04 fun h16=>z01 ?_;subst h16;dsimp only[sel,rem,nth,del,cat,upd];refine z03 [0,0,0,0,0] fun q hq=>⟨rfl,?_⟩;rw[ext,←List.append_assoc];exact hq
  subst hj;dsimp only[sel,rem,nth,del,cat,upd];rw[z0d (n:=(k:Int)+1) (by omega) (by omega)];exact z1n [5,0,0,0,0,0] (ih (k+1) (by omega) (by omega))
theorem z14k(hg:g.ok)(hN:5000<N)(fs:FS g V T T):∀(D K c:Nat)(xs:List Nat),dep c=D→D<K→T ii c≠0→xs.length+40^D≤1000000 →
  Tri (z00 (z9c v d o c4 co cw g V i n a xs)) (z0e K (zei N) ((T ii c:Int),(D:Int),some ⟨co,0⟩,some ⟨c4,0⟩,some ⟨cw,0⟩)) fun r=>pu (r=0) (z00 (z9c v d o c4 co cw g V i n a (xs++z1y (T ii) D c))):=by
 have hmost:most=70368744177664:=rfl;intro D;induction D with
 | zero=>
  intro K c xs hd hK hz hxs;obtain⟨K,rfl⟩:∃k,K=k+1:=⟨K - 1,by omega⟩;have hnum:=fs.num hg ii c;rw[z12];generalize z0e K (zei N)=self;unfold zei F_0z;dsimp only;refine z05 (by simp;omega) ?_;refine zoa 0 rfl fun s=>?_;refine z0a 1 rfl fun ls=>?_;rw[z1k]at ls;refine z75 0 rfl rfl ?_;have e1:wr .i64 ((T ii c:Int) - 1)=((T ii c - 1:Nat):Int):=by
   rw[z0d (by omega) (by omega)];omega
  rw[e1];refine z0t fun b=>?_;refine z02 [2,0] (z3b (s:=s) (by':=8) (T:=pts b (.cells [.int .i64 ((T ii c - 1:Nat):Int)] false)) (rd_pts0 (by simp)) (by omega) rfl (by dsimp only;omega)) fun o2=>z01 ?_;dsimp only[sel,rem,nth,del,cat,upd];refine tri_stc 2 rfl (by simp) rfl ?_;refine z07 (by simp) (z03 [2,0,1,1,1,1] fun q hq=>⟨rfl,?_⟩);have e2:z18 xs++[.int .i64 ((T ii c - 1:Nat):Int)]=z18 (xs++z1y (T ii) 0 c):=by
   unfold z1y;rw[if_neg hz,zkp];rfl
  rw[e2]at hq;exact zl6 hq
 | succ D ih=>
  intro K c xs hd hK hz hxs;obtain⟨K,rfl⟩:∃k,K=k+1+1:=⟨K - 2,by omega⟩;have hnum:=fs.num hg ii c;have hd0:dep c≠0:=by omega
  have IH:=fun(c':Nat)(xs:List Nat) h1 h2 h3=>ih (K+1) c' xs h1 (by omega) h2 h3;have h0:=zn9 (N:=N) K;rw[z12];generalize z0e (K+1) (zei N)=self at IH h0 ⊢;unfold zei F_0z;dsimp only;refine z05 (by simp;omega) ?_;refine zoa 0 rfl fun s=>?_;refine z0a 1 rfl fun ls=>?_;rw[z1k]at ls;have hpos:0<40^D:=Nat.pos_of_ne_zero (by simp);rw[Nat.pow_succ]at hxs;refine z75 0 rfl rfl ?_;have e1:wr .i64 ((T ii c:Int) - 1)=((T ii c - 1:Nat):Int):=by
   rw[z0d (by omega) (by omega)];omega
  rw[e1];refine z0t fun b=>?_;refine z02 [2,0] (z3b (s:=s) (by':=8) (T:=pts b (.cells [.int .i64 ((T ii c - 1:Nat):Int)] false)) (rd_pts0 (by simp)) (by omega) rfl (by dsimp only;omega)) fun o2=>z01 ?_;dsimp only[sel,rem,nth,del,cat,upd];refine tri_stc 2 rfl (by simp) rfl ?_;refine z05 (by simp;omega) ?_;refine z3o 5 rfl rfl ?_;refine z02 [3,3] (z9b hg hnum (fs.tab ii c hd0) hN) fun r10=>z04 fun h10=>z01 ?_;rw[h10];dsimp only[sel,rem,nth,del,cat,upd];have e2:z18 xs++[.int .i64 ((T ii c - 1:Nat):Int)]=z18 (xs++[T ii c - 1]):=by
   rw[zkp];rfl
  rw[e2];refine z02 [5,3,0,0,0,1,1] (Tri.pre (z11k hN fs hd (xs:=xs++[T ii c - 1]) (by rw[List.length_append];simp;omega) h0 IH N 0 (by omega) (by omega)) fun q hq=>?_) fun j18=>z04 fun hj=>z01 ?_
  ·have hq2:=zl6 hq;have hq3:z00 (sel [1,0,0,0,0,0] (ztf co (xs++[T ii c - 1])::z06 r10.1 1 (z18 (kids (T ii) c))::[z0l v d g V,pts o (.cells (z1j v i n a) false),pts c4 (.cells [.ptr (some ⟨o,0⟩)] false),pts cw (.cells [.fn 41 [.ptr (some ⟨co,0⟩),.ptr (some ⟨c4,0⟩),.ptr (some ⟨cw,0⟩)]] false)])) q:=zo0 [1,0,0,0,0,0] hq2;rw[show(List.range 0).flatMap (fun j=>z1y (T ii) D (kid c j))=[]from rfl,List.append_nil];exact hq3
  subst hj;dsimp only[sel,rem,nth,del,cat,upd];refine z03 [0,0,0,0,0] fun q hq=>⟨rfl,?_⟩;have e3:xs++z1y (T ii) (D+1) c=(xs++[T ii c - 1])++(List.range 32).flatMap fun j=>z1y (T ii) D (kid c j):=by
   conv=>lhs;unfold z1y
   rw[if_neg hz,List.append_assoc];rfl
  rw[e3];exact hq
theorem zir(hg:g.ok)(hN:5000<N)(fs:FS g V T T){c:Nat}{xs:List Nat}{dd:Int}(h1:dd=(dep c:Nat))(hxs:xs.length≤100000) :
  Tri (z00 (z9c v d o c4 co cw g V i n a xs)) (F_22 N (T ii c:Int) dd (some ⟨co,0⟩) (some ⟨c4,0⟩) (some ⟨cw,0⟩)) fun r=>pu (r=0) (z00 (z9c v d o c4 co cw g V i n a (xs++z1y (T ii) (dep c) c))):=by
 subst h1;unfold F_22;have hd:dep c≤2:=by unfold dep;(repeat' split)<;>omega
 by_cases hz:T ii c=0
 ·obtain⟨K,rfl⟩:∃k,N=k+1:=⟨N - 1,by omega⟩;have e0:((0:Nat):Int)=0:=rfl;have:=zn9 (N:=K+1) K (dep c:Int) (some ⟨co,0⟩) (some ⟨c4,0⟩) (some ⟨cw,0⟩)
  unfold zei at this;rw[hz,e0,this,zgy hz,List.append_nil];exact z03 [0,0,0,0,0] fun q hq=>⟨rfl,hq⟩
 ·have h40:40^dep c≤40^2:=Nat.pow_le_pow_right (by omega) hd;exact z14k hg hN fs (dep c) N c xs rfl (by omega) hz (by omega)
theorem zy0(v:Nat)(i:Int)(n:Ino)(a:Nat){k:Nat}(hk:k<8):(((z1j v i n a).drop 6).take 8)[k]? = some (.int .i64 (n.at (2+k))):=by
 rw[List.getElem?_take,if_pos hk,List.getElem?_drop,show 6+k=4+(2+k) by omega];exact z7b (by omega)
theorem zuo(hg:g.ok)(hN:5000<N)(fs:FS g V T T)(hr:z4l n (T ii)):∀(K k:Nat),8 - k<K→k≤8 →
  Tri (z00 (z9c v d o c4 co cw g V i n a ((List.range k).flatMap fun k=>z1y (T ii) 0 k))) (z0e K (F_3i N (some ⟨cw,0⟩) (((z1j v i n a).drop 6).take 8)) (k:Int)) fun _=>z00 (z9c v d o c4 co cw g V i n a ((List.range 8).flatMap fun k=>z1y (T ii) 0 k)):=by
 intro K;induction K with
 | zero=>intro k h;omega
 | succ K ih=>
  intro k h hk;rw[z12];generalize z0e K (F_3i N (some ⟨cw,0⟩) (((z1j v i n a).drop 6).take 8))=go at ih ⊢;unfold F_3i;by_cases hk8:k<8
  case neg=>
   obtain rfl:k=8:=by omega
   exact z05 (by simp) (z03 [0,0,0,0,0] fun q hq=>hq)
  refine z07 (by simp;omega) ?_;unfold idxV;rw[if_pos (by omega),Int.toNat_natCast,zy0 v i n a hk8];refine z4h (z79 ?_);have er:n.at (2+k)=(T ii k:Nat):=by
   have:=hr k (by omega)
   rw[ze0 hk8]at this;have hw:z3d k - 4=2+k:=by unfold z3d;rw[if_pos hk8];omega
   rwa [hw]at this
  rw[er];refine zde 4 rfl rfl rfl ?_;dsimp only;have hl:((List.range k).flatMap fun k=>z1y (T ii) 0 k).length≤k * 1:=zfl (fun j=>ze1 (T ii) 0 j) k;have hd0:dep k=0:=by unfold dep;rw[if_neg (by omega),if_neg (by omega)]
  refine z02 [0,0,0,0,0] (zir hg hN fs (c:=k) (by rw[hd0];rfl) (by omega)) fun r17=>z04 fun h17=>z01 ?_;dsimp only[sel,rem,nth,del,cat,upd];rw[z0d (by omega) (by omega)];refine z1n [0,0,0,0,0] (Tri.pre (ih (k+1) (by omega) (by omega)) fun q hq=>?_);rw[List.range_succ,List.flatMap_append];rw[hd0]at hq;rw[show[k].flatMap (fun k=>z1y (T ii) 0 k)=z1y (T ii) 0 k by simp];exact hq
theorem zkc(hg:g.ok)(hN:5000<N)(F:FV g V T)(i:Int) :
  Tri (z00 [z0l v d g V]) (F_1u N (some ⟨v,0⟩) i) fun r=>pu (r.2=V.n.m.hasE i) (z00 [z06 r.1 1 (z18 (if V.n.m.hasE i=0 then z4w (T i.toNat)else[])),z0l v d g V]):=by
 unfold F_1u;refine z02 [0] (z8u hg F.fs.ok.inv.ok i) fun r3=>z10 fun o=>z04 fun h3=>z01 ?_;refine z0t fun c4=>?_;refine tri_stc 0 rfl (by simp) rfl ?_;by_cases hE:V.n.m.hasE i=0
 case neg=>
  rw[if_neg hE]at h3;subst h3;simp only[if_neg hE];exact z07 (by simpa using hE) (z03 [1] fun q hq=>⟨rfl,z2i (fun q h =>.nil 1 h) hq⟩)
 rw[if_pos hE]at h3;simp only[if_pos hE];subst h3;obtain⟨ii,hii,rfl,_⟩:=zcl hE;rw[zcm hE,Int.toNat_natCast];have hr:=F.roots ii;generalize z14 V.n.m.ino ii=n at hr ⊢;generalize V.n.m.inodeL (ii:Int)=a;dsimp only[sel,rem,nth,del,cat,upd];refine z05 (by simp) ?_;refine z0t fun co=>?_;refine z0t fun cw=>?_;refine tri_stc 0 rfl (by simp) rfl ?_;refine z3o 2 rfl rfl ?_;refine z0u (z0b (z0b ?_));refine z6f 4 rfl (by rw[z7e];omega) ?_;refine z02 [1,2,2,1,0] (Tri.pre (zuo (v:=v) (d:=d) (o:=o) (c4:=c4) (co:=co) (cw:=cw) (i:=(ii:Int)) (a:=a) hg hN F.fs hr N 0 (by omega) (by omega)) fun q hq=>?_) fun j18=>z01 ?_
 ·refine zl6 (s:=⟨none,0⟩) (xs:=[]) ?_;exact z1f (fun q hq=>z2i (fun q h =>.nil 1 h) hq) hq
 dsimp only[sel,rem,nth,del,cat,upd];refine zde 4 rfl rfl rfl ?_;refine z3o 3 rfl rfl ?_;refine z0u (z0b (z0b ?_));refine tri_ldI 2 rfl (z7b (n:=n) (j:=10) (by omega)) ?_;have e10:n.at 10=(T ii 8:Nat):=hr 8 (by omega);have e11:n.at 11=(T ii 41:Nat):=hr 40 (by omega);rw[e10];have hl0:((List.range 8).flatMap fun k=>z1y (T ii) 0 k).length≤8 * 1:=zfl (fun j=>ze1 (T ii) 0 j) 8;have hl1:=ze1 (T ii) 1 8;refine z02 [0,0,0,0,0] (zir hg hN F.fs (c:=8) rfl (by omega)) fun r25=>z04 fun h25=>z01 ?_;subst h25;dsimp only[sel,rem,nth,del,cat,upd];refine z02 [0,0,0,0,0] (Q:=fun j=>pu (j=0) (z00 (z9c v d o c4 co cw g V (ii:Int) n a (((List.range 8).flatMap fun k=>z1y (T ii) 0 k)++z1y (T ii) 1 8++z1y (T ii) 2 41)))) ?_ fun j33=>z04 fun hj=>z01 ?_
 ·refine z07 (by simp) ?_;refine zde 4 rfl rfl rfl ?_;refine z3o 3 rfl rfl ?_;refine z0u (z0b (z0b ?_));refine tri_ldI 2 rfl (z7b (n:=n) (j:=11) (by omega)) ?_;rw[e11];refine z02 [0,0,0,0,0] (zir hg hN F.fs (c:=41) rfl (by rw[List.length_append];have:dep 8=1:=rfl;rw[this];omega)) fun r32=>z04 fun h32=>z01 ?_;subst h32;dsimp only[sel,rem,nth,del,cat,upd];exact z03 [0,0,0,0,0] fun q hq=>⟨rfl,hq⟩
 subst hj;dsimp only[sel,rem,nth,del,cat,upd];refine z05 (by simp) ?_;refine zoa 0 rfl fun s=>?_;refine z75 0 rfl rfl ?_;exact z03 [1,1] fun q hq=>⟨hE.symm,hq⟩
end
end Go.Moat
