/- Layer 16: trim, shrink. -/
import Derived.Test.YtfieiaijdalkbaaGreatP16za
namespace Go.Moat
open Go.Mini
section
variable{N:Nat}{β:Type}{l:List HA}{S:β→HA}{v d o:Nat}{g:Geo}{V V1 V2:VolS}{T T1 T2 P P2:z0q}{ii c a from':Nat}{n n1:Ino}{s t:Sl}{i:Int}{A B:HA}{xs ys:List Nat}
theorem z16m(fs:FS g V T P)(hd:dep c≠0)(hP:∀s,z1s c s→P ii s=T ii s):z2s (P ii) c=zee T T ii c 0:=by
 apply List.ext_getElem?;intro j;by_cases hj:j<32
 ·rw[z4z _ _ hj,zhc _ _ _ _ _ hj,if_neg (by omega)];by_cases h75:kid c j<75
  ·rw[hP _ (.inr (z4b hd hj h75))]
  ·have e:kid c j=75:=by have:=z82 c hj;omega
   rw[e,fs.pout,fs.out _ _ (by omega)]
 ·rw[List.getElem?_eq_none (by rw[z3k];omega),List.getElem?_eq_none (by rw[z7z];omega)]
theorem z151(hg:g.ok)(hN:5000<N):∀(D K c:Nat)(V:VolS)(T P:z0q),dep c≤D→D<K→FS g V T P→(∀s,z1s c s→P ii s=T ii s)→T ii c≠0 →
  Tri (z00 [z0l v d g V,pts o (.cells (z1k v i n a) false)]) (z0e K (zew N) (some ⟨o,0⟩,(T ii c:Int),(dep c:Int),(fst' c:Int),(from':Int))) fun r=>exA fun x:VolS×z0q×z0q=>pu (r=(((x.2.1 ii c:Nat):Int),(0:Int))∧Trim g V T P ii c from' x.1 x.2.1 x.2.2) (z00 [z0l v d g x.1,pts o (.cells (z1k v i n a) false)]):=by
 intro D;induction D with
 | zero=>
  intro K c V T P hD hK fs hP hz;obtain⟨K,rfl⟩:∃k,K=k+1:=⟨K - 1,by omega⟩;have hd:dep c=0:=by omega
  have hle:=fs.le ii c;have hnum:=fs.num hg ii c;rw[z13];generalize z0e K (zew N)=self;unfold zew F_10;dsimp only;refine z05 (by simp;omega) (z07 (by simp[hd]) ?_);by_cases hf:fst' c<from'
  ·exact z07 (by simpa using hf) (z03 [0,0] fun q hq=>⟨(V,T,P),⟨rfl,z12u fs hP hd hf⟩,hq⟩)
  ·refine z05 (by simpa using hf) ?_;refine z0r (z0b (z3r 1 rfl rfl ?_));have e1:wr .i64 ((T ii c:Int) - 1)=((T ii c - 1:Nat):Int):=by
    rw[z09 (by omega) (by omega)];omega
   rw[e1];have hu:V.n.m.usedE g ((T ii c - 1:Nat):Int)=0:=by
    unfold MetaS.usedE;rw[if_pos (by omega),Int.toNat_natCast,if_pos (fs.used ii c hz)]
   refine z02 [0] (znj hg fs.ok.inv.ok fs.ok.inv.rf (fs.ok.inv.gr hg) _ hN) fun r9=>z04 fun h9=>z01 ?_;rw[hu]at h9;rw[if_pos hu,Int.toNat_natCast];subst h9;dsimp only[sel,rem,nth,del,cat,upd];refine z03 [0,0] fun q hq=>⟨(V.free g (T ii c - 1),put T ii c 0,P),⟨?_,z12t hg fs hd hz (by omega)⟩,hq⟩;show _=(((put T ii c 0 ii c:Nat):Int),(0:Int));unfold put;rw[if_pos ⟨rfl,rfl⟩];rfl
 | succ D ih=>
  intro K c V T P hD hK fs hP hz;by_cases hd:dep c=0
  ·exact ih K c V T P (by omega) (by omega) fs hP hz
  obtain⟨K,rfl⟩:∃k,K=k+1+1:=⟨K - 2,by omega⟩;have hle:=fs.le ii c;have hnum:=fs.num hg ii c;have h75:=fs.pos hz;have IH:=fun(c':Nat)(V:VolS)(T P:z0q)(h1:dep c'+1=dep c) fs hP hz=>ih (K+1) c' V T P (by omega) (by omega) fs hP hz;have h0:=znq (N:=N) K;rw[z13];generalize z0e (K+1) (zew N)=self at IH h0 ⊢;unfold zew F_10;dsimp only;refine z05 (by simp;omega) (z05 (by simp;omega) ?_);refine z02 [0,0] (z9n hg hnum (fs.tab ii c hd) hN) fun r10=>z04 fun h10=>z01 ?_;dsimp only[sel,rem,nth,del,cat,upd];refine z05 (by simp[h10]) ?_;have ej:(if decide ((1:Int)<(dep c:Int))=true then ret (32:Int)else ret (1:Int):M Int)=ret ((z5p c:Nat):Int):=by
   unfold z5p;by_cases h1:1<dep c
   ·rw[if_pos h1,if_pos (by simp;omega)];rfl
   ·rw[if_neg h1,if_neg (by simp;omega)];rfl
  rw[ej];refine z0j ?_;have hmost:most=70368744177664:=rfl;refine z0c 0 rfl fun l10=>?_;have l10':=l10;rw[z1n,z3k]at l10';refine z02 [0] (show Tri _ (z9j 1 8 _) _ from z8o (z0k l10) (by omega) (ziq _) (by omega)) fun r12=>z01 ?_;dsimp only[sel,rem,nth,del,cat,upd];rw[z16m fs hd hP];refine z02 [1,1,1,0] (z12v (i:=i) (n:=n) (a:=a) (o:=o) (v:=v) (d:=d) (Tw:=z06 r12 1 (z1c (zee T T ii c 0))) hg hN hd h75 fs hP h0 IH N 0 V T P (by omega) (by omega) (zvs fs)) fun j19=>z12 fun x=>z04 fun hj=>z01 ?_;obtain⟨V2,T2,P2⟩:=x;obtain⟨hj,L⟩:=hj;have L:TLoop g V T P ii c from' 32 V2 T2 P2:=L;subst hj;dsimp only[sel,rem,nth,del,cat,upd];have eself:=zjz L hd h75;refine z0c 0 rfl fun l10=>?_;refine z02 [0] (zr4 (z0k l10) (by rw[z3k];omega) (by omega)) fun r22=>z04 fun h22=>z01 ?_;dsimp only[sel,rem,nth,del,cat,upd];have gk:∀j,j<32→(z2s (T2 ii) c)[j]?.getD 0=T2 ii (kid c j):=fun j hj=>by rw[z4z _ _ hj];rfl
  have e1:wr .i64 ((T ii c:Int) - 1)=((T ii c - 1:Nat):Int):=by
   rw[z09 (by omega) (by omega)];omega
  have hz2:T2 ii c≠0:=by rw[eself];exact hz
  have hub:=L.fs.used ii c hz2;rw[eself]at hub;cases r22 with
  | false=>
   have hx:∀j,j<32→T2 ii (kid c j)=0:=fun j hj=>by
    rw[←gk j hj];exact h22.2 rfl j (by rw[z3k];exact hj)
   refine z07 rfl ?_;refine z0r (z0b (z3r 2 rfl rfl ?_));rw[e1];have hu:V2.n.m.usedE g ((T ii c - 1:Nat):Int)=0:=by
    unfold MetaS.usedE;rw[if_pos (by omega),Int.toNat_natCast,if_pos hub]
   refine z02 [1] (znj hg L.fs.ok.inv.ok L.fs.ok.inv.rf (L.fs.ok.inv.gr hg) _ hN) fun r9=>z04 fun h9=>z01 ?_;rw[hu]at h9;rw[if_pos hu,Int.toNat_natCast];subst h9;dsimp only[sel,rem,nth,del,cat,upd];refine z03 [0,1] fun q hq=>⟨(V2.free g (T ii c - 1),put T2 ii c 0,z3j P T2 ii c),⟨?_,z12s L hd h75 hg fs hz hx⟩,hq⟩;show _=(((put T2 ii c 0 ii c:Nat):Int),(0:Int));unfold put;rw[if_pos ⟨rfl,rfl⟩];rfl
  | true=>
   obtain⟨j0,hj0,hx0⟩:=h22.1 rfl;rw[z3k]at hj0;rw[gk j0 hj0]at hx0;have hx:∃j,j<32∧T2 ii (kid c j)≠0:=⟨j0,hj0,hx0⟩;refine z05 (by simp) ?_;refine z0c 3 rfl fun l12=>?_;refine z02 [0,2] (zzb (z0k l10) (z0k l12) (by rw[z3k,z7z]) (by rw[z3k];omega) (by omega)) fun r27=>z04 fun h27=>z01 ?_;dsimp only[sel,rem,nth,del,cat,upd];cases r27 with
   | true=>
    have heq:∀j,j<32→T2 ii (kid c j)=P ii (kid c j):=fun j hj=>by
     have:=h27 rfl j (by rw[z3k];exact hj)
     rw[gk j hj,←z16m fs hd hP,z4z _ _ hj]at this;exact this
    refine z07 rfl (z03 [2,2] fun q hq=>⟨(V2,T2,z3j P T2 ii c),⟨?_,z12r L hd h75 fs hx heq⟩,hq⟩);show _=(((T2 ii c:Nat):Int),(0:Int));rw[eself]
   | false=>
    refine z05 (by simp) ?_;have tok:TabOk (z2s (T2 ii) c):=⟨z3k _ _,fun p hp=>by
     unfold z2s at hp;obtain⟨k,_,rfl⟩:=List.mem_map.1 hp;exact L.fs.num hg _ _⟩
    refine z02 [0] (zn1 tok (z0k l10) hN) fun r28=>z04 fun h28=>z01 ?_;dsimp only[sel,rem,nth,del,cat,upd];refine z0r (z0b (z3r 4 rfl rfl ?_));refine z0c 0 rfl fun l28=>?_;rw[e1];have hw:V2.writeE g ((T ii c - 1:Nat):Int) (tabB (z2s (T2 ii) c))=0:=by
     unfold VolS.writeE MetaS.usedE;rw[if_pos (zbj tok),if_pos (by omega),Int.toNat_natCast,if_pos hub]
    refine z02 [3,0] (zce hg L.fs.ok.inv.ok _ (z0k l28) (by rw[zbj tok];omega)) fun r32=>z04 fun h32=>z01 ?_;rw[hw]at h32;rw[if_pos hw,Int.toNat_natCast];subst h32;dsimp only[sel,rem,nth,del,cat,upd];refine z03 [0,3] fun q hq=>⟨(V2.write g (T ii c - 1) (tabB (z2s (T2 ii) c)),T2,z3j P T2 ii c),⟨?_,zza L hd h75 hg fs hz hx⟩,hq⟩;show _=(((T2 ii c:Nat):Int),(0:Int));rw[eself]
theorem zig(hg:g.ok)(hN:5000<N)(fs:FS g V T T){c:Nat}{dd ff:Int}(h1:dd=(dep c:Nat))(h2:ff=(fst' c:Nat)) :
  Tri (z00 [z0l v d g V,pts o (.cells (z1k v i n a) false)]) (F_27 N (some ⟨o,0⟩) (T ii c:Int) dd ff (from':Int)) fun r=>exA fun x:VolS×z0q×z0q=>pu (r=(((x.2.1 ii c:Nat):Int),(0:Int))∧Trim g V T T ii c from' x.1 x.2.1 x.2.2) (z00 [z0l v d g x.1,pts o (.cells (z1k v i n a) false)]):=by
 subst h1 h2;unfold F_27;by_cases hz:T ii c=0
 ·obtain⟨K,rfl⟩:∃k,N=k+1:=⟨N - 1,by omega⟩;have e0:((0:Nat):Int)=0:=rfl;have:=znq (N:=K+1) K (some ⟨o,0⟩) (dep c:Int) (fst' c:Int) (from':Int)
  unfold zew at this;rw[hz,e0,this];refine z03 [0,0] fun q hq=>⟨(V,T,T),⟨?_,zqk fs (fun _ _=>rfl) hz⟩,hq⟩;show _=(((T ii c:Nat):Int),(0:Int));rw[hz];rfl
 ·exact z151 hg hN 2 N c V T T (by unfold dep;(repeat' split)<;>omega) (by omega) fs (fun _ _=>rfl) hz
end
end Go.Moat

/- Layer 16: shrink, Cut. -/
namespace Go.Moat
open Go.Mini
structure Shr(g:Geo)(V:VolS)(T:z0q)(ii from' m:Nat)(V':VolS)(T':z0q):Prop where
 fs:FS g V' T' T'
 same:∀j s,¬(j=ii∧s<m)→T' j s=T j s
 leaf:∀s,s<m→dep s=0→T' ii s=if from'≤fst' s then 0 else T ii s
 some:∀s,s<m→dep s≠0→(∃j,j<32∧T' ii (kid s j)≠0)→T' ii s=T ii s
 none:∀s,s<m→dep s≠0→(∀j,j<32→T' ii (kid s j)=0)→T' ii s=0
 bk:∀j s,dep s=0→T' j s≠0→bk g V' (T' j s)=bk g V (T j s)
 lab:Lab V.n.m V'.n.m
 kp:Keeps V V'
 xt:XtT g ii V T V' T'
section
variable{N:Nat}{β:Type}{l:List HA}{S:β→HA}{v d o:Nat}{g:Geo}{V V1 V2:VolS}{T T1 T2 P P2:z0q}{ii c a from' m m':Nat}{n n1:Ino}{s t:Sl}{i:Int}
theorem z12w(fs:FS g V T T):Shr g V T ii from' 0 V T:=
 ⟨fs,fun _ _ _=>rfl,fun s h=>by omega,fun s h=>by omega,fun s h=>by omega,fun _ _ _ _=>rfl,Lab.rfl' _,z4q V,XtT.rfl'⟩
theorem Shr.nz(h:Shr g V T ii from' m V1 T1)(s:Nat)(hz:T1 ii s≠0):T1 ii s=T ii s:=by
 by_cases hm:s<m
 case neg=>exact h.same ii s fun x=>hm x.2
 by_cases hd:dep s=0
 ·have:=h.leaf s hm hd
  rw[this]at hz ⊢;split
  ·rename_i h1;rw[if_pos h1]at hz;exact absurd rfl hz
  ·rfl
 ·by_cases hx:∃j,j<32∧T1 ii (kid s j)≠0
  ·exact h.some s hm hd hx
  ·exact absurd (h.none s hm hd fun j hj=>Decidable.byContradiction fun c=>hx ⟨j,hj,c⟩) hz
theorem zll(h:Shr g V T ii from' m V1 T1)(R:Trim g V1 T1 T1 ii c from' V2 T2 P2)(hmm:m≤m')(h75:m'≤75)(hu:∀s,s<75→(z1s c s↔m≤s∧s<m'))(hcl:∀s j,s<m→dep s≠0→j<32→kid s j<75→kid s j<m)(hroot:∀s j,dep s≠0→j<32→kid s j≠c):Shr g V T ii from' m' V2 T2:=by
 have nu:∀s,s<m→¬z1s c s:=fun s hs hx=>by
  have:=(hu s (by omega)).1 hx
  omega
 have old:∀s,m≤s→T1 ii s=T ii s:=fun s hs=>h.same ii s fun x=>by omega
 have new:∀s,s<m→T2 ii s=T1 ii s:=fun s hs=>R.same ii s fun x=>nu s hs x.2;have newK:∀s,s<m→dep s≠0→∀j,j<32→T2 ii (kid s j)=T1 ii (kid s j):=fun s hs hd j hj=>by
  by_cases hk:kid s j<75
  ·exact new _ (hcl s j hs hd hj hk)
  ·rw[R.fs.out _ _ (by omega),h.fs.out _ _ (by omega)]
 refine⟨R.fs.congr fun i s hd j hj=>?_,fun j s hs=>?_,fun s hs hd=>?_,fun s hs hd hx=>?_,fun s hs hd hx=>?_,fun j s hd hz=>?_,h.lab.trans R.lab,h.kp.trans R.kp,h.xt.trans R.xt h.nz⟩
 ·rw[R.p _ _ (z82 s hj)];split
  ·rfl
  ·rename_i hn;refine R.same _ _ fun x=>?_;rcases x.2 with e | e
   ·exact hroot s j hd hj e
   ·exact hn ⟨x.1,e⟩
 ·by_cases hs75:s<75
  ·rw[R.same j s fun x=>hs ⟨x.1,((hu s hs75).1 x.2).2⟩];exact h.same j s fun x=>hs ⟨x.1,by omega⟩
  ·rw[R.fs.out _ _ (by omega)];rw[←h.same j s fun x=>by omega,h.fs.out _ _ (by omega)]
 ·by_cases hm:s<m
  ·rw[new s hm];exact h.leaf s hm hd
  ·rw[R.leaf s ((hu s (by omega)).2 (by omega)) hd,old s (by omega)]
 ·by_cases hm:s<m
  ·rw[new s hm];obtain⟨j,hj,hx⟩:=hx;exact h.some s hm hd ⟨j,hj,by rwa [newK s hm hd j hj]at hx⟩
  ·rw[R.some s ((hu s (by omega)).2 (by omega)) hd hx,old s (by omega)]
 ·by_cases hm:s<m
  ·rw[new s hm];exact h.none s hm hd fun j hj=>by rw[←newK s hm hd j hj];exact hx j hj
  ·exact R.none s ((hu s (by omega)).2 (by omega)) hd hx
 ·rw[R.bk j s hd hz];have:=R.nz j s hd hz
  exact h.bk j s hd (by rw[←this];exact hz)
theorem zhd{p q:Nat→Nat}{k:Nat}(hr:z4o n1 p)(hk:k<60)(h:∀k',k'<60→rs k'≠rs k→q (rs k')=p (rs k')):z4o (n1.put (z3h k - 4) (q (rs k):Nat)) q:=by
 intro k' hk';rw[Ino.put_at _ (zdr hk).2.1];by_cases e:rs k'=rs k
 ·rw[if_pos (zjy.2 e),e]
 ·rw[if_neg fun x=>e (zjy.1 x),hr k' hk',h k' hk' e]
theorem zhe(R:Trim g V1 T1 P ii (rs c) from' V2 T2 P2):∀k',k'<60→rs k'≠rs c→T2 ii (rs k')=T1 ii (rs k'):=fun k' _ hne=>R.same ii _ fun x=>by
 rcases x.2 with e | e
 ·exact hne e
 ·exact znm _ _ e
def Nod(n n1:Ino):Prop:=n1.k=n.k∧n1.r=n.r∧n1.at 0=n.at 0∧n1.at 1=n.at 1
theorem Nod.put(h:Nod n n1){j:Nat}(h2:2≤j)(hj:j<12)(x:Int):Nod n (n1.put j x):=by
 obtain⟨h3,h4,h5,h6⟩:=h;refine⟨h3,h4,?_,?_⟩
 ·rw[Ino.put_at _ hj,if_neg (by omega),h5]
 ·rw[Ino.put_at _ hj,if_neg (by omega),h6]
theorem zhf{k:Nat}(h:k<8):rs k=k:=by unfold rs;rw[if_pos h]
theorem zvt{c s:Nat}(h:c<8):z1s c s↔s=c:=by
 constructor
 ·rintro(h1 | h1)
  ·exact h1
  ·simp[z1b]at h1;omega
 ·exact .inl
theorem zvu(hg:g.ok)(hN:5000<N):∀(K k:Nat)(V1:VolS)(T1:z0q)(n1:Ino),8 - k<K→k≤8→Shr g V T ii from' k V1 T1→z4o n1 (T1 ii)→Nod n n1 →
  Tri (z00 [z0l v d g V1,pts o (.cells (z1k v i n1 a) false)]) (z0e K (F_3v N (some ⟨o,0⟩) (from':Int) (some ⟨o,0+2⟩)) (k:Int)) fun r=>exA fun x:VolS×z0q×Ino=>pu (r=.inl ()∧Shr g V T ii from' 8 x.1 x.2.1∧z4o x.2.2 (x.2.1 ii)∧Nod n x.2.2) (z00 [z0l v d g x.1,pts o (.cells (z1k v i x.2.2 a) false)]):=by
 intro K;induction K with
 | zero=>intro k V1 T1 n1 h;omega
 | succ K ih=>
  intro k V1 T1 n1 h hk hs hr hn;rw[z13];generalize z0e K (F_3v N (some ⟨o,0⟩) (from':Int) (some ⟨o,0+2⟩))=go at ih ⊢;unfold F_3v;by_cases hk8:k<8
  case neg=>
   obtain rfl:k=8:=by omega
   exact z05 (by simp) (z03 [0,0] fun q hq=>⟨(V1,T1,n1),⟨rfl,hs,hr,hn⟩,hq⟩)
  have hk60:k<60:=by omega
  have hO:=zdr hk60;have hw:z3h k=6+k:=by unfold z3h;rw[if_pos hk8]
  have ea:∀f:Option MA→M (Unit⊕Int),bd (idxA 8 1 (some ⟨o,0+2+4⟩) (k:Int)) f=f (some ⟨o,z3h k⟩):=fun f=>by
   funext h;unfold idxA;simp only[bd];rw[if_pos (by omega)];unfold ret;dsimp only;rw[Int.toNat_natCast,hw];unfold MA.add;dsimp only;rw[show 0+2+4+k * 1=6+k by omega]
  refine z07 (by simp;omega) ?_;refine z0r (z0b ?_);rw[ea];refine tri_ldI 1 rfl (by rw[show z3h k=4+(z3h k - 4) by omega];exact z7f hO.2.1) ?_;rw[hr k hk60];refine z02 [0,0] (zig (ii:=ii) (c:=rs k) hg hN hs.fs (by rw[zhf hk8];unfold dep;rw[if_neg (by omega),if_neg (by omega)];rfl) (by rw[zhf hk8];unfold fst';rw[if_pos hk8])) fun r11=>z12 fun x=>z04 fun h11=>z01 ?_;obtain⟨V2,T2,P2⟩:=x;obtain⟨h11,R⟩:=h11;have R:Trim g V1 T1 T1 ii (rs k) from' V2 T2 P2:=R;subst h11;dsimp only[sel,rem,nth,del,cat,upd];refine z0r (z0b ?_);rw[ea];refine z21 1 rfl (by rw[z7j];omega) rfl ?_;have es:(z1k v i n1 a).set (z3h k) (.int .i64 ((T2 ii (rs k):Nat):Int))=z1k v i (n1.put (z3h k - 4) (T2 ii (rs k):Nat)) a:=by
   have:=zaf v i n1 a hO.2.1 ((T2 ii (rs k):Nat):Int)
   rwa [show 4+(z3h k - 4)=z3h k by omega]at this
  rw[es];refine z05 (by simp) ?_;rw[z09 (by omega) (by omega)];have hS:Shr g V T ii from' (k+1) V2 T2:=by
   refine zll hs R (by omega) (by omega) (fun s hs=>?_) (fun s j hs hd=>?_) fun s j hd hj=>zjx k s j hd hj
   ·rw[zhf hk8,zvt hk8];omega
   ·rcases dep_cases hd with rfl | rfl | rfl<;>omega
  exact z1u [0,0] (ih (k+1) V2 T2 _ (by omega) (by omega) hS (zhd hr hk60 (zhe R)) (hn.put hO.2.2 hO.2.1 _))
theorem zvv(hg:g.ok)(hN:5000<N)(fs:FS g V T T)(hr:z4o n (T ii)) :
  Tri (z00 [z0l v d g V,pts o (.cells (z1k v i n a) false)]) (F_37 N (some ⟨o,0⟩) (from':Int)) fun r=>exA fun x:VolS×z0q×Ino=>pu (r=0∧Shr g V T ii from' 75 x.1 x.2.1∧z4o x.2.2 (x.2.1 ii)∧Nod n x.2.2) (z00 [z0l v d g x.1,pts o (.cells (z1k v i x.2.2 a) false)]):=by
 unfold F_37;refine z0r (z0b ?_);refine z02 [0,0] (zvu hg hN N 0 V T n (by omega) (by omega) (z12w fs) hr ⟨rfl,rfl,rfl,rfl⟩) fun j15=>z12 fun x=>z04 fun hj=>z01 ?_;obtain⟨V1,T1,n1⟩:=x;obtain⟨hj,S1,r1,nd1⟩:=hj;have S1:Shr g V T ii from' 8 V1 T1:=S1;have r1:z4o n1 (T1 ii):=r1;have nd1:Nod n n1:=nd1;subst hj;dsimp only[sel,rem,nth,del,cat,upd];refine z0r (z0b ?_);refine tri_ldI 1 rfl (z7f (n:=n1) (j:=10) (by omega)) ?_;have e10:n1.at 10=(T1 ii 8:Nat):=r1 8 (by omega);rw[e10];refine z02 [0,0] (zig (ii:=ii) (c:=8) hg hN S1.fs rfl rfl) fun r21=>z12 fun x=>z04 fun h21=>z01 ?_;obtain⟨V2,T2,P2⟩:=x;obtain⟨h21,R⟩:=h21;have R:Trim g V1 T1 T1 ii (rs 8) from' V2 T2 P2:=R;subst h21;dsimp only[sel,rem,nth,del,cat,upd];refine z0r (z0b ?_);refine z21 1 rfl (by rw[z7j];omega) rfl ?_;rw[show 0+2+12=4+10 from rfl,zaf v i n1 a (by omega)];refine z05 (by simp) ?_;have S2:Shr g V T ii from' 41 V2 T2:=by
  refine zll S1 R (by omega) (by omega) (fun s hs=>?_) (fun s j hs hd=>?_) fun s j hd hj=>zjx 8 s j hd hj
  ·simp[rs,z1s,z1b];omega
  ·rcases dep_cases hd with rfl | rfl | rfl<;>omega
 have r2:z4o (n1.put 10 (T2 ii 8:Nat)) (T2 ii):=zhd (k:=8) r1 (by omega) (zhe R);have nd2:=nd1.put (j:=10) (by omega) (by omega) ((T2 ii 8:Nat):Int);dsimp only[sel,rem,nth,del,cat,upd];generalize n1.put 10 ((T2 ii 8:Nat):Int)=n2 at r2 nd2 ⊢;refine z0r (z0b ?_);refine tri_ldI 1 rfl (z7f (n:=n2) (j:=11) (by omega)) ?_;have e11:n2.at 11=(T2 ii 41:Nat):=r2 40 (by omega);rw[e11];refine z02 [0,0] (zig (ii:=ii) (c:=41) hg hN S2.fs rfl rfl) fun r27=>z12 fun x=>z04 fun h27=>z01 ?_;obtain⟨V3,T3,P3⟩:=x;obtain⟨h27,R3⟩:=h27;have R3:Trim g V2 T2 T2 ii (rs 40) from' V3 T3 P3:=R3;subst h27;dsimp only[sel,rem,nth,del,cat,upd];refine z0r (z0b ?_);refine z21 1 rfl (by rw[z7j];omega) rfl ?_;rw[show 0+2+13=4+11 from rfl,zaf v i n2 a (by omega)];have S3:Shr g V T ii from' 75 V3 T3:=by
  refine zll S2 R3 (by omega) (by omega) (fun s hs=>?_) (fun s j hs hd hj=>?_) fun s j hd hj=>zjx 40 s j hd hj
  ·simp[rs,z1s,z1b];omega
  ·rcases dep_cases hd with rfl | rfl | rfl<;>simp[kid]<;>omega
 exact z03 [0,0] fun q hq=>⟨(V3,T3,n2.put 11 (T3 ii 41:Nat)),⟨rfl,S3,zhd (k:=40) r2 (by omega) (zhe R3),nd2.put (j:=11) (by omega) (by omega) _⟩,hq⟩
end
end Go.Moat

/- Layer 16: Cut. -/
namespace Go.Moat
open Go.Mini
def zef(g:Geo)(V:VolS)(T:z0q):Prop:=∀i x,z1z V.n.m i≤x→x<3840→fb g V T i x=0
structure CutP(g:Geo)(V:VolS)(T:z0q)(ii size:Nat)(V':VolS)(T':z0q):Prop where
 fv:FV g V' T'
 same:∀j s,j≠ii→T' j s=T j s
 leaf:∀s,s<75→dep s=0→T' ii s=if(size+63) / 64≤fst' s then 0 else T ii s
 some:∀s,s<75→dep s≠0→(∃j,j<32∧T' ii (kid s j)≠0)→T' ii s=T ii s
 none:∀s,s<75→dep s≠0→(∀j,j<32→T' ii (kid s j)=0)→T' ii s=0
 fb:∀j x,x<3840→fb g V' T' j x=if j=ii∧size≤x then 0 else fb g V T j x
 ino:∃n',V'.n.m.ino=V.n.m.ino.set ii n'∧n'.k=(z15 V.n.m.ino ii).k∧n'.r=(z15 V.n.m.ino ii).r∧n'.at 0=(z15 V.n.m.ino ii).at 0∧n'.at 1=(size:Int)
 rows:∀r,(∃n∈V.n.m.ino,n.k≠0∧n.r=r)→(z1a V'.n.m.rows r).1=(z1a V.n.m.rows r).1
 kp:Keeps V V'
 xt:XtT g ii V T V' T'
def cE(m:MetaS)(i size:Int):Int:=if m.hasE i≠0 then m.hasE i else if size<0∨3840<size then 1 else 0
section
variable{N:Nat}{β:Type}{l:List HA}{S:β→HA}{v d o:Nat}{g:Geo}{V V1 V2:VolS}{T T1 T2 P P2:z0q}{ii c a from' m m' size:Nat}{n n1:Ino}{s t:Sl}{i:Int}
theorem zqm:∀n:Nat,z0t n [MV.int .u8 (0:Int)]=bytesOf (List.replicate n 0)
 | 0=>rfl
 | n+1=>by
  show[MV.int .u8 (0:Int)]++z0t n [MV.int .u8 (0:Int)]=_;rw[zqm n];rfl
theorem z12x(j:Nat):z1h[j]?.getD 0=0:=by
 unfold z1h;rw[List.getElem?_replicate];split<;>rfl
theorem zbw(h:T ii (lf (m / 64))=0):fb g V T ii m=0:=by
 unfold fb bk;rw[h,if_pos rfl];exact z12x _
theorem zue(h:Shr g V T ii from' 75 V1 T1)(j:Nat){x:Nat}(hx:x<3840):fb g V1 T1 j x=if j=ii∧from'≤x / 64 then 0 else fb g V T j x:=by
 have hk:x / 64<60:=by omega
 have hd:=zjw (x / 64);have hl:=(z12j hk).2;by_cases hz:T1 j (lf (x / 64))=0
 ·rw[zbw hz];split
  ·rfl
  ·rename_i hn;by_cases e:j=ii
   ·subst e;have:=h.leaf _ hl hd
    rw[zta _ hk,if_neg fun y=>hn ⟨rfl,y⟩]at this;exact(zbw (by rw[←this];exact hz)).symm
   ·have:=h.same j (lf (x / 64)) fun y=>e y.1
    exact(zbw (by rw[←this];exact hz)).symm
 ·rw[if_neg]
  ·unfold fb;rw[h.bk j _ hd hz]
  ·rintro⟨rfl,hf⟩
   have:=h.leaf _ hl hd
   rw[zta _ hk,if_pos hf]at this;exact hz this
theorem zzc(h:size≤3840):F_31 N (size:Int)=ret (((size+63) / 64:Nat):Int):=by
 unfold F_31;by_cases h0:size=0
 ·subst h0;rfl
 ·rw[if_neg (by simp;omega)];have e1:wr .i64 ((size:Int) - 1)=((size - 1:Nat):Int):=by rw[z09 (by omega) (by omega)];omega
  have e2:((size - 1:Nat):Int).tdiv 64=(((size - 1) / 64:Nat):Int):=rfl;rw[e1,e2,z09 (n:=(((size - 1) / 64:Nat):Int)) (by omega) (by omega),z09 (by omega) (by omega)];congr 1;omega
theorem zuf(hg:g.ok)(ok:MetaOk g V.n.m){size:Int}(h:cE V.n.m i size≠0) :
  Tri (z00 [z0l v d g V]) (F_00 N (some ⟨v,0⟩) i size) fun r=>pu (r=cE V.n.m i size) (z00 [z0l v d g V]):=by
 unfold cE at h ⊢;unfold F_00;refine z02 [0] (z96 hg ok i) fun r5=>z12 fun o=>z04 fun h5=>z01 ?_;by_cases hE:V.n.m.hasE i=0
 case neg=>
  rw[if_neg hE]at h5;subst h5;refine z07 (by simpa using hE) (z03 [0] fun q hq=>⟨?_,hq⟩);rw[if_pos hE]
 rw[if_pos hE]at h5 ⊢;subst h5;have hE':¬(V.n.m.hasE i≠0):=fun c=>c hE;simp only[if_neg hE']at h ⊢;refine z05 (by simp) ?_;by_cases h0:size<0∨3840<size
 ·rw[if_pos h0];exact z07 (by simpa using h0) (z03 [0] fun q hq=>⟨rfl,hq⟩)
 ·rw[if_neg h0]at h;exact absurd rfl h
theorem zxb(hg:g.ok)(hN:5000<N)(F:FV g V T)(hE:V.n.m.hasE (ii:Int)=0)(hsz:size≤3840) :
  Tri (z00 [z0l v d g V]) (F_00 N (some ⟨v,0⟩) (ii:Int) (size:Int)) fun r=>exA fun x:VolS×z0q=>pu (r=0∧(zef g V T→CutP g V T ii size x.1 x.2)∧Keeps V x.1) (z00 [z0l v d g x.1]):=by
 have hok:=zds F.fs.ok.inv.ok hE;have h0:=hok.s0;have h1:=hok.s1;unfold F_00;refine z02 [0] (z96 hg F.fs.ok.inv.ok (ii:Int)) fun r5=>z12 fun o=>z04 fun h5=>z01 ?_;rw[if_pos hE]at h5 ⊢;rw[zag hE];subst h5;dsimp only[sel,rem,nth,del,cat,upd];refine z05 (by simp) ?_;refine z05 (by simp;omega) ?_;rw[zzc hsz];refine z0j ?_;refine z02 [0,0] (zvv (ii:=ii) hg hN F.fs (F.roots ii)) fun r6=>z12 fun x=>z04 fun h6=>z01 ?_;obtain⟨V1,T1,n1⟩:=x;obtain⟨h6,S1,r1,w1,w2,w3,w4⟩:=h6;have S1:Shr g V T ii ((size+63) / 64) 75 V1 T1:=S1;have r1:z4o n1 (T1 ii):=r1;have w1:n1.k=(z15 V.n.m.ino ii).k:=w1;have w2:n1.r=(z15 V.n.m.ino ii).r:=w2;have w3:n1.at 0=(z15 V.n.m.ino ii).at 0:=w3;have w4:n1.at 1=(z15 V.n.m.ino ii).at 1:=w4;subst h6;dsimp only[sel,rem,nth,del,cat,upd];refine z05 (by simp) ?_;have em:(size:Int).tmod 64=((size%64:Nat):Int):=rfl;have ed:wr .i64 ((size:Int).tdiv 64)=((size / 64:Nat):Int):=by
  have e1:(size:Int).tdiv 64=((size / 64:Nat):Int):=rfl;rw[e1,z09 (by omega) (by omega)]
 rw[em,ed];refine z02 [0,0] (Q:=fun c=>pu (c=decide (0<size%64∧(size:Int)<(z15 V.n.m.ino ii).at 1)) (z00 [z0l v d g V1,pts o (.cells (z1k v (ii:Int) n1 (V.n.m.inodeL ii)) false)])) ?_ fun c11=>z04 fun h11=>z01 ?_
 ·by_cases hm:0<size%64
  ·refine z07 (by simp;omega) ?_;refine z0r (z0b (z0b (tri_ldI 1 rfl (z7f (n:=n1) (j:=1) (by omega)) ?_)));rw[w4];refine z03 [0,0] fun q hq=>⟨?_,hq⟩;by_cases h:(size:Int)<(z15 V.n.m.ino ii).at 1<;>simp[h,hm]
  ·refine z05 (by simp;omega) (z03 [0,0] fun q hq=>⟨?_,hq⟩);simp[hm]
 dsimp only[sel,rem,nth,del,cat,upd];have key:Tri (z00 [z0l v d g V1,pts o (.cells (z1k v (ii:Int) n1 (V.n.m.inodeL ii)) false)]) (if c11=true then(bd (F_0r N (some ⟨o,0⟩) ((size / 64:Nat):Int)) fun r_12=>if(!decide (r_12.2=(0:Int)))=true then(ret (Sum.inr r_12.2))else(bd (if(!decide (r_12.1=(0:Int)))=true then(bd (F_0f N (some ⟨v,0⟩) (wr .i64 (r_12.1 - (1:Int)))) fun r_13=>if(!decide (r_13.2=(0:Int)))=true then(ret (Sum.inr r_13.2))else(bd (slc 1 r_13.1 ((size%64:Nat):Int) (r_13.1.len:Int)) fun l_14=>bd (slClr 1 ([MV.int .u8 (0:Int)]) l_14) fun _=>bd (F_0g N (some ⟨v,0⟩) (wr .i64 (r_12.1 - (1:Int))) r_13.1) fun r_15=>if(!decide (r_15=(0:Int)))=true then(ret (Sum.inr r_15))else(ret ((Sum.inl ())))))else(ret ((Sum.inl ())))) fun j_16=>(match j_16 with | Sum.inl j_17=>ret ((Sum.inl ())) | Sum.inr j_18=>ret (Sum.inr j_18))))else(ret ((Sum.inl ()))):M (Unit⊕Int))
   fun r=>exA fun V2:VolS=>pu (r=.inl ()∧FS g V2 T1 T1∧(zef g V T→∀j x,x<3840→fb g V2 T1 j x=if j=ii∧size≤x then 0 else fb g V T j x)∧V2.n.m=V1.n.m∧Keeps V1 V2∧XtT g ii V1 T1 V2 T1) (z00 [z0l v d g V2,pts o (.cells (z1k v (ii:Int) n1 (V.n.m.inodeL ii)) false)]):=by
  have big:zef g V T→∀j x,x<3840→¬(0<size%64∧(size:Int)<(z15 V.n.m.ino ii).at 1)→fb g V1 T1 j x=if j=ii∧size≤x then 0 else fb g V T j x:=fun Z j x hx hno=>by
   rw[zue S1 j hx];by_cases e:j=ii
   ·subst e;by_cases h2:size≤x
    ·rw[if_pos (show _∧_ from⟨rfl,h2⟩)];split
     ·rfl
     ·rename_i hn;refine Z j x ?_ hx;unfold z1z;have:¬(size+63) / 64≤x / 64:=fun y=>hn ⟨rfl,y⟩
      omega
    ·rw[if_neg fun y=>h2 (by have:=y.2;omega),if_neg fun y=>h2 y.2]
   ·rw[if_neg fun y=>e y.1,if_neg fun y=>e y.1]
  by_cases hc:0<size%64∧(size:Int)<(z15 V.n.m.ino ii).at 1
  case neg=>
   rw[decide_eq_false hc]at h11;subst h11;exact z05 (by simp) (z03 [0,0] fun q hq=>⟨V1,⟨rfl,S1.fs,fun Z j x hx=>big Z j x hx hc,rfl,z4q _,XtT.rfl'⟩,hq⟩)
  rw[decide_eq_true hc]at h11;subst h11;have hk:size / 64<60:=by omega
  have hf1:(size+63) / 64=size / 64+1:=by omega
  refine z07 rfl ?_;refine z02 [0,0] (zj4 hg hk (r1 _ hk) (zou hg S1.fs hk) hN) fun r12=>z04 fun h12=>z01 ?_;subst h12;dsimp only[sel,rem,nth,del,cat,upd];refine z05 (by simp) ?_;by_cases hz:T1 ii (lf (size / 64))=0
  ·refine z02 [0,0] (Q:=fun j=>pu (j=.inl ()) (z00 [z0l v d g V1,pts o (.cells (z1k v (ii:Int) n1 (V.n.m.inodeL ii)) false)])) (z05 (by simp[hz]) (z03 [0,0] fun q hq=>⟨rfl,hq⟩)) fun j=>z04 fun hj=>z01 ?_;subst hj;dsimp only[sel,rem,nth,del,cat,upd];refine z03 [0,0] fun q hq=>⟨V1,⟨rfl,S1.fs,fun _ j x hx=>?_,rfl,z4q _,XtT.rfl'⟩,hq⟩;have h2:=zue S1 j hx;by_cases e:j=ii∧size≤x
   ·obtain⟨rfl,e⟩:=e;rw[if_pos ⟨rfl,e⟩];by_cases e2:x / 64=size / 64
    ·exact zbw (by rw[e2];exact hz)
    ·rw[h2,if_pos ⟨rfl,by omega⟩]
   ·rw[if_neg e,h2,if_neg fun y=>e ⟨y.1,by have:=y.2;omega⟩]
  ·have hle:=S1.fs.le ii (lf (size / 64));have hnum:=S1.fs.num hg ii (lf (size / 64));have hl64:=zii S1.fs ii (lf (size / 64));have ebk:bk g V1 (T1 ii (lf (size / 64)))=V1.readB g ((T1 ii (lf (size / 64)) - 1:Nat):Int):=by unfold bk;rw[if_neg hz]
   have hX:(z90 (bk g V1 (T1 ii (lf (size / 64)))) (size%64) (List.replicate (64 - size%64) 0)).length=64:=by rw[zih (by simp;omega)];exact hl64
   refine z02 [0,0] (Q:=fun j=>pu (j=.inl ()) (z00 [z0l v d g (V1.write g (T1 ii (lf (size / 64)) - 1) (z90 (bk g V1 (T1 ii (lf (size / 64)))) (size%64) (List.replicate (64 - size%64) 0))),pts o (.cells (z1k v (ii:Int) n1 (V.n.m.inodeL ii)) false)])) ?_ fun j=>z04 fun hj=>z01 ?_
   ·refine z07 (by simp;omega) ?_;have ep:wr .i64 ((T1 ii (lf (size / 64)):Int) - 1)=((T1 ii (lf (size / 64)) - 1:Nat):Int):=by
     rw[z09 (by omega) (by omega)];omega
    rw[ep];have hre:=S1.fs.ok.re (T1 ii (lf (size / 64)) - 1) (by omega);refine z02 [0] (zdh hg _) fun r9=>z04 fun h9=>z01 ?_;rw[hre]at h9;rw[if_pos hre,←ebk];dsimp only[sel,rem,nth,del,cat,upd];refine z05 (by simp[h9]) ?_;obtain⟨s9,e9⟩:=r9;dsimp only[sel,rem,nth,del,cat,upd];refine z93 1 rfl (fun _ h0=>?_) fun b9 ln9 h0 hl9=>?_
    ·have:=congrArg List.length h0
     rw[z0d,hl64]at this;simp at this
    subst h0;rw[z0d,hl64]at hl9;obtain rfl:ln9=64:=by omega
    refine z3t (by omega) (by simp;omega) (by simp) ?_;rw[Int.toNat_natCast,Int.toNat_natCast];have es:z2w 1 (⟨some ⟨b9,0⟩,64⟩:Sl) (size%64) 64=⟨some ⟨b9,size%64⟩,64 - size%64⟩:=by
     unfold z2w;simp[MA.add]
    rw[es];unfold slClr;rw[if_neg (by simp;omega)];dsimp only[sel,rem,nth,del,cat,upd];rw[zqm];refine z50 1 rfl (by rw[z0d];simp) (by rw[z0d,z0d,hl64];simp;omega) (bytes_cell _) ?_;rw[zkk];have hw:V1.writeE g ((T1 ii (lf (size / 64)) - 1:Nat):Int) (z90 (bk g V1 (T1 ii (lf (size / 64)))) (size%64) (List.replicate (64 - size%64) 0))=0:=by
     unfold VolS.writeE MetaS.usedE;rw[if_pos hX,if_pos (by omega),Int.toNat_natCast,if_pos (S1.fs.used ii _ hz)]
    refine z02 [0,0] (zce hg S1.fs.ok.inv.ok _ (s:=⟨some ⟨b9,0⟩,64⟩) (rd_pts0 (by rw[z0d,hX])) (by omega)) fun r12=>z04 fun h12=>z01 ?_;rw[hw]at h12;rw[if_pos hw,Int.toNat_natCast];dsimp only[sel,rem,nth,del,cat,upd];exact z05 (by simp[h12]) (z03 [0,1] fun q hq=>⟨rfl,hq⟩)
   ·subst hj;dsimp only[sel,rem,nth,del,cat,upd];refine z03 [0,0] fun q hq=>⟨_,⟨rfl,S1.fs.leaf (zjw _) hz hX,fun _ j x hx=>?_,rfl,zca _ _ _,zpv hz _⟩,hq⟩;rw[ztc S1.fs hz,zpx (by simp;omega)];have h2:=zue S1 j hx;by_cases e:j=ii∧x / 64=size / 64
    ·obtain⟨rfl,e⟩:=e;rw[if_pos ⟨rfl,e⟩];by_cases e2:size≤x
     ·rw[if_pos ⟨by omega,by simp;omega⟩,if_pos ⟨rfl,e2⟩,List.getElem?_replicate];split<;>rfl
     ·rw[if_neg (by omega),if_neg fun y=>e2 y.2];have e3:(bk g V1 (T1 j (lf (size / 64))))[x%64]?.getD 0=fb g V1 T1 j x:=by unfold fb;rw[e]
      rw[e3,h2,if_neg fun y=>by have:=y.2;omega]
    ·rw[if_neg e,h2];by_cases e2:j=ii∧size≤x
     ·rw[if_pos e2,if_pos ⟨e2.1,by have:=e2.2;have:¬x / 64=size / 64:=fun y=>e ⟨e2.1,y⟩;omega⟩]
     ·rw[if_neg e2,if_neg fun y=>e2 ⟨y.1,by have:=y.2;omega⟩]
 refine z02 [0,0] key fun j19=>z12 fun V2=>z04 fun hj=>z01 ?_;obtain⟨hj,fs2,hfb,em2,kp2,xt2⟩:=hj;subst hj;dsimp only[sel,rem,nth,del,cat,upd];refine z0r (z0b (z0b (z21 1 rfl (by rw[z7j];omega) rfl ?_)));rw[show 0+2+3=4+1 from rfl,zaf v _ n1 _ (by omega)];have eino:V2.n.m.ino=V.n.m.ino:=by rw[em2];exact S1.lab.1
 have hE2:V2.n.m.hasE (ii:Int)=0:=by
  unfold MetaS.hasE;rw[eino];exact hE
 obtain⟨hset,fv⟩:=zuc (V:=V2) (n2:=n1) (T0:=T1) hg fs2 (n1:=n1) (sz:=(size:Int)) (fun j hj=>by
  rw[eino];intro k hk;rw[S1.same j _ fun y=>hj y.1];exact F.roots j k hk) r1 hE2 (by rw[eino];exact w1) (by rw[eino];exact w2) (by rw[eino];exact w3) (by omega) (by omega)
 refine z02 [0,0] (zqd hg fs2.ok.inv.ok hN) fun r24=>z04 fun h24=>z01 ?_;rw[hset]at h24;rw[if_pos hset,Int.toNat_natCast];dsimp only[sel,rem,nth,del,cat,upd];refine z03 [0] fun q hq=>⟨(V2.wM (V2.n.m.set ii (n1.put 1 (size:Int))),T1),⟨h24,fun Z=>⟨fv,fun j s hj=>S1.same j s fun y=>hj y.1,S1.leaf,S1.some,S1.none,hfb Z,⟨n1.put 1 (size:Int),?_,w1,w2,?_,?_⟩,fun r hr=>?_,(S1.kp.trans kp2).trans (zgs _ _),(have e:=S1.xt.trans xt2 S1.nz;⟨e.full,e.dk,e.own⟩)⟩,(S1.kp.trans kp2).trans (zgs _ _)⟩,hq⟩
 ·show V2.n.m.ino.set ii _=_;rw[eino]
 ·rw[Ino.put_at _ (by omega),if_neg (by omega)];exact w3
 ·rw[Ino.put_at _ (by omega),if_pos rfl]
 ·show(z1a V2.n.m.rows r).1=_;rw[em2];exact S1.lab.2 r hr
theorem z18h{α:Type}(m:M α):bd m ret=m:=by
 funext h;unfold bd;cases m h<;>rfl
theorem zug(hg:g.ok)(hN:5000<N)(F:FV g V T)(Z:zef g V T)(hE:V.n.m.hasE (ii:Int)=0)(hsz:size≤3840) :
  Tri (z00 [z0l v d g V]) (F_00 N (some ⟨v,0⟩) (ii:Int) (size:Int)) fun r=>exA fun x:VolS×z0q=>pu (r=0∧CutP g V T ii size x.1 x.2) (z00 [z0l v d g x.1]):=by
 rw[←z18h (F_00 N _ _ _)];refine z02 [0] (zxb hg hN F hE hsz) fun r=>z12 fun x=>z04 fun h=>z01 ?_;exact z03 [0] fun q hq=>⟨x,⟨h.1,h.2.1 Z⟩,hq⟩
end
end Go.Moat

/- Layer 16: Blocks. -/
namespace Go.Moat
open Go.Mini
def treeL(p:Nat→Nat):Nat→Nat→List Nat
 | 0,c=>if p c=0 then[]else[p c - 1]
 | D+1,c=>if p c=0 then[]else(p c - 1)::(List.range 32).flatMap fun j=>treeL p D (kid c j)
def z5g(p:Nat→Nat):List Nat:=((List.range 8).flatMap fun k=>treeL p 0 k)++treeL p 1 8++treeL p 2 41
theorem zhg{p:Nat→Nat}{c:Nat}(h:p c=0)(D:Nat):treeL p D c=[]:=by
 cases D<;>(unfold treeL;rw[if_pos h])
theorem zg4{f:Nat→List Nat}{b:Nat}(h:∀j,(f j).length≤b):∀n,((List.range n).flatMap f).length≤n * b
 | 0=>by simp
 | n+1=>by
  rw[List.range_succ,List.flatMap_append,List.length_append,Nat.add_mul,show[n].flatMap f=f n by simp];have:=zg4 h n
  have h2:=h n;omega
theorem zeg(p:Nat→Nat):∀(D c:Nat),(treeL p D c).length≤40^D
 | 0,c=>by unfold treeL;split<;>simp
 | D+1,c=>by
  unfold treeL;split
  ·simp
  ·have h1:=zg4 (fun j=>zeg p D (kid c j)) 32;have h2:0<40^D:=Nat.pos_of_ne_zero (by simp);rw[List.length_cons,Nat.pow_succ];omega
theorem zhh{p q:Nat→Nat}(h:∀s,p s≠0↔q s≠0):∀(D c:Nat),(treeL p D c).length=(treeL q D c).length:=by
 have hz:∀s,p s=0↔q s=0:=fun s=>by
  have:=h s
  omega
 have fl:∀{f f':Nat→List Nat}(e:∀j,(f j).length=(f' j).length)(n:Nat),((List.range n).flatMap f).length=((List.range n).flatMap f').length:=fun e n=>by
  induction n with
  | zero=>rfl
  | succ n ih=>rw[List.range_succ,List.flatMap_append,List.flatMap_append,List.length_append,List.length_append,ih];simp[e]
 intro D;induction D with
 | zero=>
  intro c;unfold treeL;by_cases e:p c=0
  ·rw[if_pos e,if_pos ((hz c).1 e)]
  ·rw[if_neg e,if_neg fun x=>e ((hz c).2 x)];rfl
 | succ D ih=>
  intro c;unfold treeL;by_cases e:p c=0
  ·rw[if_pos e,if_pos ((hz c).1 e)]
  ·rw[if_neg e,if_neg fun x=>e ((hz c).2 x),List.length_cons,List.length_cons,fl (fun j=>ih (kid c j))]
theorem zuh{p q:Nat→Nat}(h:∀s,p s≠0↔q s≠0):(z5g p).length=(z5g q).length:=by
 have fl:∀n:Nat,((List.range n).flatMap fun k=>treeL p 0 k).length=((List.range n).flatMap fun k=>treeL q 0 k).length:=fun n=>by
  induction n with
  | zero=>rfl
  | succ n ih=>rw[List.range_succ,List.flatMap_append,List.flatMap_append,List.length_append,List.length_append,ih];simp[zhh h]
 unfold z5g;rw[List.length_append,List.length_append,List.length_append,List.length_append,fl,zhh h,zhh h]
def zui(b:Nat)(xs:List Nat):HA:=exA fun s:Sl=>z00 [pts b (.cells [.sl s.p s.len 1] false),z06 s 1 (z1c xs)]
section
variable{N:Nat}{β:Type}{l:List HA}{S:β→HA}{v d o c4 co cw:Nat}{g:Geo}{V V1 V2:VolS}{T T1 T2 P P2:z0q}{ii c a:Nat}{n n1:Ino}{s t:Sl}{i:Int}{m:M β}
theorem zov(k:Nat){b:Nat}{xs:List Nat}(hl:l[k]? = some (zui b xs))(kk:∀s:Sl,Tri (z00 (pts b (.cells [.sl s.p s.len 1] false)::z06 s 1 (z1c xs)::del l k)) m S):Tri (z00 l) m S:=
 zh0 k hl (φ:=fun _:Sl=>True) (L:=fun s=>[pts b (.cells [.sl s.p s.len 1] false),z06 s 1 (z1c xs)]) (fun _ ⟨s,h⟩=>⟨s,trivial,h⟩) fun s _=>kk s
theorem zlm{b:Nat}{s:Sl}{xs:List Nat}{q:PH}(h:z00 (pts b (.cells [.sl s.p s.len 1] false)::z06 s 1 (z1c xs)::l) q):z00 (zui b xs::l) q:=
 zgz [pts b (.cells [.sl s.p s.len 1] false),z06 s 1 (z1c xs)] (A:=zui b xs) (fun q hq=>⟨s,hq⟩) h
abbrev zex(N:Nat):=fun(self:(Int×Int×Option MA×Option MA×Option MA)→M Int)(v:Int×Int×Option MA×Option MA×Option MA)=>F_0z N self v.1 v.2.1 v.2.2.1 v.2.2.2.1 v.2.2.2.2
abbrev z9o(v d o c4 co cw:Nat)(g:Geo)(V:VolS)(i:Int)(n:Ino)(a:Nat)(xs:List Nat):List HA:=[zui co xs,z0l v d g V,pts o (.cells (z1k v i n a) false),pts c4 (.cells [.ptr (some ⟨o,0⟩)] false),pts cw (.cells [.fn 41 [.ptr (some ⟨co,0⟩),.ptr (some ⟨c4,0⟩),.ptr (some ⟨cw,0⟩)]] false)]
theorem znr(K:Nat)(x:Int)(p q r:Option MA):z0e (K+1) (zex N) (0,x,p,q,r)=ret 0:=by
 rw[z13];unfold zex F_0z;rw[if_pos (by simp)]
theorem z12y(hN:5000<N)(fs:FS g V T T){c D:Nat}(hd:dep c=D+1){self:(Int×Int×Option MA×Option MA×Option MA)→M Int}{r:Sl×Int}{xs:List Nat}(hxs:xs.length+32 * 40^D≤1000000)
  (h0:∀x p q r,self (0,x,p,q,r)=ret 0)
  (hs:∀(c':Nat)(xs:List Nat),dep c'=D→T ii c'≠0→xs.length+40^D≤1000000→Tri (z00 (z9o v d o c4 co cw g V i n a xs)) (self ((T ii c':Int),(D:Int),some ⟨co,0⟩,some ⟨c4,0⟩,some ⟨cw,0⟩)) fun r=>pu (r=0) (z00 (z9o v d o c4 co cw g V i n a (xs++treeL (T ii) D c')))) :
  ∀(K k:Nat),32 - k<K→k≤32 →
  Tri (z00 (z06 r.1 1 (z1c (z2s (T ii) c))::z9o v d o c4 co cw g V i n a (xs++(List.range k).flatMap fun j=>treeL (T ii) D (kid c j)))) (z0e K (F_3q N ((D+1:Nat):Int) (some ⟨cw,0⟩) self r) ((0:Int),(k:Int))) fun r'=>pu (r'=0) (z00 (z9o v d o c4 co cw g V i n a (xs++(List.range 32).flatMap fun j=>treeL (T ii) D (kid c j)))):=by
 intro K;induction K with
 | zero=>intro k h;omega
 | succ K ih=>
  intro k h hk;rw[z13];generalize z0e K (F_3q N ((D+1:Nat):Int) (some ⟨cw,0⟩) self r)=go at ih ⊢;unfold F_3q;refine z0c 0 rfl fun lr=>?_;have lr':=lr;rw[z1n,z3k]at lr';by_cases hkl:k<32
  case neg=>
   obtain rfl:k=32:=by omega
   exact z05 (by simp;omega) (z03 [1,1,1,1,1] fun q hq=>⟨rfl,hq⟩)
  refine z07 (by simp;omega) ?_;have hgt:(z1c (z2s (T ii) c))[k]? = some (.int .i64 (T ii (kid c k):Nat)):=by
   have:=z4z (T ii) c hkl
   simp only[z1w,List.getElem?_map,this];rfl
  refine z2a 0 rfl (z0k lr) (i:=k) (k :=.i64) hgt ?_;have hlen:((List.range k).flatMap fun j=>treeL (T ii) D (kid c j)).length≤k * 40^D:=zg4 (fun j=>zeg (T ii) D (kid c j)) k;have hmul:(k+1) * 40^D≤32 * 40^D:=Nat.mul_le_mul_right _ (by omega);rw[Nat.add_mul,Nat.one_mul]at hmul;have ext:(List.range (k+1)).flatMap (fun j=>treeL (T ii) D (kid c j))=((List.range k).flatMap fun j=>treeL (T ii) D (kid c j))++treeL (T ii) D (kid c k):=by
   rw[List.range_succ,List.flatMap_append];simp
  have hD:D≤1:=by
   have:dep c≠0:=by omega
   rcases dep_cases this with rfl | rfl | rfl<;>simp[dep]at hd<;>omega
  have a1:wr .i64 (((D+1:Nat):Int) - 1)=((D:Nat):Int):=by rw[z09 (by omega) (by omega)];omega
  refine z02 [1,1,1,1,1] (Q:=fun j=>pu (j=0) (z00 (z9o v d o c4 co cw g V i n a (xs++(List.range (k+1)).flatMap fun j=>treeL (T ii) D (kid c j))))) ?_ fun j17=>z04 fun hj=>z01 ?_
  ·refine z07 (by simp) ?_;refine zdq 4 rfl rfl rfl ?_;dsimp only;rw[a1];by_cases hz:T ii (kid c k)=0
   ·have e0:((0:Nat):Int)=0:=rfl;rw[hz,e0,h0];refine z0j (z03 [0,0,0,0,0] fun q hq=>⟨rfl,?_⟩);rw[ext,zhg hz,List.append_nil];exact hq
   ·have h75:=fs.pos hz;have ed:=zjq (by omega) hkl h75;refine z02 [0,0,0,0,0] (hs (kid c k) _ (by omega) hz (by rw[List.length_append];omega)) fun r16=>z04 fun h16=>z01 ?_;subst h16;dsimp only[sel,rem,nth,del,cat,upd];refine z03 [0,0,0,0,0] fun q hq=>⟨rfl,?_⟩;rw[ext,←List.append_assoc];exact hq
  subst hj;dsimp only[sel,rem,nth,del,cat,upd];rw[z09 (n:=(k:Int)+1) (by omega) (by omega)];exact z1u [5,0,0,0,0,0] (ih (k+1) (by omega) (by omega))
theorem z15w(hg:g.ok)(hN:5000<N)(fs:FS g V T T):∀(D K c:Nat)(xs:List Nat),dep c=D→D<K→T ii c≠0→xs.length+40^D≤1000000 →
  Tri (z00 (z9o v d o c4 co cw g V i n a xs)) (z0e K (zex N) ((T ii c:Int),(D:Int),some ⟨co,0⟩,some ⟨c4,0⟩,some ⟨cw,0⟩)) fun r=>pu (r=0) (z00 (z9o v d o c4 co cw g V i n a (xs++treeL (T ii) D c))):=by
 have hmost:most=70368744177664:=rfl;intro D;induction D with
 | zero=>
  intro K c xs hd hK hz hxs;obtain⟨K,rfl⟩:∃k,K=k+1:=⟨K - 1,by omega⟩;have hnum:=fs.num hg ii c;rw[z13];generalize z0e K (zex N)=self;unfold zex F_0z;dsimp only;refine z05 (by simp;omega) ?_;refine zov 0 rfl fun s=>?_;refine z0c 1 rfl fun ls=>?_;rw[z1n]at ls;refine z78 0 rfl rfl ?_;have e1:wr .i64 ((T ii c:Int) - 1)=((T ii c - 1:Nat):Int):=by
   rw[z09 (by omega) (by omega)];omega
  rw[e1];refine z0v fun b=>?_;refine z02 [2,0] (z3a (s:=s) (by':=8) (T:=pts b (.cells [.int .i64 ((T ii c - 1:Nat):Int)] false)) (rd_pts0 (by simp)) (by omega) rfl (by dsimp only;omega)) fun o2=>z01 ?_;dsimp only[sel,rem,nth,del,cat,upd];refine z21 2 rfl (by simp) rfl ?_;refine z07 (by simp) (z03 [2,0,1,1,1,1] fun q hq=>⟨rfl,?_⟩);have e2:z1c xs++[.int .i64 ((T ii c - 1:Nat):Int)]=z1c (xs++treeL (T ii) 0 c):=by
   unfold treeL;rw[if_neg hz,zl8];rfl
  rw[e2]at hq;exact zlm hq
 | succ D ih=>
  intro K c xs hd hK hz hxs;obtain⟨K,rfl⟩:∃k,K=k+1+1:=⟨K - 2,by omega⟩;have hnum:=fs.num hg ii c;have hd0:dep c≠0:=by omega
  have IH:=fun(c':Nat)(xs:List Nat) h1 h2 h3=>ih (K+1) c' xs h1 (by omega) h2 h3;have h0:=znr (N:=N) K;rw[z13];generalize z0e (K+1) (zex N)=self at IH h0 ⊢;unfold zex F_0z;dsimp only;refine z05 (by simp;omega) ?_;refine zov 0 rfl fun s=>?_;refine z0c 1 rfl fun ls=>?_;rw[z1n]at ls;have hpos:0<40^D:=Nat.pos_of_ne_zero (by simp);rw[Nat.pow_succ]at hxs;refine z78 0 rfl rfl ?_;have e1:wr .i64 ((T ii c:Int) - 1)=((T ii c - 1:Nat):Int):=by
   rw[z09 (by omega) (by omega)];omega
  rw[e1];refine z0v fun b=>?_;refine z02 [2,0] (z3a (s:=s) (by':=8) (T:=pts b (.cells [.int .i64 ((T ii c - 1:Nat):Int)] false)) (rd_pts0 (by simp)) (by omega) rfl (by dsimp only;omega)) fun o2=>z01 ?_;dsimp only[sel,rem,nth,del,cat,upd];refine z21 2 rfl (by simp) rfl ?_;refine z05 (by simp;omega) ?_;refine z3r 5 rfl rfl ?_;refine z02 [3,3] (z9n hg hnum (fs.tab ii c hd0) hN) fun r10=>z04 fun h10=>z01 ?_;rw[h10];dsimp only[sel,rem,nth,del,cat,upd];have e2:z1c xs++[.int .i64 ((T ii c - 1:Nat):Int)]=z1c (xs++[T ii c - 1]):=by
   rw[zl8];rfl
  rw[e2];refine z02 [5,3,0,0,0,1,1] (Tri.pre (z12y hN fs hd (xs:=xs++[T ii c - 1]) (by rw[List.length_append];simp;omega) h0 IH N 0 (by omega) (by omega)) fun q hq=>?_) fun j18=>z04 fun hj=>z01 ?_
  ·have hq2:=zlm hq;have hq3:z00 (sel [1,0,0,0,0,0] (zui co (xs++[T ii c - 1])::z06 r10.1 1 (z1c (z2s (T ii) c))::[z0l v d g V,pts o (.cells (z1k v i n a) false),pts c4 (.cells [.ptr (some ⟨o,0⟩)] false),pts cw (.cells [.fn 41 [.ptr (some ⟨co,0⟩),.ptr (some ⟨c4,0⟩),.ptr (some ⟨cw,0⟩)]] false)])) q:=zom [1,0,0,0,0,0] hq2;rw[show(List.range 0).flatMap (fun j=>treeL (T ii) D (kid c j))=[]from rfl,List.append_nil];exact hq3
  subst hj;dsimp only[sel,rem,nth,del,cat,upd];refine z03 [0,0,0,0,0] fun q hq=>⟨rfl,?_⟩;have e3:xs++treeL (T ii) (D+1) c=(xs++[T ii c - 1])++(List.range 32).flatMap fun j=>treeL (T ii) D (kid c j):=by
   conv=>lhs;unfold treeL
   rw[if_neg hz,List.append_assoc];rfl
  rw[e3];exact hq
theorem zj8(hg:g.ok)(hN:5000<N)(fs:FS g V T T){c:Nat}{xs:List Nat}{dd:Int}(h1:dd=(dep c:Nat))(hxs:xs.length≤100000) :
  Tri (z00 (z9o v d o c4 co cw g V i n a xs)) (F_26 N (T ii c:Int) dd (some ⟨co,0⟩) (some ⟨c4,0⟩) (some ⟨cw,0⟩)) fun r=>pu (r=0) (z00 (z9o v d o c4 co cw g V i n a (xs++treeL (T ii) (dep c) c))):=by
 subst h1;unfold F_26;have hd:dep c≤2:=by unfold dep;(repeat' split)<;>omega
 by_cases hz:T ii c=0
 ·obtain⟨K,rfl⟩:∃k,N=k+1:=⟨N - 1,by omega⟩;have e0:((0:Nat):Int)=0:=rfl;have:=znr (N:=K+1) K (dep c:Int) (some ⟨co,0⟩) (some ⟨c4,0⟩) (some ⟨cw,0⟩)
  unfold zex at this;rw[hz,e0,this,zhg hz,List.append_nil];exact z03 [0,0,0,0,0] fun q hq=>⟨rfl,hq⟩
 ·have h40:40^dep c≤40^2:=Nat.pow_le_pow_right (by omega) hd;exact z15w hg hN fs (dep c) N c xs rfl (by omega) hz (by omega)
theorem zzd(v:Nat)(i:Int)(n:Ino)(a:Nat){k:Nat}(hk:k<8):(((z1k v i n a).drop 6).take 8)[k]? = some (.int .i64 (n.at (2+k))):=by
 rw[List.getElem?_take,if_pos hk,List.getElem?_drop,show 6+k=4+(2+k) by omega];exact z7f (by omega)
theorem zvw(hg:g.ok)(hN:5000<N)(fs:FS g V T T)(hr:z4o n (T ii)):∀(K k:Nat),8 - k<K→k≤8 →
  Tri (z00 (z9o v d o c4 co cw g V i n a ((List.range k).flatMap fun k=>treeL (T ii) 0 k))) (z0e K (F_3r N (some ⟨cw,0⟩) (((z1k v i n a).drop 6).take 8)) (k:Int)) fun _=>z00 (z9o v d o c4 co cw g V i n a ((List.range 8).flatMap fun k=>treeL (T ii) 0 k)):=by
 intro K;induction K with
 | zero=>intro k h;omega
 | succ K ih=>
  intro k h hk;rw[z13];generalize z0e K (F_3r N (some ⟨cw,0⟩) (((z1k v i n a).drop 6).take 8))=go at ih ⊢;unfold F_3r;by_cases hk8:k<8
  case neg=>
   obtain rfl:k=8:=by omega
   exact z05 (by simp) (z03 [0,0,0,0,0] fun q hq=>hq)
  refine z07 (by simp;omega) ?_;unfold idxV;rw[if_pos (by omega),Int.toNat_natCast,zzd v i n a hk8];refine z4j (z7c ?_);have er:n.at (2+k)=(T ii k:Nat):=by
   have:=hr k (by omega)
   rw[zhf hk8]at this;have hw:z3h k - 4=2+k:=by unfold z3h;rw[if_pos hk8];omega
   rwa [hw]at this
  rw[er];refine zdq 4 rfl rfl rfl ?_;dsimp only;have hl:((List.range k).flatMap fun k=>treeL (T ii) 0 k).length≤k * 1:=zg4 (fun j=>zeg (T ii) 0 j) k;have hd0:dep k=0:=by unfold dep;rw[if_neg (by omega),if_neg (by omega)]
  refine z02 [0,0,0,0,0] (zj8 hg hN fs (c:=k) (by rw[hd0];rfl) (by omega)) fun r17=>z04 fun h17=>z01 ?_;dsimp only[sel,rem,nth,del,cat,upd];rw[z09 (by omega) (by omega)];refine z1u [0,0,0,0,0] (Tri.pre (ih (k+1) (by omega) (by omega)) fun q hq=>?_);rw[List.range_succ,List.flatMap_append];rw[hd0]at hq;rw[show[k].flatMap (fun k=>treeL (T ii) 0 k)=treeL (T ii) 0 k by simp];exact hq
theorem zkt(hg:g.ok)(hN:5000<N)(F:FV g V T)(i:Int) :
  Tri (z00 [z0l v d g V]) (F_1x N (some ⟨v,0⟩) i) fun r=>pu (r.2=V.n.m.hasE i) (z00 [z06 r.1 1 (z1c (if V.n.m.hasE i=0 then z5g (T i.toNat)else[])),z0l v d g V]):=by
 unfold F_1x;refine z02 [0] (z96 hg F.fs.ok.inv.ok i) fun r3=>z12 fun o=>z04 fun h3=>z01 ?_;refine z0v fun c4=>?_;refine z21 0 rfl (by simp) rfl ?_;by_cases hE:V.n.m.hasE i=0
 case neg=>
  rw[if_neg hE]at h3;subst h3;simp only[if_neg hE];exact z07 (by simpa using hE) (z03 [1] fun q hq=>⟨rfl,z2h (fun q h =>.nil 1 h) hq⟩)
 rw[if_pos hE]at h3;simp only[if_pos hE];subst h3;obtain⟨ii,hii,rfl,_⟩:=zev hE;rw[zag hE,Int.toNat_natCast];have hr:=F.roots ii;generalize z15 V.n.m.ino ii=n at hr ⊢;generalize V.n.m.inodeL (ii:Int)=a;dsimp only[sel,rem,nth,del,cat,upd];refine z05 (by simp) ?_;refine z0v fun co=>?_;refine z0v fun cw=>?_;refine z21 0 rfl (by simp) rfl ?_;refine z3r 2 rfl rfl ?_;refine z0r (z0b (z0b ?_));refine z5f 4 rfl (by rw[z7j];omega) ?_;refine z02 [1,2,2,1,0] (Tri.pre (zvw (v:=v) (d:=d) (o:=o) (c4:=c4) (co:=co) (cw:=cw) (i:=(ii:Int)) (a:=a) hg hN F.fs hr N 0 (by omega) (by omega)) fun q hq=>?_) fun j18=>z01 ?_
 ·refine zlm (s:=⟨none,0⟩) (xs:=[]) ?_;exact z1g (fun q hq=>z2h (fun q h =>.nil 1 h) hq) hq
 dsimp only[sel,rem,nth,del,cat,upd];refine zdq 4 rfl rfl rfl ?_;refine z3r 3 rfl rfl ?_;refine z0r (z0b (z0b ?_));refine tri_ldI 2 rfl (z7f (n:=n) (j:=10) (by omega)) ?_;have e10:n.at 10=(T ii 8:Nat):=hr 8 (by omega);have e11:n.at 11=(T ii 41:Nat):=hr 40 (by omega);rw[e10];have hl0:((List.range 8).flatMap fun k=>treeL (T ii) 0 k).length≤8 * 1:=zg4 (fun j=>zeg (T ii) 0 j) 8;have hl1:=zeg (T ii) 1 8;refine z02 [0,0,0,0,0] (zj8 hg hN F.fs (c:=8) rfl (by omega)) fun r25=>z04 fun h25=>z01 ?_;subst h25;dsimp only[sel,rem,nth,del,cat,upd];refine z02 [0,0,0,0,0] (Q:=fun j=>pu (j=0) (z00 (z9o v d o c4 co cw g V (ii:Int) n a (((List.range 8).flatMap fun k=>treeL (T ii) 0 k)++treeL (T ii) 1 8++treeL (T ii) 2 41)))) ?_ fun j33=>z04 fun hj=>z01 ?_
 ·refine z07 (by simp) ?_;refine zdq 4 rfl rfl rfl ?_;refine z3r 3 rfl rfl ?_;refine z0r (z0b (z0b ?_));refine tri_ldI 2 rfl (z7f (n:=n) (j:=11) (by omega)) ?_;rw[e11];refine z02 [0,0,0,0,0] (zj8 hg hN F.fs (c:=41) rfl (by rw[List.length_append];have:dep 8=1:=rfl;rw[this];omega)) fun r32=>z04 fun h32=>z01 ?_;subst h32;dsimp only[sel,rem,nth,del,cat,upd];exact z03 [0,0,0,0,0] fun q hq=>⟨rfl,hq⟩
 subst hj;dsimp only[sel,rem,nth,del,cat,upd];refine z05 (by simp) ?_;refine zov 0 rfl fun s=>?_;refine z78 0 rfl rfl ?_;exact z03 [1,1] fun q hq=>⟨hE.symm,hq⟩
end
end Go.Moat
