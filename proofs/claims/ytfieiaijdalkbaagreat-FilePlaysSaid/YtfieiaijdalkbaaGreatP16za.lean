/- Layer 16: blocks are let go, in plain words. -/
import Derived.Test.YtfieiaijdalkbaaGreatP16x
namespace Go.Moat
open Go.Mini
def Lab(m m':MetaS):Prop:=m'.ino=m.ino∧∀r,(∃n∈m.ino,n.k≠0∧n.r=r)→(z1a m'.rows r).1=(z1a m.rows r).1
theorem Lab.rfl'(m:MetaS):Lab m m:=⟨rfl,fun _ _=>rfl⟩
theorem Lab.trans{a b c:MetaS}(h:Lab a b)(k:Lab b c):Lab a c:=⟨k.1.trans h.1,fun r hr=>(k.2 r (by rw[h.1];exact hr)).trans (h.2 r hr)⟩
section
variable{g:Geo}{V V1:VolS}{T T1 P P1 P':z0q}{m:MetaS}{ii c i s b:Nat}
theorem zpu(g:Geo)(m:MetaS)(b:Nat):(m.free g b).used=z1x m.used b false:=by
 unfold MetaS.free;split<;>rfl
theorem z152(g:Geo)(m:MetaS)(b:Nat):(m.free g b).ino=m.ino:=by
 unfold MetaS.free;split<;>rfl
theorem zt9(hg:g.ok)(h:Inv g m)(hb:b<g.B)(hbit:z0y m.used b=true):Lab m (m.free g b):=by
 refine⟨z152 g m b,fun r hr=>?_⟩;obtain⟨n,hn,hk,hnr⟩:=hr;unfold MetaS.free;split
 case isFalse=>rfl
 show(z1a (zbq m.rows (m.own[b / g.P]?.getD 0 - 1)) r).1=_;have hgo:=h.gr hg b hb hbit;have hp:=hg.p1;have hkG:b / g.P<g.G:=by
  rw[Nat.div_lt_iff_lt_mul (by omega)];exact hb
 have hkl:b / g.P<m.own.length:=by rw[h.ok.ownl];exact hkG
 rw[List.getElem?_eq_getElem hkl]at hgo ⊢;have ho:m.own[b / g.P]∈m.own:=List.getElem_mem hkl;have h16:=h.ok.own16 _ ho;generalize m.own[b / g.P]=ow at ho h16 hgo;have hgo:0<ow:=hgo;show(z1a (zbq m.rows (ow - 1)) r).1=_;unfold zbq;rw[zbu (by rw[h.ok.rows.len];omega)];by_cases e:r=ow - 1
 ·rw[if_pos e];have h1:=h.refs (ow - 1) (by omega);unfold MetaS.cnt at h1;have h2:0<m.own.countP (z7d (ow - 1)):=List.countP_pos_iff.2 ⟨ow,ho,by simp[z7d];omega⟩;have h3:0<m.ino.countP (z66 (ow - 1)):=List.countP_pos_iff.2 ⟨n,hn,by simp[z66];omega⟩;rw[if_neg (by omega),e]
 ·rw[if_neg e]
theorem FS.free(h:FS g V T P)(hg:g.ok)(hz:T i s≠0)(hk:dep s≠0→∀j,j<32→P' i (kid s j)=0)(e:∀j t,t<76→(dep s≠0→j=i→∀k,k<32→t≠kid s k∨t=75)→P' j t=P j t):FS g (V.free g (T i s - 1)) (put T i s 0) P':=by
 have hb:=h.le i s;have hu:=h.ok.inv.ok.usedl;have hgp:=hg.gp;have hB:g.B=g.G * g.P:=rfl;have hbit:=h.used i s hz;have hne:∀j t,¬(j=i∧t=s)→T j t≠0→T j t - 1≠T i s - 1:=fun j t hjt h0 e=>hjt (h.inj j t i s h0 (by omega));have eu:(V.free g (T i s - 1)).n.m.used=z1x V.n.m.used (T i s - 1) false:=zpu g _ _;have er:∀c:Nat,(V.free g (T i s - 1)).readB g c=if c=T i s - 1 then z1h else V.readB g c:=fun c=>z54 _ _ _
 have ere:∀c:Nat,c<g.B→(V.free g (T i s - 1)).readE g c=0:=fun c hc=>z9e _ _ _ hc (h.ok.re c hc);refine⟨⟨z15o hg h.ok.inv (by omega) hbit,ere,fun c hc hcb=>?_⟩,fun j t=>?_,fun j t ht=>?_,fun j t j' t' h0 e'=>?_,fun j t h0=>?_,fun j t hd=>?_,fun c hc=>?_,fun j=>(e j 75 (by omega) fun _ _ _ _ =>.inr rfl).trans (h.pout j)⟩
 ·rw[er];by_cases e1:c=T i s - 1
  ·rw[if_pos e1]
  ·rw[if_neg e1];rw[eu,z1y (by omega),if_neg e1]at hcb;exact h.ok.zero c hc hcb
 ·unfold put;split
  ·omega
  ·exact h.le j t
 ·unfold put;split
  ·rfl
  ·exact h.out j t ht
 ·unfold put at h0 e';split at e'
  ·rename_i n1;rw[if_pos n1]at h0;exact absurd rfl h0
  ·split at e'
   ·rename_i n1 _;rw[if_neg n1]at h0;exact absurd e' h0
   ·rename_i n1 _;rw[if_neg n1]at h0;exact h.inj _ _ _ _ h0 e'
 ·unfold put at h0 ⊢;split at h0
  ·exact absurd rfl h0
  ·rename_i n1;rw[if_neg n1,eu,z1y (by omega),if_neg (hne j t n1 h0)];exact h.used j t h0
 ·have e1:¬(j=i∧t=s)→z2s (P' j) t=z2s (P j) t:=fun hjt=>zjo fun k hk=>e _ _ (z82 t hk) fun hds ej k' hk'=>by
   apply Decidable.byContradiction;intro c;rw[not_or]at c;obtain⟨c1,c2⟩:=c;have c1:=Decidable.not_not.1 c1;have hlt:=z82 t hk;exact hjt ⟨ej,(zjp hd hds hk hk' (by omega) c1).1⟩
  unfold put;by_cases hjt:j=i∧t=s
  ·rw[if_pos hjt];obtain⟨rfl,rfl⟩:=hjt;have e2:z2s (P' j) t=List.replicate 32 0:=by
    apply List.ext_getElem?;intro k;by_cases hk':k<32
    ·rw[z4z _ _ hk',hk hd k hk',List.getElem?_replicate,if_pos hk']
    ·rw[List.getElem?_eq_none (by rw[z3k];omega),List.getElem?_eq_none (by rw[List.length_replicate];omega)]
   rw[e2];exact⟨⟨rfl,fun p hp=>by rw[List.eq_of_mem_replicate hp];omega⟩,by rw[if_pos rfl]⟩
  ·rw[if_neg hjt,e1 hjt];refine z9f (h.tab j t hd) fun h0=>?_;have hle:=h.le j t;refine⟨?_,?_⟩
   ·rw[ere _ (by omega),h.ok.re _ (by omega)]
   ·rw[er,if_neg (hne j t hjt h0)]
 ·rw[er];split
  ·rfl
  ·exact h.l64 c hc
theorem zwu(h:FS g V T P)(hz:T i s≠0){j t:Nat}(hjt:¬(j=i∧t=s)):bk g (V.free g (T i s - 1)) (T j t)=bk g V (T j t):=by
 have e:V.free g (T i s - 1)=(V.write g (T i s - 1) z1h).wM (V.n.m.free g (T i s - 1)):=rfl;rw[e,z1b4,zgt h hz,if_neg hjt]
theorem zmz(V:VolS)(g:Geo)(b:Nat):Keeps V (V.free g b):=⟨rfl,rfl,rfl,rfl,rfl⟩
def fst'(c:Nat):Nat:=if c<8 then c else if c=8 then 8 else if c≤40 then c - 1 else if c≤42 then 40 else c - 3
def z5p(c:Nat):Nat:=if 1<dep c then 32 else 1
theorem z181{j:Nat}(hd:dep c≠0)(hj:j<32)(hk:kid c j<75):fst' (kid c j)=fst' c+j * z5p c:=by
 rcases dep_cases hd with rfl | rfl | rfl
 ·rw[show kid 8 j=9+j from rfl,show z5p 8=1 from rfl,show fst' 8=8 from rfl];unfold fst';rw[if_neg (by omega),if_neg (by omega),if_pos (by omega)];omega
 ·have:j=0:=by
   apply Decidable.byContradiction;intro h0;unfold kid at hk;rw[if_neg (by decide),if_pos rfl,if_neg h0]at hk;omega
  subst this;rfl
 ·rw[show kid 42 j=43+j from rfl,show z5p 42=1 from rfl,show fst' 42=40 from rfl];unfold fst';rw[if_neg (by omega),if_neg (by omega),if_neg (by omega),if_neg (by omega)];omega
theorem zta(k:Nat)(hk:k<60):fst' (lf k)=k:=by
 unfold fst' lf;repeat' split
 all_goals omega
abbrev z1s(c s:Nat):Prop:=s=c∨z1b c s
theorem zdf(hd:dep c≠0)(hs:s<75):z1b c s↔∃k,k<32∧z1s (kid c k) s:=by
 rcases dep_cases hd with rfl | rfl | rfl
 ·constructor
  ·intro h;exact⟨s - 9,by simp[z1b]at h;omega,.inl (by simp[z1b]at h;simp[kid];omega)⟩
  ·rintro⟨k,hk,h⟩
   simp[z1s,z1b,kid]at h ⊢;omega
 ·constructor
  ·intro h;refine⟨0,by omega,?_⟩;simp[z1s,z1b,kid]at h ⊢;omega
  ·rintro⟨k,hk,h⟩
   simp[z1s,z1b,kid]at h ⊢;split at h<;>omega
 ·constructor
  ·intro h;exact⟨s - 43,by simp[z1b]at h;omega,.inl (by simp[z1b]at h;simp[kid];omega)⟩
  ·rintro⟨k,hk,h⟩
   simp[z1s,z1b,kid]at h ⊢;omega
theorem zcp{k k':Nat}(hd:dep c≠0)(hk:k<32)(hk':k'<32)(hs:s<75)(h:z1s (kid c k) s)(h':z1s (kid c k') s):k=k':=by
 rcases dep_cases hd with rfl | rfl | rfl<;>simp[z1s,z1b,kid]at h h'<;>(repeat' split at h)<;>(repeat' split at h')<;>omega
theorem z11c{bs:List UInt8}{lo hi b:Nat}(h:z6g bs lo hi=0)(h1:lo≤b)(h2:b<hi):z0y bs b=false:=by
 unfold z6g at h;have:=List.filter_eq_nil_iff.1 (List.length_eq_zero_iff.1 h) b (List.mem_range'_1.2 ⟨h1,by omega⟩)
 simpa using this
theorem z153(hg:g.ok)(hi:Inv g m){b b':Nat}(hb:b<g.B)(hb':b'<g.B)(hu:z0y m.used b'=true)(hne:b'≠b):(m.free g b).own[b' / g.P]? = m.own[b' / g.P]? :=by
 unfold MetaS.free;split
 case isFalse=>rfl
 rename_i h0;show(m.own.set (b / g.P) 0)[b' / g.P]? = _;rw[List.getElem?_set,if_neg];intro e;have hul:=hi.ok.usedl;have hgp:=hg.gp;have hB:g.B=g.G * g.P:=rfl;obtain⟨h1,h2⟩:=(zdp hg).1 e.symm;have:=z11c h0 h1 h2
 rw[z1y (by omega),if_neg hne,hu]at this;cases this
structure XtT(g:Geo)(ii:Nat)(V:VolS)(T:z0q)(V':VolS)(T':z0q):Prop where
 full:zos g V T→zos g V' T'
 dk:DkW ii V V' T
 own:∀lab:Nat→Nat,zu9 g V T lab→zu9 g V' T' lab
theorem XtT.rfl':XtT g ii V T V T:=⟨id,fun _ h =>.inl h,fun _ h=>h⟩
theorem XtT.trans{V1 V2:VolS}{T1 T2:z0q}(h:XtT g ii V T V1 T1)(k:XtT g ii V1 T1 V2 T2)(e:∀s,T1 ii s≠0→T1 ii s=T ii s):XtT g ii V T V2 T2:=⟨fun x=>k.full (h.full x),fun n hn=>by
 rcases k.dk n hn with hn | ⟨s,h1,h2⟩
 ·exact h.dk n hn
 ·exact .inr ⟨s,by rw[←e s h1];exact h1,by rw[←e s h1];exact h2⟩,fun lab x=>k.own lab (h.own lab x)⟩
theorem zpv{s:Nat}(hz:T ii s≠0)(bs:List UInt8):XtT g ii V T (V.write g (T ii s - 1) bs) T:=⟨(zed (a:=0) hz bs).full,(zed (g:=g) (a:=0) hz bs).dk,fun _ h=>h⟩
theorem ztb(h:FS g V T P)(hg:g.ok){s:Nat}(hz:T ii s≠0):XtT g ii V T (V.free g (T ii s - 1)) (put T ii s 0):=by
 refine⟨fun hF b hb hu=>?_,(zed (g:=g) (a:=0) hz z1h).dk,fun lab ho j t ht=>?_⟩
 case refine_2=>
  have ht:put T ii s 0 j t≠0:=ht;show(V.n.m.free g (T ii s - 1)).own[(put T ii s 0 j t - 1) / g.P]? = _;unfold put at ht ⊢;by_cases e:j=ii∧t=s
  ·rw[if_pos e]at ht;exact absurd rfl ht
  rw[if_neg e]at ht ⊢;have hle:=h.le j t;have hle2:=h.le ii s;have hne:T j t - 1≠T ii s - 1:=fun x=>e (h.inj j t ii s ht (by omega));rw[z153 hg h.ok.inv (by omega) (by omega) (h.used j t ht) hne];exact ho j t ht
 have hul:=h.ok.inv.ok.usedl;have hgp:=hg.gp;have hB:g.B=g.G * g.P:=rfl;have hle:=h.le ii s;have hu:z0y (V.n.m.free g (T ii s - 1)).used b=true:=hu;rw[zpu,z1y (by omega)]at hu;by_cases e:b=T ii s - 1
 ·rw[if_pos e]at hu;cases hu
 ·rw[if_neg e]at hu;obtain⟨i,t,h1⟩:=hF b hb hu;refine⟨i,t,?_⟩;unfold put;rw[if_neg (by rintro⟨rfl,rfl⟩;omega)];exact h1
structure Trim(g:Geo)(V:VolS)(T P:z0q)(ii c from':Nat)(V':VolS)(T' P':z0q):Prop where
 fs:FS g V' T' P'
 p:∀j s,s<76→P' j s=if j=ii∧z1b c s then T' j s else P j s
 same:∀j s,¬(j=ii∧z1s c s)→T' j s=T j s
 leaf:∀s,z1s c s→dep s=0→T' ii s=if from'≤fst' s then 0 else T ii s
 some:∀s,z1s c s→dep s≠0→(∃j,j<32∧T' ii (kid s j)≠0)→T' ii s=T ii s
 none:∀s,z1s c s→dep s≠0→(∀j,j<32→T' ii (kid s j)=0)→T' ii s=0
 bk:∀j s,dep s=0→T' j s≠0→bk g V' (T' j s)=bk g V (T j s)
 lab:Lab V.n.m V'.n.m
 kp:Keeps V V'
 xt:XtT g ii V T V' T'
structure TLoop(g:Geo)(V:VolS)(T P:z0q)(ii c from' k:Nat)(V':VolS)(T' P':z0q):Prop where
 fs:FS g V' T' P'
 p:∀j s,s<76→P' j s=if j=ii∧(∃i,i<k∧z1b (kid c i) s)then T' j s else P j s
 same:∀j s,¬(j=ii∧∃i,i<k∧z1s (kid c i) s)→T' j s=T j s
 leaf:∀s,s<75→(∃i,i<k∧z1s (kid c i) s)→dep s=0→T' ii s=if from'≤fst' s then 0 else T ii s
 some:∀s,s<75→(∃i,i<k∧z1s (kid c i) s)→dep s≠0→(∃j,j<32∧T' ii (kid s j)≠0)→T' ii s=T ii s
 none:∀s,s<75→(∃i,i<k∧z1s (kid c i) s)→dep s≠0→(∀j,j<32→T' ii (kid s j)=0)→T' ii s=0
 bk:∀j s,dep s=0→T' j s≠0→bk g V' (T' j s)=bk g V (T j s)
 lab:Lab V.n.m V'.n.m
 kp:Keeps V V'
 xt:XtT g ii V T V' T'
end
end Go.Moat

/- Layer 16: a table is trimmed, in plain words. -/
namespace Go.Moat
open Go.Mini
section
variable{g:Geo}{V V1 V2:VolS}{T T1 T2 P P1 P2:z0q}{ii c i s k from':Nat}
theorem zqi{a j:Nat}(h:z1s a s)(hd:dep s≠0)(hj:j<32)(hk:kid s j<75):z1b a (kid s j):=by
 rcases h with rfl | h
 ·exact z4b hd hj hk
 ·rcases dep_cases hd with rfl | rfl | rfl
  ·simp[z1b]at h
  ·simp[z1b]at h
  ·have ha:a=41:=by simp[z1b]at h;omega
   subst ha;have:=z4b hd hj hk
   simp[z1b]at this ⊢;omega
theorem z12q{j:Nat}(hd:dep c≠0)(hj:j<32)(hc:c<75):¬z1s (kid c j) c:=by
 intro h;rcases dep_cases hd with rfl | rfl | rfl<;>simp[z1s,z1b,kid]at h<;>(try split at h)<;>omega
theorem zqj(fs:FS g V T P)(hP:∀s,z1s c s→P ii s=T ii s)(hd:dep c≠0)(hz:T ii c=0){j:Nat}(hj:j<32)(hk:kid c j<75):T ii (kid c j)=0:=by
 rw[←hP _ (.inr (z4b hd hj hk))];exact fs.kid0 hd hz hj
theorem zcf{j:Nat}(hd:dep c≠0)(hj:j<32)(hk:kid c j<75)(h:z1s (kid c j) s):z1s c s:=by
 rcases h with rfl | h
 ·exact .inr (z4b hd hj hk)
 ·exact .inr (z5y hd hj h)
theorem zz8(fs:FS g V T P)(hz:T ii c=0)(hP:∀s,z1s c s→P ii s=T ii s):∀s,z1s c s→T ii s=0:=by
 have nodep:∀a t,dep a=0→z1b a t→False:=fun a t h hb=>by
  simp[z1b]at hb;rcases hb with⟨rfl,_⟩ | ⟨rfl,_⟩ | ⟨rfl,_⟩<;>simp[dep]at h
 intro s hs;rcases hs with rfl | hs
 ·exact hz
 ·have hd:dep c≠0:=fun h=>nodep c s h hs;have hs75:=z4n hs;obtain⟨k,hk,hu⟩:=(zdf hd hs75).1 hs;have hk75:kid c k<75:=by
   rcases hu with rfl | hu
   ·exact hs75
   ·simp[z1b]at hu;omega
  have z1:=zqj fs hP hd hz hk hk75;rcases hu with rfl | hu
  ·exact z1
  ·have hd2:dep (kid c k)≠0:=fun h=>nodep _ s h hu;obtain⟨k2,hk2,hu2⟩:=(zdf hd2 hs75).1 hu;have hk75':kid (kid c k) k2<75:=by
    rcases hu2 with rfl | hu2
    ·exact hs75
    ·simp[z1b]at hu2;omega
   have z2:=zqj fs (fun s hs=>hP s (zcf hd hk hk75 hs)) hd2 z1 hk2 hk75';rcases hu2 with rfl | hu2
   ·exact z2
   ·have e1:=zjq hd hk hk75;have e2:=zjq hd2 hk2 hk75';have:dep c≤2:=by rcases dep_cases hd with rfl | rfl | rfl<;>decide
    exact absurd hu2 fun h=>nodep _ s (by omega) h
theorem zqk(fs:FS g V T P)(hP:∀s,z1s c s→P ii s=T ii s)(hz:T ii c=0):Trim g V T P ii c from' V T P:=by
 have z:=zz8 fs hz hP;refine⟨fs,fun j s _=>?_,fun _ _ _=>rfl,fun s hs _=>?_,fun s _ _ _=>rfl,fun s hs _ _=>z s hs,fun _ _ _ _=>rfl,Lab.rfl' _,z4q V,XtT.rfl'⟩
 ·split
  ·rename_i h;obtain⟨rfl,h⟩:=h;exact hP s (.inr h)
  ·rfl
 ·rw[z s hs];split<;>rfl
theorem Trim.nz(h:Trim g V T P ii c from' V1 T1 P1)(j s:Nat)(hd:dep s=0)(hz:T1 j s≠0):T1 j s=T j s:=by
 by_cases e:j=ii∧z1s c s
 ·obtain⟨rfl,e⟩:=e;have:=h.leaf s e hd
  rw[this]at hz ⊢;split
  ·rename_i h1;rw[if_pos h1]at hz;exact absurd rfl hz
  ·rfl
 ·exact h.same j s e
theorem TLoop.nz(h:TLoop g V T P ii c from' k V1 T1 P1)(s:Nat)(hz:T1 ii s≠0):T1 ii s=T ii s:=by
 by_cases h75:s<75
 case neg=>exact absurd (h.fs.out _ _ (by omega)) hz
 by_cases hu:∃i,i<k∧z1s (kid c i) s
 case neg=>exact h.same ii s fun x=>hu x.2
 by_cases hd:dep s=0
 ·have:=h.leaf s h75 hu hd
  rw[this]at hz ⊢;split
  ·rename_i h1;rw[if_pos h1]at hz;exact absurd rfl hz
  ·rfl
 ·by_cases hx:∃j,j<32∧T1 ii (kid s j)≠0
  ·exact h.some s h75 hu hd hx
  ·exact absurd (h.none s h75 hu hd fun j hj=>Decidable.byContradiction fun c=>hx ⟨j,hj,c⟩) hz
theorem zvs(fs:FS g V T P):TLoop g V T P ii c from' 0 V T P:=by
 refine⟨fs,fun j s _=>?_,fun _ _ _=>rfl,fun s _ h=>?_,fun s _ h=>?_,fun s _ h=>?_,fun _ _ _ _=>rfl,Lab.rfl' _,z4q V,XtT.rfl'⟩
 ·rw[if_neg];rintro⟨_,i,hi,_⟩
  omega
 all_goals
  obtain⟨i,hi,_⟩:=h;omega
theorem zz9(h:TLoop g V T P ii c from' k V1 T1 P1)(hk:¬kid c k<75):TLoop g V T P ii c from' (k+1) V1 T1 P1:=by
 have nb:∀s,¬z1b (kid c k) s:=fun s hb=>by simp[z1b]at hb;omega
 have e1:∀s,(∃i,i<k+1∧z1b (kid c i) s)↔∃i,i<k∧z1b (kid c i) s:=fun s=>by
  constructor
  ·rintro⟨i,hi,hb⟩
   exact⟨i,by
    rcases Nat.lt_or_eq_of_le (Nat.lt_succ_iff.1 hi)with h | rfl
    ·exact h
    ·exact absurd hb (nb s),hb⟩
  ·rintro⟨i,hi,hb⟩
   exact⟨i,by omega,hb⟩
 have e2:∀s,s<75→(∃i,i<k+1∧z1s (kid c i) s)→∃i,i<k∧z1s (kid c i) s:=fun s hs=>by
  rintro⟨i,hi,hb⟩
  refine⟨i,?_,hb⟩;rcases Nat.lt_or_eq_of_le (Nat.lt_succ_iff.1 hi)with h | rfl
  ·exact h
  ·rcases hb with rfl | hb
   ·omega
   ·exact absurd hb (nb s)
 refine⟨h.fs,fun j s hs=>?_,fun j s hs=>?_,fun s hs hu=>h.leaf s hs (e2 s hs hu),fun s hs hu=>h.some s hs (e2 s hs hu),fun s hs hu=>h.none s hs (e2 s hs hu),h.bk,h.lab,h.kp,h.xt⟩
 ·rw[h.p j s hs];simp only[e1 s]
 ·exact h.same j s fun x=>hs ⟨x.1,by
   obtain⟨i,hi,hb⟩:=x.2;exact⟨i,by omega,hb⟩⟩
theorem zno(h:TLoop g V T P ii c from' k V1 T1 P1)(hd:dep c≠0)(hk:k<32)(hk75:kid c k<75)(R:Trim g V1 T1 P1 ii (kid c k) from' V2 T2 P2):TLoop g V T P ii c from' (k+1) V2 T2 P2:=by
 have cs:∀{φ:Nat→Prop},(∃i,i<k+1∧φ i)→φ k∨∃i,i<k∧φ i:=by
  rintro φ ⟨i,hi,hφ⟩
  rcases Nat.lt_or_eq_of_le (Nat.lt_succ_iff.1 hi)with h1 | rfl
  ·exact .inr ⟨i,h1,hφ⟩
  ·exact .inl hφ
 have old:∀s,s<75→z1s (kid c k) s→¬ ∃i,i<k∧z1s (kid c i) s:=by
  rintro s hs hu ⟨i,hi,hu'⟩
  have:=zcp hd hk (by omega) hs hu hu'
  omega
 have oldB:∀s,z1s (kid c k) s→T1 ii s=T ii s:=fun s hu=>h.same ii s fun x=>old s (by
  rcases hu with rfl | hu
  ·exact hk75
  ·exact z4n hu) hu x.2
 have new:∀s,s<75→(∃i,i<k∧z1s (kid c i) s)→T2 ii s=T1 ii s:=fun s hs hu=>R.same ii s fun x=>old s hs x.2 hu;have newK:∀s,s<75→(∃i,i<k∧z1s (kid c i) s)→dep s≠0→∀j,j<32→T2 ii (kid s j)=T1 ii (kid s j):=fun s hs hu hds j hj=>by
  by_cases h75:kid s j<75
  ·obtain⟨i,hi,hu⟩:=hu;exact new _ h75 ⟨i,hi,.inr (zqi hu hds hj h75)⟩
  ·rw[R.fs.out _ _ (by omega),h.fs.out _ _ (by omega)]
 refine⟨R.fs,fun j s hs=>?_,fun j s hs=>?_,fun s hs hu hds=>?_,fun s hs hu hds hx=>?_,fun s hs hu hds hx=>?_,fun j s hds hz=>?_,h.lab.trans R.lab,h.kp.trans R.kp,h.xt.trans R.xt h.nz⟩
 ·rw[R.p j s hs];by_cases e:j=ii∧z1b (kid c k) s
  ·rw[if_pos e,if_pos ⟨e.1,k,by omega,e.2⟩]
  ·rw[if_neg e,h.p j s hs];by_cases e2:j=ii∧∃i,i<k∧z1b (kid c i) s
   ·obtain⟨rfl,i,hi,hb⟩:=e2;rw[if_pos ⟨rfl,i,hi,hb⟩,if_pos ⟨rfl,i,by omega,hb⟩];exact(new s (z4n hb) ⟨i,hi,.inr hb⟩).symm
   ·rw[if_neg e2,if_neg];rintro⟨h1,h2⟩
    rcases cs h2 with h3 | h3
    ·exact e ⟨h1,h3⟩
    ·exact e2 ⟨h1,h3⟩
 ·rw[R.same j s fun x=>hs ⟨x.1,k,by omega,x.2⟩];exact h.same j s fun x=>hs ⟨x.1,by
   obtain⟨i,hi,hb⟩:=x.2;exact⟨i,by omega,hb⟩⟩
 ·rcases cs hu with hu | hu
  ·rw[R.leaf s hu hds,oldB s hu]
  ·rw[new s hs hu];exact h.leaf s hs hu hds
 ·rcases cs hu with hu | hu
  ·rw[R.some s hu hds hx,oldB s hu]
  ·rw[new s hs hu];refine h.some s hs hu hds ?_;obtain⟨j,hj,hx⟩:=hx;exact⟨j,hj,by rwa [newK s hs hu hds j hj]at hx⟩
 ·rcases cs hu with hu | hu
  ·exact R.none s hu hds hx
  ·rw[new s hs hu];exact h.none s hs hu hds fun j hj=>by rw[←newK s hs hu hds j hj];exact hx j hj
 ·rw[R.bk j s hds hz];have:=R.nz j s hds hz
  exact h.bk j s hds (by rw[←this];exact hz)
section
variable(h:TLoop g V T P ii c from' 32 V2 T2 P2)(hd:dep c≠0)(hc:c<75)
include h hd hc
theorem zjz:T2 ii c=T ii c:=h.same ii c fun x=>by
 obtain⟨i,hi,hu⟩:=x.2;exact z12q hd hi hc hu
theorem tl_p(j t:Nat)(ht:t<76)(e:j=ii→∀k,k<32→t≠kid c k∨t=75):z3j P T2 ii c j t=P2 j t:=by
 have _:=hc;rw[h.p j t ht];unfold z3j;by_cases hb:j=ii∧z1b c t
 ·obtain⟨rfl,hb⟩:=hb;have h75:=z4n hb;obtain⟨k,hk,hu⟩:=(zdf hd h75).1 hb;have:z1b (kid c k) t:=by
   rcases hu with hu | hu
   ·rcases e rfl k hk with h1 | h1
    ·exact absurd hu h1
    ·omega
   ·exact hu
  rw[if_pos ⟨rfl,hb⟩,if_pos ⟨rfl,k,hk,this⟩]
 ·rw[if_neg hb,if_neg];rintro⟨h1,k,hk,h2⟩
  exact hb ⟨h1,z5y hd hk h2⟩
theorem znp(hp:P ii 75=0){j:Nat}(hj:j<32):z3j P T2 ii c ii (kid c j)=T2 ii (kid c j):=by
 have _:=hc;unfold z3j;by_cases h75:kid c j<75
 ·rw[if_pos ⟨rfl,z4b hd hj h75⟩]
 ·have e:kid c j=75:=by have:=z82 c hj;omega
  rw[e,if_neg (by simp[z1b]),hp,h.fs.out ii 75 (by omega)]
theorem zxa(fs:FS g V T P)(j s:Nat)(hs:¬(j=ii∧z1s c s)):T2 j s=T j s:=by
 have _:=hc;by_cases h75:s<75
 ·refine h.same j s fun x=>hs ⟨x.1,?_⟩;obtain⟨i,hi,hu⟩:=x.2;have hk:kid c i<75:=by
   rcases hu with rfl | hu
   ·exact h75
   ·simp[z1b]at hu;omega
  exact zcf hd hi hk hu
 ·rw[h.fs.out _ _ (by omega),fs.out _ _ (by omega)]
theorem zbv(s:Nat)(hs:z1b c s):∃i,i<32∧z1s (kid c i) s:=by
 have _:=h;have _:=hc;exact(zdf hd (z4n hs)).1 hs
theorem zql(fs:FS g V T P){V3:VolS}(fs3:FS g V3 T2 (z3j P T2 ii c))(hx:∃j,j<32∧T2 ii (kid c j)≠0)(hbk:∀j s,dep s=0→bk g V3 (T2 j s)=bk g V2 (T2 j s))(hlab:Lab V2.n.m V3.n.m)(hkp:Keeps V2 V3)(hxt:XtT g ii V2 T2 V3 T2):Trim g V T P ii c from' V3 T2 (z3j P T2 ii c):=by
 refine⟨fs3,fun j s _=>rfl,zxa h hd hc fs,fun s hu hds=>?_,fun s hu hds hx=>?_,fun s hu hds hx'=>?_,fun j s hds hz=>?_,h.lab.trans hlab,h.kp.trans hkp,h.xt.trans hxt h.nz⟩
 ·rcases hu with rfl | hu
  ·exact absurd hds hd
  ·exact h.leaf s (z4n hu) (zbv h hd hc s hu) hds
 ·rcases hu with rfl | hu
  ·exact zjz h hd hc
  ·exact h.some s (z4n hu) (zbv h hd hc s hu) hds hx
 ·rcases hu with rfl | hu
  ·obtain⟨j,hj,hx⟩:=hx;exact absurd (hx' j hj) hx
  ·exact h.none s (z4n hu) (zbv h hd hc s hu) hds hx'
 ·rw[hbk j s hds];exact h.bk j s hds hz
theorem z12r(fs:FS g V T P)(hx:∃j,j<32∧T2 ii (kid c j)≠0)(heq:∀j,j<32→T2 ii (kid c j)=P ii (kid c j)):Trim g V T P ii c from' V2 T2 (z3j P T2 ii c):=by
 refine zql h hd hc fs (h.fs.congr fun i s hds j hj=>?_) hx (fun _ _ _=>rfl) (Lab.rfl' _) (z4q _) XtT.rfl';by_cases e:i=ii∧s=c
 ·obtain⟨rfl,rfl⟩:=e;rw[znp h hd hc (fs.pout i) hj,heq j hj,h.p _ _ (z82 _ hj),if_neg];rintro⟨_,i',hi',hb⟩
  exact zqe hd hi' hj hb
 ·refine tl_p h hd hc i _ (z82 _ hj) fun ei k hk=>?_;apply Decidable.byContradiction;intro hn;rw[not_or]at hn;have h1:=Decidable.not_not.1 hn.1;have h2:=z82 s hj;exact e ⟨ei,(zjp hds hd hj hk (by omega) h1).1⟩
theorem zza(hg:g.ok)(fs:FS g V T P)(hz:T ii c≠0)(hx:∃j,j<32∧T2 ii (kid c j)≠0):Trim g V T P ii c from' (V2.write g (T ii c - 1) (tabB (z2s (T2 ii) c))) T2 (z3j P T2 ii c):=by
 have e1:=zjz h hd hc;have hz2:T2 ii c≠0:=by rw[e1];exact hz
 have ek:z2s (T2 ii) c=z2s (z3j P T2 ii c ii) c:=zjo fun j hj=>(znp h hd hc (fs.pout ii) hj).symm;rw[←e1,ek];refine zql h hd hc fs (h.fs.wtab hg hd hz2 (fun k hk=>?_) fun j t ht e=>tl_p h hd hc j t ht e) hx (fun j s hds=>?_) (Lab.rfl' _) (zca _ _ _) (zpv hz2 _)
 ·rw[znp h hd hc (fs.pout ii) hk];exact h.fs.num hg _ _
 ·rw[zgt h.fs hz2,if_neg];rintro⟨_,rfl⟩
  exact hd hds
theorem z12s(hg:g.ok)(fs:FS g V T P)(hz:T ii c≠0)(hx:∀j,j<32→T2 ii (kid c j)=0):Trim g V T P ii c from' (V2.free g (T ii c - 1)) (put T2 ii c 0) (z3j P T2 ii c):=by
 have e1:=zjz h hd hc;have hz2:T2 ii c≠0:=by rw[e1];exact hz
 rw[←e1];have f3:=h.fs.free hg hz2 (P':=z3j P T2 ii c) (fun _ j hj=>by rw[znp h hd hc (fs.pout ii) hj];exact hx j hj) fun j t ht e=>tl_p h hd hc j t ht fun ej=>e hd ej;have pne:∀j s,¬(j=ii∧s=c)→put T2 ii c 0 j s=T2 j s:=fun j s hs=>by unfold put;rw[if_neg hs]
 have pkid:∀s j,z1s c s→dep s≠0→j<32→put T2 ii c 0 ii (kid s j)=T2 ii (kid s j):=fun s j hu hds hj=>pne _ _ fun x=>by
  have hk:kid s j=c:=x.2;by_cases h75:kid s j<75
  ·have:=zqi hu hds hj h75
   rw[hk]at this;exact z6p _ this
  ·omega
 refine⟨f3,fun j s hs=>?_,fun j s hs=>?_,fun s hu hds=>?_,fun s hu hds hx'=>?_,fun s hu hds hx'=>?_,fun j s hds hz'=>?_,?_,h.kp.trans (zmz _ _ _),h.xt.trans (ztb h.fs hg hz2) h.nz⟩
 ·unfold z3j;split
  ·rename_i hb;obtain⟨rfl,hb⟩:=hb;rw[pne];rintro⟨_,rfl⟩
   exact z6p _ hb
  ·rfl
 ·rw[pne _ _ fun x=>hs ⟨x.1,.inl x.2⟩];exact zxa h hd hc fs j s hs
 ·rcases hu with rfl | hu
  ·exact absurd hds hd
  ·rw[pne _ _ (by rintro⟨_,rfl⟩;exact z6p _ hu)];exact h.leaf s (z4n hu) (zbv h hd hc s hu) hds
 ·obtain⟨j,hj,hx'⟩:=hx';rw[pkid s j hu hds hj]at hx';rcases hu with rfl | hu
  ·exact absurd (hx j hj) hx'
  ·rw[pne _ _ (by rintro⟨_,rfl⟩;exact z6p _ hu)];exact h.some s (z4n hu) (zbv h hd hc s hu) hds ⟨j,hj,hx'⟩
 ·rcases hu with rfl | hu
  ·unfold put;rw[if_pos ⟨rfl,rfl⟩]
  ·rw[pne _ _ (by rintro⟨_,rfl⟩;exact z6p _ hu)];exact h.none s (z4n hu) (zbv h hd hc s hu) hds fun j hj=>by rw[←pkid s j (.inr hu) hds hj];exact hx' j hj
 ·have hne:¬(j=ii∧s=c):=by
   rintro⟨_,rfl⟩
   exact hd hds
  rw[pne _ _ hne]at hz' ⊢;rw[zwu h.fs hz2 hne];exact h.bk j s hds hz'
 ·have hb:=h.fs.le ii c;exact h.lab.trans (zt9 hg h.fs.ok.inv (by omega) (h.fs.used ii c hz2))
end
theorem z12t(hg:g.ok)(fs:FS g V T P)(hd:dep c=0)(hz:T ii c≠0)(hf:from'≤fst' c):Trim g V T P ii c from' (V.free g (T ii c - 1)) (put T ii c 0) P:=by
 have nb:∀s,¬z1b c s:=fun s hb=>by
  simp[z1b]at hb;rcases hb with⟨rfl,_⟩ | ⟨rfl,_⟩ | ⟨rfl,_⟩<;>simp[dep]at hd
 have pne:∀j s,¬(j=ii∧s=c)→put T ii c 0 j s=T j s:=fun j s hs=>by unfold put;rw[if_neg hs]
 refine⟨fs.free hg hz (fun h=>absurd hd h) fun _ _ _ _=>rfl,fun j s _=>?_,fun j s hs=>pne j s fun x=>hs ⟨x.1,.inl x.2⟩,fun s hu _=>?_,fun s hu hds=>?_,fun s hu hds=>?_,fun j s hds hz'=>?_,?_,zmz _ _ _,ztb fs hg hz⟩
 ·rw[if_neg fun x=>nb s x.2]
 ·rcases hu with rfl | hu
  ·rw[if_pos hf];unfold put;rw[if_pos ⟨rfl,rfl⟩]
  ·exact absurd hu (nb s)
 ·rcases hu with rfl | hu
  ·exact absurd hd hds
  ·exact absurd hu (nb s)
 ·rcases hu with rfl | hu
  ·exact absurd hd hds
  ·exact absurd hu (nb s)
 ·by_cases e:j=ii∧s=c
  ·obtain⟨rfl,rfl⟩:=e;unfold put at hz';rw[if_pos ⟨rfl,rfl⟩]at hz';exact absurd rfl hz'
  ·rw[pne j s e,zwu fs hz e]
 ·have hb:=fs.le ii c;exact zt9 hg fs.ok.inv (by omega) (fs.used ii c hz)
theorem z12u(fs:FS g V T P)(hP:∀s,z1s c s→P ii s=T ii s)(hd:dep c=0)(hf:fst' c<from'):Trim g V T P ii c from' V T P:=by
 have nb:∀s,¬z1b c s:=fun s hb=>by
  simp[z1b]at hb;rcases hb with⟨rfl,_⟩ | ⟨rfl,_⟩ | ⟨rfl,_⟩<;>simp[dep]at hd
 refine⟨fs,fun j s _=>?_,fun _ _ _=>rfl,fun s hu _=>?_,fun s hu hds=>?_,fun s hu hds=>?_,fun _ _ _ _=>rfl,Lab.rfl' _,z4q V,XtT.rfl'⟩
 ·rw[if_neg fun x=>nb s x.2]
 ·rcases hu with rfl | hu
  ·rw[if_neg (by omega)]
  ·exact absurd hu (nb s)
 ·rcases hu with rfl | hu
  ·exact absurd hd hds
  ·exact absurd hu (nb s)
 ·rcases hu with rfl | hu
  ·exact absurd hd hds
  ·exact absurd hu (nb s)
end
end Go.Moat

/- Layer 16: blocks are let go. -/
namespace Go.Moat
open Go.Mini
section
variable{N:Nat}{β:Type}{l:List HA}{S:β→HA}{v d o:Nat}{g:Geo}{V:VolS}{T P:z0q}{ii c a from':Nat}{n:Ino}{s t:Sl}{i:Int}{A B:HA}{xs ys:List Nat}
theorem zlk{xs:List Nat}{j:Nat}(h:j<xs.length):(z1c xs)[j]? = some (.int .i64 (xs[j]:Nat)):=by simp[z1w,h]
theorem zr4(hr:RdC A s 1 (z1c xs))(h64:xs.length≤64)(hN:100<N):Tri (z00 [A]) (F_35 N s ()) fun r=>pu ((r=true→∃j,j<xs.length∧xs[j]?.getD 0≠0)∧(r=false→∀j,j<xs.length→xs[j]?.getD 0=0)) (z00 [A]):=by
 have hlen:s.len=xs.length:=by have:=hr.1;rw[z1n]at this;omega
 have loop:∀(K k:Nat),xs.length - k<K→k≤xs.length→(∀j,j<k→xs[j]?.getD 0=0)→Tri (z00 [A]) (z0e K (F_3s N s) (k:Int)) fun r=>pu (match r with
   | .inl _=>∀j,j<xs.length→xs[j]?.getD 0=0
   | .inr x=>0≤x∧∃j,j<xs.length∧xs[j]?.getD 0≠0) (z00 [A]):=by
  intro K;induction K with
  | zero=>intro k h;omega
  | succ K ih=>
   intro k h hk hz;rw[z13];generalize z0e K (F_3s N s)=go at ih ⊢;unfold F_3s;by_cases hkl:k<xs.length
   ·refine z07 (by simp[hlen];omega) ?_;refine z2a 0 rfl hr (i:=k) (k :=.i64) (v:=(xs[k]:Nat)) (zlk hkl) ?_;unfold F_4k;refine z0j ?_;by_cases h0:xs[k]=0
    ·refine z05 (by simp[h0]) ?_;rw[z09 (by omega) (by omega)];refine ih (k+1) (by omega) (by omega) fun j hj=>?_;by_cases e:j=k
     ·subst e;rw[List.getElem?_eq_getElem hkl];exact h0
     ·exact hz j (by omega)
    ·refine z07 (by simp;omega) (z03 [0] fun q hq=>⟨⟨by omega,k,hkl,?_⟩,hq⟩);rw[List.getElem?_eq_getElem hkl];exact h0
   ·obtain rfl:k=xs.length:=by omega
    exact z05 (by simp[hlen]) (z03 [0] fun q hq=>⟨hz,hq⟩)
 unfold F_35 F_4l;refine z02 [0] (Q:=fun r:Int=>pu ((0≤r→∃j,j<xs.length∧xs[j]?.getD 0≠0)∧(r<0→∀j,j<xs.length→xs[j]?.getD 0=0)) (z00 [A])) ?_ fun r3=>z04 fun h3=>z01 ?_
 ·refine z02 [0] (loop N 0 (by omega) (by omega) fun j hj=>by omega) fun r=>z04 fun hr=>z01 ?_;cases r with
  | inl _=>exact z03 [0] fun q hq=>⟨⟨fun h=>absurd h (by decide),fun _=>hr⟩,hq⟩
  | inr x=>exact z03 [0] fun q hq=>⟨⟨fun _=>hr.2,fun h=>absurd hr.1 (by omega)⟩,hq⟩
 ·refine z03 [0] fun q hq=>⟨⟨fun h=>h3.1 (by simpa using h),fun h=>h3.2 (by simpa using h)⟩,hq⟩
theorem zzb(hr:RdC A s 1 (z1c xs))(ht:RdC B t 1 (z1c ys))(hxy:xs.length=ys.length)(h64:xs.length≤64)(hN:100<N):Tri (z00 [A,B]) (F_36 N s t) fun r=>pu (r=true→∀j,j<xs.length→xs[j]?.getD 0=ys[j]?.getD 0) (z00 [A,B]):=by
 have hlen:s.len=xs.length:=by have:=hr.1;rw[z1n]at this;omega
 have hlen2:t.len=ys.length:=by have:=ht.1;rw[z1n]at this;omega
 have loop:∀(K k:Nat),xs.length - k<K→k≤xs.length→(∀j,j<k→xs[j]?.getD 0=ys[j]?.getD 0)→Tri (z00 [A,B]) (z0e K (F_3t N s t) (k:Int)) fun r=>pu (match r with
   | .inl _=>∀j,j<xs.length→xs[j]?.getD 0=ys[j]?.getD 0
   | .inr x=>x=false) (z00 [A,B]):=by
  intro K;induction K with
  | zero=>intro k h;omega
  | succ K ih=>
   intro k h hk hz;rw[z13];generalize z0e K (F_3t N s t)=go at ih ⊢;unfold F_3t;by_cases hkl:k<xs.length
   ·have hkl2:k<ys.length:=by omega
    refine z07 (by simp[hlen];omega) ?_;refine z2a 0 rfl hr (i:=k) (k :=.i64) (v:=(xs[k]:Nat)) (zlk hkl) ?_;refine z2a 1 rfl ht (i:=k) (k :=.i64) (v:=(ys[k]:Nat)) (zlk hkl2) ?_;by_cases h0:xs[k]=ys[k]
    ·refine z05 (by simp[h0]) ?_;rw[z09 (by omega) (by omega)];refine ih (k+1) (by omega) (by omega) fun j hj=>?_;by_cases e:j=k
     ·subst e;rw[List.getElem?_eq_getElem hkl,List.getElem?_eq_getElem hkl2];exact h0
     ·exact hz j (by omega)
    ·exact z07 (by simp;omega) (z03 [0,0] fun q hq=>⟨rfl,hq⟩)
   ·obtain rfl:k=xs.length:=by omega
    exact z05 (by simp[hlen]) (z03 [0,0] fun q hq=>⟨hz,hq⟩)
 unfold F_36;refine z05 (by simp;omega) ?_;refine z02 [0,0] (loop N 0 (by omega) (by omega) fun j hj=>by omega) fun r=>z04 fun hr=>z01 ?_;cases r with
 | inl _=>exact z03 [0,0] fun q hq=>⟨fun _=>hr,hq⟩
 | inr x=>exact z03 [0,0] fun q hq=>⟨fun h=>absurd (Eq.trans (show x=false from hr).symm h) (by decide),hq⟩
def zee(T0 T1:z0q)(ii c k:Nat):List Nat:=(List.range 32).map fun j=>if j<k then T1 ii (kid c j)else T0 ii (kid c j)
theorem z7z(T0 T1:z0q)(ii c k:Nat):(zee T0 T1 ii c k).length=32:=by simp[zee]
theorem zhc(T0 T1:z0q)(ii c k:Nat){j:Nat}(h:j<32):(zee T0 T1 ii c k)[j]? = some (if j<k then T1 ii (kid c j)else T0 ii (kid c j)):=by simp[zee,h]
theorem z15v(T0 T1:z0q)(ii c:Nat):zee T0 T1 ii c 32=z2s (T1 ii) c:=List.map_congr_left fun j hj=>by rw[if_pos (List.mem_range.1 hj)]
theorem zud{T0 T1 T2:z0q}{k:Nat}(hk:k<32)(h:∀j,j<k→T2 ii (kid c j)=T1 ii (kid c j)):(zee T0 T1 ii c k).set k (T2 ii (kid c k))=zee T0 T2 ii c (k+1):=by
 apply List.ext_getElem?;intro j;rw[List.getElem?_set];by_cases hj:j<32
 ·rw[zhc _ _ _ _ _ hj,zhc _ _ _ _ _ hj];by_cases e:k=j
  ·subst e;rw[if_pos rfl,if_pos (by rw[z7z];exact hj),if_pos (by omega)]
  ·rw[if_neg e];by_cases h1:j<k
   ·rw[if_pos h1,if_pos (by omega),h j h1]
   ·rw[if_neg h1,if_neg (by omega)]
 ·rw[List.getElem?_eq_none (by rw[z7z];omega),List.getElem?_eq_none (by rw[z7z];omega),if_neg (by omega)]
abbrev zew(N:Nat):=fun(self:(Option MA×Int×Int×Int×Int)→M (Int×Int))(v:Option MA×Int×Int×Int×Int)=>F_10 N self v.1 v.2.1 v.2.2.1 v.2.2.2.1 v.2.2.2.2
theorem znq(K:Nat)(p:Option MA)(a b e:Int):z0e (K+1) (zew N) (p,0,a,b,e)=ret (0,0):=by
 rw[z13];unfold zew F_10;rw[if_pos (by simp)]
theorem z12v(hg:g.ok)(hN:5000<N){c:Nat}(hd:dep c≠0)(hc:c<75)(fs:FS g V T P)(hP:∀s,z1s c s→P ii s=T ii s){self:(Option MA×Int×Int×Int×Int)→M (Int×Int)}{r:Sl×Int}{Tw:HA}
  (h0:∀p a b e,self (p,0,a,b,e)=ret (0,0))
  (hs:∀(c':Nat)(V:VolS)(T P:z0q),dep c'+1=dep c→FS g V T P→(∀s,z1s c' s→P ii s=T ii s)→T ii c'≠0→Tri (z00 [z0l v d g V,pts o (.cells (z1k v i n a) false)]) (self (some ⟨o,0⟩,(T ii c':Int),(dep c':Int),(fst' c':Int),(from':Int))) fun r=>exA fun x:VolS×z0q×z0q=>pu (r=(((x.2.1 ii c':Nat):Int),(0:Int))∧Trim g V T P ii c' from' x.1 x.2.1 x.2.2) (z00 [z0l v d g x.1,pts o (.cells (z1k v i n a) false)])) :
  ∀(K k:Nat)(V1:VolS)(T1 P1:z0q),32 - k<K→k≤32→TLoop g V T P ii c from' k V1 T1 P1 →
  Tri (z00 [z06 r.1 1 (z1c (zee T T1 ii c k)),z0l v d g V1,pts o (.cells (z1k v i n a) false),Tw]) (z0e K (F_3u N (some ⟨o,0⟩) (dep c:Int) (fst' c:Int) (from':Int) self r (z5p c:Int)) (k:Int)) fun r'=>exA fun x:VolS×z0q×z0q=>pu (r' = .inl ()∧TLoop g V T P ii c from' 32 x.1 x.2.1 x.2.2) (z00 [z06 r.1 1 (z1c (z2s (x.2.1 ii) c)),z0l v d g x.1,pts o (.cells (z1k v i n a) false),Tw]):=by
 intro K;induction K with
 | zero=>intro k V1 T1 P1 h;omega
 | succ K ih=>
  intro k V1 T1 P1 h hk hL;rw[z13];generalize z0e K (F_3u N (some ⟨o,0⟩) (dep c:Int) (fst' c:Int) (from':Int) self r (z5p c:Int))=go at ih ⊢;unfold F_3u;refine z0c 0 rfl fun lr=>?_;rw[z1n,z7z]at lr;by_cases hkl:k<32
  case neg=>
   obtain rfl:k=32:=by omega
   rw[z15v];exact z05 (by simp;omega) (z03 [0,0,0,0] fun q hq=>⟨(V1,T1,P1),⟨rfl,hL⟩,hq⟩)
  refine z07 (by simp;omega) ?_;have hgt:(z1c (zee T T1 ii c k))[k]? = some (.int .i64 (T ii (kid c k):Nat)):=by
   have:=zhc T T1 ii c k hkl
   rw[if_neg (by omega)]at this;simp only[z1w,List.getElem?_map,this];rfl
  refine z2a 0 rfl (z0k (by rw[z1n,z7z];exact lr)) (i:=k) (k :=.i64) hgt ?_;have e75:=z82 c hkl;by_cases hz:T ii (kid c k)=0
  ·have e0:((0:Nat):Int)=0:=rfl;rw[hz,e0,h0];refine z0j ?_;refine zea 0 rfl (k:=k) (x:=0) (by rw[z7z];exact hkl) ?_;refine z05 (by simp) ?_;rw[z09 (by omega) (by omega)];have hT1:T1 ii (kid c k)=0:=by
    by_cases h75:kid c k<75
    ·rw[hL.same ii _ fun x=>by
      obtain⟨i,hi,hu⟩:=x.2;have:=zcp hd hkl (by omega) h75 (.inl rfl) hu
      omega]
     exact hz
    ·exact hL.fs.out _ _ (by omega)
   have hL':TLoop g V T P ii c from' (k+1) V1 T1 P1:=by
    by_cases h75:kid c k<75
    ·refine zno hL hd hkl h75 (zqk hL.fs (fun s hu=>?_) hT1);have hs75:s<75:=by
      rcases hu with rfl | hu
      ·exact h75
      ·exact z4n hu
     have hno:¬ ∃i,i<k∧z1s (kid c i) s:=by
      rintro⟨i,hi,hu'⟩
      have:=zcp hd hkl (by omega) hs75 hu hu'
      omega
     rw[hL.p ii s (by omega),if_neg,hL.same ii s fun x=>hno x.2]
     ·exact hP s (zcf hd hkl h75 hu)
     ·rintro⟨_,i,hi,hb⟩
      exact hno ⟨i,hi,.inr hb⟩
    ·exact zz9 hL h75
   have el:=zud (T0:=T) (T1:=T1) (T2:=T1) (ii:=ii) (c:=c) hkl fun _ _=>rfl;rw[hT1]at el;rw[el];exact z1u [0,0,0,0] (ih (k+1) V1 T1 P1 (by omega) (by omega) hL')
  ·have h75:kid c k<75:=fs.pos hz;have z4y:∀s,z1s (kid c k) s→T1 ii s=T ii s∧P1 ii s=P ii s:=fun s hu=>by
    have hs75:s<75:=by
     rcases hu with rfl | hu
     ·exact h75
     ·exact z4n hu
    have hno:¬ ∃i,i<k∧z1s (kid c i) s:=by
     rintro⟨i,hi,hu'⟩
     have:=zcp hd hkl (by omega) hs75 hu hu'
     omega
    refine⟨hL.same ii s fun x=>hno x.2,?_⟩;rw[hL.p ii s (by omega),if_neg];rintro⟨_,i,hi,hb⟩
    exact hno ⟨i,hi,.inr hb⟩
   have hT1:=(z4y _ (.inl rfl)).1;have ed:=zjq hd hkl h75;have ef:=z181 hd hkl h75;have ex:z5p c≤32:=by unfold z5p;split<;>omega
   have hf:fst' c≤75:=by unfold fst';(repeat' split)<;>omega
   have hd2:dep c≤2:=by rcases dep_cases hd with rfl | rfl | rfl<;>decide
   have hmul:k * z5p c≤31 * 32:=Nat.mul_le_mul (by omega) ex;have a1:wr .i64 ((dep c:Int) - 1)=((dep (kid c k):Nat):Int):=by rw[z09 (by omega) (by omega)];omega
   have a2:wr .i64 ((k:Int) * (z5p c:Int))=((k * z5p c:Nat):Int):=by
    rw[show(k:Int) * (z5p c:Int)=((k * z5p c:Nat):Int) by simp,z09 (by omega) (by omega)]
   have a3:wr .i64 ((fst' c:Int)+((k * z5p c:Nat):Int))=((fst' (kid c k):Nat):Int):=by
    rw[ef,z09 (by omega) (by omega)];omega
   rw[a1,a2,a3,←hT1];refine z02 [1,1] (hs (kid c k) V1 T1 P1 (by omega) hL.fs (fun s hu=>by
    obtain⟨e1,e2⟩:=z4y s hu;rw[e1,e2];exact hP s (zcf hd hkl h75 hu)) (by rw[hT1];exact hz)) fun r17=>z12 fun x=>z04 fun h17=>z01 ?_
   obtain⟨V2,T2,P2⟩:=x;obtain⟨h17,R⟩:=h17;have R:Trim g V1 T1 P1 ii (kid c k) from' V2 T2 P2:=R;subst h17;dsimp only[sel,rem,nth,del,cat,upd];refine zea 2 rfl (k:=k) (x:=T2 ii (kid c k)) (by rw[z7z];exact hkl) ?_;refine z05 (by simp) ?_;rw[z09 (by omega) (by omega)];have el:=zud (T0:=T) (T1:=T1) (T2:=T2) (ii:=ii) (c:=c) hkl fun j hj=>by
    by_cases h75':kid c j<75
    ·refine R.same ii _ fun x=>?_;have:=zcp hd (k':=k) (by omega) hkl h75' (.inl rfl) x.2
     omega
    ·have:=z82 c (show j<32 by omega)
     rw[R.fs.out _ _ (by omega),hL.fs.out _ _ (by omega)]
   rw[el];exact z1u [2,0,0,0] (ih (k+1) V2 T2 P2 (by omega) (by omega) (zno hL hd hkl h75 R))
end
end Go.Moat
