/- Layer 16: which blocks are taken, one behind the other. -/
import Derived.Test.YtfieiaijdalkbaaGreatP16zd
namespace Go.Moat
open Go.Mini
def gg(G:Nat):Geo:=⟨140,4,G,8⟩
theorem zc8{G:Nat}(h1:1≤G)(h2:G≤20):(gg G).ok:=by
 refine⟨show 3≤140 by omega,show 140≤1000 by omega,show 2≤4 by omega,show 4≤64 by omega,show 4%2=0 by omega,h1,show G≤64 by omega,show 1≤8 by omega,?_⟩;show 8≤512 / G;rw[Nat.le_div_iff_mul_le (by omega)];omega
theorem zt8(G:Nat):(gg G).roomy:=by
 show zys ((gg G).M+80)≤140 - 1;have:(gg G).M=5:=by
  show 3+4 / 2=5;omega
 rw[this];decide
structure AllocSt(G:Nat)(m:MetaS)(r1 r2 n1 n2:Nat):Prop where
 bits:∀b,b<8 * G→z0y m.used b=decide (b<n1∨(8 * ((n1+7) / 8)≤b∧b<8 * ((n1+7) / 8)+n2))
 own:∀k,k<G→m.own[k]?.getD 0=if k<(n1+7) / 8 then r1+1 else if k<(n1+7) / 8+(n2+7) / 8 then r2+1 else 0
 ne:r1≠r2
section
variable{G:Nat}{m:MetaS}{r1 r2 n1 n2 a:Nat}
theorem zyj(h1:1≤G)(h2:G≤20)(inv:Inv (gg G) m)(A:AllocSt G m r1 r2 n1 n2)(hr:m.rows.findIdx? (z3z a)=some r2)(ha:a<65536)(hroom:8 * ((n1+7) / 8)+n2<8 * G) :
  (m.alloc (gg G) a).1.2=0∧AllocSt G (m.alloc (gg G) a).2 r1 r2 n1 (n2+1)∧(m.alloc (gg G) a).2.rows.findIdx? (z3z a)=some r2:=by
 have hB:(gg G).B=G * 8:=rfl;have hP:(gg G).P=8:=rfl;have hul:=inv.ok.usedl;have hol:m.own.length=G:=inv.ok.ownl;have hr16:r2<m.rows.length:=(List.findIdx?_eq_some_iff_getElem.1 hr).1;have hrl:=inv.ok.rows.len;have og:∀k,k<G→m.own[k]? = some (m.own[k]?.getD 0):=fun k hk=>by
  rw[List.getElem?_eq_getElem (by omega)];rfl
 have isAt:∀b,b<8 * G→m.isAt (gg G) r2 b=decide ((8 * ((n1+7) / 8)≤b∧b<8 * ((n1+7) / 8+(n2+7) / 8))∧¬b<8 * ((n1+7) / 8)+n2):=fun b hb=>by
  unfold MetaS.isAt;rw[hP,og (b / 8) (by omega),A.own (b / 8) (by omega),A.bits b hb];have hne:=A.ne;by_cases c1:b / 8<(n1+7) / 8
  ·rw[if_pos c1];have e1:(decide (some (r1+1)=some (r2+1)))=false:=decide_eq_false (by simpa using hne);rw[e1,Bool.false_and];exact(decide_eq_false (by omega)).symm
  ·rw[if_neg c1];by_cases c2:b / 8<(n1+7) / 8+(n2+7) / 8
   ·rw[if_pos c2];have e1:(decide (some (r2+1)=some (r2+1)))=true:=decide_eq_true rfl;rw[e1,Bool.true_and];by_cases c3:b<8 * ((n1+7) / 8)+n2
    ·rw[decide_eq_true (by omega),decide_eq_false (by omega)];rfl
    ·rw[decide_eq_false (by omega),decide_eq_true (by omega)];rfl
   ·rw[if_neg c2];have e1:(decide (some 0=some (r2+1)))=false:=decide_eq_false (by simp);rw[e1,Bool.false_and];exact(decide_eq_false (by omega)).symm
 by_cases h8:n2%8=0
 ·have hat:m.atB (gg G) a=none:=by
   unfold MetaS.atB;rw[hr];dsimp only;rw[List.find?_eq_none];intro b hb;have:=List.mem_range'_1.1 hb
   rw[hB]at this;rw[isAt b (by omega)];simp only[decide_eq_true_eq];omega
  have hk0:(n1+7) / 8+n2 / 8<G:=by omega
  have hfr:m.own.findIdx? z34=some ((n1+7) / 8+n2 / 8):=by
   have oe:∀k(hk:k<m.own.length),m.own[k]=m.own[k]?.getD 0:=fun k hk=>by rw[List.getElem?_eq_getElem hk];rfl
   refine List.findIdx?_eq_some_iff_getElem.2 ⟨by omega,?_,fun j hj=>?_⟩
   ·unfold z34;rw[oe,A.own _ hk0,if_neg (by omega),if_neg (by omega)];rfl
   ·unfold z34;rw[oe,A.own j (by omega)];by_cases c1:j<(n1+7) / 8
    ·rw[if_pos c1];simp
    ·rw[if_neg c1,if_pos (by omega)];simp
  have hrn:=zec hr;have hcnt:=z1ah (zc8 h1 h2) inv.ok r2;have href:=inv.refs r2 (by omega);have hE:z3w m.rows a=0:=by
   unfold z3w;rw[hrn];dsimp only;rw[if_neg (by omega)]
  have hI:z3x m.rows a=r2:=by unfold z3x;rw[hrn];rfl
  have e:m.alloc (gg G) a=((((((n1+7) / 8+n2 / 8) * 8:Nat):Int),0),{m with rows:=z99 m.rows a,own:=m.own.set ((n1+7) / 8+n2 / 8) (r2+1),used:=z1x m.used (((n1+7) / 8+n2 / 8) * 8) true}):=by
   unfold MetaS.alloc;rw[hat];dsimp only;rw[hfr];dsimp only;rw[if_pos hE,hI,hP]
  have hok:=zju inv.ok.rows ha hE;rw[e];refine⟨rfl,⟨fun b hb=>?_,fun k hk=>?_,A.ne⟩,?_⟩
  ·show z0y (z1x m.used (((n1+7) / 8+n2 / 8) * 8) true) b=_;rw[z1y (by omega),A.bits b hb];split
   ·exact(decide_eq_true (by omega)).symm
   ·exact decide_eq_decide.2 (by omega)
  ·show(m.own.set ((n1+7) / 8+n2 / 8) (r2+1))[k]?.getD 0=_;rw[getD_set (by omega),A.own k hk];by_cases c:k=(n1+7) / 8+n2 / 8
   ·rw[if_pos c,if_neg (by omega),if_pos (by omega)]
   ·rw[if_neg c];by_cases c1:k<(n1+7) / 8
    ·rw[if_pos c1,if_pos c1]
    ·rw[if_neg c1,if_neg c1];by_cases c2:k<(n1+7) / 8+(n2+7) / 8
     ·rw[if_pos c2,if_pos (by omega)]
     ·rw[if_neg c2,if_neg (by omega)]
  ·refine zb2 hok.1 (by omega) ?_ ?_
   ·rw[hok.2.2 r2,if_pos hI.symm];omega
   ·show(z1a (z99 m.rows a) r2).1=a;unfold z99;rw[hI,zbu hr16,if_pos rfl]
 ·have hat:m.atB (gg G) a=some (8 * ((n1+7) / 8)+n2):=by
   unfold MetaS.atB;rw[hr];dsimp only;rw[List.find?_range'_eq_some,hB];refine⟨?_,List.mem_range'_1.2 (by omega),fun j hj hj2=>?_⟩
   ·rw[isAt _ (by omega)];exact decide_eq_true (by omega)
   ·rw[isAt j (by omega),Bool.not_eq_true'];exact decide_eq_false (by omega)
  have e:m.alloc (gg G) a=((((8 * ((n1+7) / 8)+n2:Nat):Int),0),{m with used:=z1x m.used (8 * ((n1+7) / 8)+n2) true}):=by
   unfold MetaS.alloc;rw[hat]
  rw[e];refine⟨rfl,⟨fun b hb=>?_,fun k hk=>?_,A.ne⟩,hr⟩
  ·show z0y (z1x m.used (8 * ((n1+7) / 8)+n2) true) b=_;rw[z1y (by omega),A.bits b hb];split
   ·exact(decide_eq_true (by omega)).symm
   ·exact decide_eq_decide.2 (by omega)
  ·show m.own[k]?.getD 0=_;rw[A.own k hk,show(n2+1+7) / 8=(n2+7) / 8 by omega]
theorem zif(h1:1≤G)(h2:G≤20)(ha:a<65536):∀(k n2:Nat)(m:MetaS),Inv (gg G) m→AllocSt G m r1 r2 n1 n2→m.rows.findIdx? (z3z a)=some r2→8 * ((n1+7) / 8)+n2+k≤8 * G→AllocSt G (z2p (gg G) a k m) r1 r2 n1 (n2+k)∧zd6 (gg G) a k m
 | 0,n2,m,inv,A,hr,hk=>⟨A,fun j hj=>by omega⟩
 | k+1,n2,m,inv,A,hr,hk=>by
  obtain⟨e1,A1,hr1⟩:=zyj h1 h2 inv A hr ha (by omega);obtain⟨A2,R2⟩:=zif h1 h2 ha k (n2+1) _ (zcy (zc8 h1 h2) inv ha) A1 hr1 (by omega);refine⟨by rw[show n2+(k+1)=n2+1+k by omega];exact A2,fun j hj=>?_⟩;match j with
  | 0=>exact e1
  | j+1=>exact R2 j (by omega)
theorem AllocSt.set(A:AllocSt G m r1 r2 n1 n2)(i:Nat)(x:Ino):AllocSt G (m.set i x) r1 r2 n1 n2:=⟨A.bits,A.own,A.ne⟩
theorem zas{g:Geo}(hg:g.ok)(ha:a<65536){r:Nat}:∀(k:Nat)(m:MetaS),Inv g m→0<(z1a m.rows r).2→(z1a (z2p g a k m).rows r).1=(z1a m.rows r).1∧0<(z1a (z2p g a k m).rows r).2
 | 0,m,_,h=>⟨rfl,h⟩
 | k+1,m,inv,h=>by
  obtain⟨e1,h1⟩:=zqf hg inv ha h;obtain⟨e2,h2⟩:=zas hg ha k _ (zcy hg inv ha) h1;exact⟨e2.trans e1,h2⟩
end
end Go.Moat

/- Layer 16: a volume with three files. -/
namespace Go.Moat
open Go.Mini
def ms(G:Nat):Nat→MetaS
 | 0=>z9a (gg G)
 | k+1=>((ms G k).make 1 (1+k%2)).2
def m3(G:Nat):MetaS:=⟨[(1,2),(2,1),(0,0),(0,0),(0,0),(0,0),(0,0),(0,0),(0,0),(0,0),(0,0),(0,0),(0,0),(0,0),(0,0),(0,0)],List.replicate G 0,z1h,[z95 1 0,z95 1 1,z95 1 0,Ino.z]⟩
theorem ms3(G:Nat):ms G 3=m3 G:=rfl
theorem z1am(G:Nat){k:Nat}(h:k<3):((ms G k).make 1 (1+k%2)).1=((k:Int),0):=by
 match k with
 | 0=>rfl
 | 1=>rfl
 | 2=>rfl
 | k+3=>omega
theorem zuj{G:Nat}(h1:1≤G)(h2:G≤20):∀k,Inv (gg G) (ms G k)
 | 0=>zeb (gg G)
 | k+1=>z15p (zc8 h1 h2) (zuj h1 h2 k) (by omega)
section
variable{N:Nat}{β:Type}{l:List HA}{S:β→HA}{v d o:Nat}{G:Nat}{V:VolS}{T:z0q}
theorem zze(h1:1≤G)(h2:G≤20)(hN:5000<N):∀(K k:Nat),3 - k<K→k≤3 →
  Tri (z00 [z0l v d (gg G) ((z7e (gg G)).wM (ms G k))]) (z0e K (F_3n N (some ⟨v,0⟩,0)) (k:Int)) fun r=>pu (r=.inl ()) (z00 [z0l v d (gg G) ((z7e (gg G)).wM (ms G 3))]):=by
 intro K;induction K with
 | zero=>intro k h;omega
 | succ K ih=>
  intro k h hk;rw[z13];generalize z0e K (F_3n N (some ⟨v,0⟩,0))=go at ih ⊢;unfold F_3n;by_cases hk3:k<3
  case neg=>
   obtain rfl:k=3:=by omega
   exact z05 (by simp) (z03 [0] fun q hq=>⟨rfl,hq⟩)
  refine z07 (by simp;omega) ?_;have el:wr .u16 (wr .i64 ((1:Int)+((k:Int).tmod (2:Int))))=((1+k%2:Nat):Int):=by
   match k,hk3 with
   | 0,_=>rfl
   | 1,_=>rfl
   | 2,_=>rfl
  dsimp only;rw[el];refine z02 [0] (zz0 (V:=(z7e (gg G)).wM (ms G k)) (kind:=1) (zc8 h1 h2) (zuj h1 h2 k).ok (by omega) (by omega) hN) fun r8=>z04 fun h8=>z01 ?_;have e8:r8=((k:Int),0):=h8.trans (z1am G hk3);subst e8;dsimp only[sel,rem,nth,del,cat,upd];refine z05 (by simp) ?_;rw[z09 (by omega) (by omega)];exact z1u [0] (ih (k+1) (by omega) (by omega))
theorem zj9(h1:1≤G)(h2:G≤20)(hN:5000<N) :
  Tri (z00 []) (F_1o N (G:Int)) fun r=>exA fun x:Nat×Nat=>pu (r=(some ⟨x.2,0⟩,true)) (z00 [z0l x.2 x.1 (gg G) ((z7e (gg G)).wM (m3 G))]):=by
 have hg:=zc8 h1 h2;have hall:=hg.all_le;have inv:=zeb (gg G);unfold F_1o;refine z02 [] (show Tri _ (F_0i N (gg G).t) _ from ziz hg) fun r2=>z04 fun h2=>z01 ?_;subst h2;dsimp only[sel,rem,nth,del,cat,upd];have e:((gg G).lay).2.2.2.2.2.2=((gg G).all:Int):=rfl;rw[e];refine z02 [] (z15k hall) fun r3=>z12 fun d=>z04 fun h3=>z01 ?_;subst h3;dsimp only[sel,rem,nth,del,cat,upd];refine z02 [0] (show Tri _ (F_1e N (some ⟨d,0⟩) (gg G).t) _ from zvk (d:=d) hg (zt8 G) hN) fun r4=>z04 fun h4=>z01 ?_;subst h4;dsimp only[sel,rem,nth,del,cat,upd];refine z05 (by simp) ?_;refine z02 [0] (zz2 hg (zt8 G) inv.ok inv.rf (inv.gr hg) (z1aj hg) hN) fun r5=>z12 fun v=>z04 fun h5=>z01 ?_;subst h5;dsimp only[sel,rem,nth,del,cat,upd];refine z05 (by simp) ?_;refine z02 [0] (zze (v:=v) (d:=d) h1 ‹G≤20› hN N 0 (by omega) (by omega)) fun j9=>z04 fun hj=>z01 ?_;subst hj;dsimp only[sel,rem,nth,del,cat,upd];exact z03 [0] fun q hq=>⟨(d,v),rfl,hq⟩
structure LS(G:Nat)(V:VolS)(T:z0q)(r1 r2 n1 n2:Nat):Prop where
 fv:FV (gg G) V T
 zero:zef (gg G) V T
 al:AllocSt G V.n.m r1 r2 n1 n2
 len:V.n.m.ino.length=4
 ino:∀j,(z15 V.n.m.ino j).k=(if j<3 then 1 else 0)∧(z15 V.n.m.ino j).r=if j=1 then 1 else 0
 row0:(z1a V.n.m.rows 0).1=1∧0<(z1a V.n.m.rows 0).2
 row1:(z1a V.n.m.rows 1).1=2∧0<(z1a V.n.m.rows 1).2
def T0:z0q:=fun _ _=>0
theorem zow(G:Nat)(j:Nat):z15 (m3 G).ino j=if j=0 then z95 1 0 else if j=1 then z95 1 1 else if j=2 then z95 1 0 else Ino.z:=by
 match j with
 | 0=>rfl
 | 1=>rfl
 | 2=>rfl
 | 3=>rfl
 | j+4=>
  rw[if_neg (by omega),if_neg (by omega),if_neg (by omega)];unfold z15 m3;rw[List.getElem?_eq_none (by simp)];rfl
theorem zat(n:Ino)(h:n.xs.1=List.replicate 12 0)(j:Nat):n.at j=0:=by
 unfold Ino.at;rw[h,List.getElem?_replicate];split<;>rfl
theorem z1b5(G:Nat)(i j:Nat):(z15 (m3 G).ino i).at j=0:=by
 rw[zow];split
 ·exact zat _ rfl j
 ·split
  ·exact zat _ rfl j
  ·split
   ·exact zat _ rfl j
   ·exact zat _ rfl j
theorem zuk(h1:1≤G)(h2:G≤20){r1 r2:Nat}(hne:r1≠r2):LS G ((z7e (gg G)).wM (m3 G)) T0 r1 r2 0 0:=by
 have hg:=zc8 h1 h2;have inv:=zuj h1 h2 3;rw[ms3]at inv;have nok:=z182 hg;have ok:VOk (gg G) ((z7e (gg G)).wM (m3 G)):=nok.wM inv fun b _ _=>zae b;have fs:FS (gg G) ((z7e (gg G)).wM (m3 G)) T0 T0:=by
  refine⟨ok,fun _ _=>Nat.zero_le _,fun _ _ _=>rfl,fun _ _ _ _ h=>absurd rfl h,fun _ _ h=>absurd rfl h,fun i s hd=>?_,fun b hb=>?_,fun _=>rfl⟩
  ·have e:z2s (T0 i) s=List.replicate 32 0:=by
    apply List.ext_getElem?;intro j;by_cases hj:j<32
    ·rw[z4z _ _ hj,List.getElem?_replicate,if_pos hj];rfl
    ·rw[List.getElem?_eq_none (by rw[z3k];omega),List.getElem?_eq_none (by rw[List.length_replicate];omega)]
   rw[e];refine⟨⟨rfl,fun p hp=>by rw[List.eq_of_mem_replicate hp];omega⟩,?_⟩;rw[if_pos (show T0 i s=0 from rfl)]
  ·have:=nok.zero b hb (zae b)
   show((z7e (gg G)).readB (gg G) b).length=64;rw[this];rfl
 refine⟨⟨fs,fun i k hk=>z1b5 G i _⟩,fun i x _ _=>zbw rfl,⟨fun b hb=>?_,fun k hk=>?_,hne⟩,rfl,fun j=>?_,⟨rfl,show 0<2 by omega⟩,⟨rfl,show 0<1 by omega⟩⟩
 ·rw[show z0y ((z7e (gg G)).wM (m3 G)).n.m.used b=false from zae b];exact(decide_eq_false (by omega)).symm
 ·show(List.replicate G 0)[k]?.getD 0=_;rw[List.getElem?_replicate,if_pos hk];rfl
 ·show(z15 (m3 G).ino j).k=_∧(z15 (m3 G).ino j).r=_;rw[zow];by_cases c0:j=0
  ·subst c0;exact⟨rfl,rfl⟩
  ·by_cases c1:j=1
   ·subst c1;exact⟨rfl,rfl⟩
   ·by_cases c2:j=2
    ·subst c2;exact⟨rfl,rfl⟩
    ·rw[if_neg c0,if_neg c1,if_neg c2,if_neg (by omega),if_neg c1];exact⟨rfl,rfl⟩
section
variable{r1 r2 n1 n2 ii at':Nat}{bs:List UInt8}{Tb:HA}{s:Sl}
theorem LS.hasE(L:LS G V T r1 r2 n1 n2)(i:Int):V.n.m.hasE i=if 0≤i∧i<3 then 0 else if i=3 then 2 else 1:=by
 unfold MetaS.hasE;rw[L.len,(L.ino i.toNat).1];by_cases c:0≤i∧i<3
 ·rw[if_pos c,if_pos (by omega),if_pos (show i.toNat<3 by omega),if_neg (by decide)]
 ·rw[if_neg c];by_cases c3:i=3
  ·subst c3;rfl
  ·rw[if_neg c3,if_neg (by omega)]
theorem LS.hasN(L:LS G V T r1 r2 n1 n2){ii:Nat}(h:ii<3):V.n.m.hasE (ii:Int)=0:=by
 rw[L.hasE,if_pos (by omega)]
structure WEff(g:Geo)(V:VolS)(T:z0q)(ii at':Nat)(bs:List UInt8)(V':VolS)(T':z0q):Prop where
 fb:∀j x,fb g V' T' j x=if j=ii∧at'≤x∧x<at'+bs.length then bs[x - at']?.getD 0 else fb g V T j x
 nz:∀j s,T' j s≠0↔T j s≠0∨(j=ii∧∃k,at' / 64≤k∧64 * k<at'+bs.length∧0<bs.length∧s∈z1l k)
 size:∀j,z1z V'.n.m j=if j=ii∧bs≠[]then max (z1z V.n.m j) (at'+bs.length)else z1z V.n.m j
theorem z15x(h1:1≤G)(h2:G≤20)(hN:5000<N)(L:LS G V T r1 r2 n1 n2)(hii:ii<3)(hr2:(if ii=1 then 1 else 0)=r2)(hmax:at'+bs.length≤3840)(hroom:8 * ((n1+7) / 8)+n2+3 * ((at'%64+bs.length+63) / 64)≤8 * G)(hr:RdC Tb s 1 (bytesOf bs)) :
  Tri (z00 [z0l v d (gg G) V,Tb]) (F_01 N (some ⟨v,0⟩) (ii:Int) (at':Int) s) fun r=>exA fun x:VolS×z0q×Nat=>pu (r=0∧LS G x.1 x.2.1 r1 r2 n1 x.2.2∧x.2.2≤n2+3 * ((at'%64+bs.length+63) / 64)∧WEff (gg G) V T ii at' bs x.1 x.2.1) (z00 [z0l v d (gg G) x.1,Tb]):=by
 have hg:=zc8 h1 h2;have hE:=L.hasN hii;have hin:=L.ino ii;rw[hr2]at hin;have hinv:=L.fv.fs.ok.inv;by_cases hb:bs=[]
 ·subst hb;have hw:wE V.n.m (ii:Int) (at':Int) ([]:List UInt8).length=0:=by
   unfold wE;rw[if_neg fun c=>c hE,if_neg (by omega),if_neg (by simp;simp at hmax;omega)]
  have e0:∀m:M Int,bd m ret=m:=fun m=>by
   funext h;unfold bd;cases m h<;>rfl
  rw[←e0 (F_01 N _ _ _ _)];refine z02 [0] (zks (bs:=[]) hg hinv.ok (i:=(ii:Int)) (at':=(at':Int)) (by simp at hmax;omega) (z4m hr) (.inr rfl)) fun r=>z04 fun h=>z01 ?_;rw[hw]at h;subst h;refine z03 [0,0] fun q hq=>⟨(V,T,n2),⟨rfl,L,Nat.le_add_right _ _,⟨fun j x=>?_,fun j s=>?_,fun j=>?_⟩⟩,hq⟩
  ·rw[if_neg];rintro⟨_,h3,h4⟩
   simp at h4;omega
  ·constructor
   ·exact .inl
   ·rintro(h | ⟨_,k,_,_,h,_⟩)
    ·exact h
    ·simp at h
  ·rw[if_neg fun x=>x.2 rfl]
 ·have elb:V.n.m.inodeL (ii:Int)=(z1a V.n.m.rows r2).1:=by
   unfold MetaS.inodeL;rw[if_pos hE,Int.toNat_natCast,hin.2]
  have hrow:0<(z1a V.n.m.rows r2).2∧r2<16∧(z1a V.n.m.rows r2).1<65536:=by
   rw[←hr2];split
   ·rw[L.row1.1];exact⟨L.row1.2,by omega,by omega⟩
   ·rw[L.row0.1];exact⟨L.row0.2,by omega,by omega⟩
  have hrow2:=zb2 (a:=V.n.m.inodeL (ii:Int)) hinv.ok.rows hrow.2.1 hrow.1 elb.symm;have hlab:V.n.m.inodeL (ii:Int)<65536:=by rw[elb];exact hrow.2.2
  have hst:=zif h1 h2 hlab (3 * ((at'%64+bs.length+63) / 64)) n2 V.n.m hinv L.al hrow2 hroom;refine(zvr hg hN L.fv hE hmax hb hr hlab hst.2).post fun r q hq=>?_;obtain⟨x,⟨hr0,W⟩,hq⟩:=hq;obtain⟨V',T'⟩:=x;have W:Wrote (gg G) V T ii at' bs V' T':=W;obtain⟨u,n',hu,em,k1,k2,k3,k4⟩:=W.al;have hst2:=zif h1 h2 hlab u n2 V.n.m hinv L.al hrow2 (by omega);have eino:V'.n.m.ino=V.n.m.ino.set ii n':=by rw[em];show(z2p _ _ _ _).ino.set ii n'=_;rw[z7t]
  have hlen:ii<V.n.m.ino.length:=by rw[L.len];omega
  have esz:∀j,z1z V'.n.m j=if j=ii∧bs≠[]then max (z1z V.n.m j) (at'+bs.length)else z1z V.n.m j:=fun j=>by
   unfold z1z;rw[eino,z5k hlen];by_cases e:j=ii
   ·subst e;rw[if_pos rfl,if_pos ⟨rfl,hb⟩,k4];omega
   ·rw[if_neg e,if_neg fun x=>e x.1]
  refine⟨(V',T',n2+u),⟨hr0,⟨W.fv,fun i x hx hx2=>?_,?_,?_,fun j=>?_,?_,?_⟩,?_,⟨W.fb,fun j s=>?_,esz⟩⟩,hq⟩
  ·show fb (gg G) V' T' i x=0;rw[esz]at hx;rw[W.fb,if_neg]
   ·refine L.zero i x ?_ hx2;split at hx<;>omega
   ·rintro⟨rfl,h3,h4⟩
    rw[if_pos ⟨rfl,hb⟩]at hx;omega
  ·show AllocSt G V'.n.m r1 r2 n1 (n2+u);rw[em];exact hst2.1.set ii n'
  ·show V'.n.m.ino.length=4;rw[eino,List.length_set,L.len]
  ·show(z15 V'.n.m.ino j).k=_∧(z15 V'.n.m.ino j).r=_;rw[eino,z5k hlen];split
   ·rename_i e;subst e;rw[k1,k2];exact L.ino j
   ·exact L.ino j
  ·show(z1a V'.n.m.rows 0).1=1∧_;rw[em];have:=zas hg hlab (r:=0) u V.n.m hinv L.row0.2
   exact⟨this.1.trans L.row0.1,this.2⟩
  ·show(z1a V'.n.m.rows 1).1=2∧_;rw[em];have:=zas hg hlab (r:=1) u V.n.m hinv L.row1.2
   exact⟨this.1.trans L.row1.1,this.2⟩
  ·show n2+u≤_;omega
  ·show T' j s≠0↔_;by_cases e:j=ii
   ·subst e;rw[W.nz];constructor
    ·rintro(h | h)
     ·exact .inl h
     ·exact .inr ⟨rfl,h⟩
    ·rintro(h | h)
     ·exact .inl h
     ·exact .inr h.2
   ·rw[W.same j s e];constructor
    ·exact .inl
    ·rintro(h | h)
     ·exact h
     ·exact absurd h.1 e
def zja(g:Geo)(V:VolS)(T:z0q)(i at' n:Nat):List UInt8:=z5s (fb g V T i) at' (min n (z1z V.n.m i - at'))
theorem zxc(hg:(gg G).ok)(hN:5000<N)(F:FV (gg G) V T)(hE:V.n.m.hasE (ii:Int)=0){n:Nat}{x y:Int}(hx:x=at')(hy:y=n)(hat:at'<2^63) :
  Tri (z00 [z0l v d (gg G) V]) (F_0h N (some ⟨v,0⟩) (ii:Int) x y) fun r=>pu (r.2=0∧r.1.len=(zja (gg G) V T ii at' n).length) (z00 [z06 r.1 1 (bytesOf (zja (gg G) V T ii at' n)),z0l v d (gg G) V]):=by
 subst hx hy;refine(zhb hg hN F (i:=(ii:Int)) (at':=(at':Int)) (n:=(n:Int)) (by omega)).post fun r q hq=>?_;have er:rE V.n.m (ii:Int) (at':Int) (n:Int)=0:=by
  unfold rE;rw[if_neg fun c=>c hE,if_neg (by omega)]
 have en:rN V.n.m (ii:Int) (at':Int) (n:Int)=min n (z1z V.n.m ii - at'):=by
  unfold rN;rw[er,if_pos rfl];rfl
 rw[er,en,Int.toNat_natCast,Int.toNat_natCast]at hq;obtain⟨h1,hq⟩:=hq;refine⟨⟨h1,?_⟩,hq⟩;obtain⟨q1,q2,h3,_⟩:=hq;have:=h3.len
 rw[z0d]at this;show r.1.len=(zja (gg G) V T ii at' n).length;unfold zja;omega
structure CS(G:Nat)(V:VolS)(T:z0q):Prop where
 fv:FV (gg G) V T
 zero:zef (gg G) V T
theorem z12z(hg:(gg G).ok)(hN:5000<N)(C:CS G V T)(hE:V.n.m.hasE (ii:Int)=0){size:Nat}{x:Int}(hx:x=size)(hsz:size≤3840) :
  Tri (z00 [z0l v d (gg G) V]) (F_00 N (some ⟨v,0⟩) (ii:Int) x) fun r=>exA fun x:VolS×z0q=>pu (r=0∧CS G x.1 x.2∧(∀j x',x'<3840→fb (gg G) x.1 x.2 j x'=if j=ii∧size≤x' then 0 else fb (gg G) V T j x')∧(∀j,z1z x.1.n.m j=if j=ii then size else z1z V.n.m j)∧(∀i,x.1.n.m.hasE i=V.n.m.hasE i)) (z00 [z0l v d (gg G) x.1]):=by
 subst hx;refine(zug hg hN C.fv C.zero hE hsz).post fun r q hq=>?_;obtain⟨x,⟨hr0,P⟩,hq⟩:=hq;obtain⟨V',T'⟩:=x;have P:CutP (gg G) V T ii size V' T':=P;obtain⟨n',eino,k1,k2,k3,k4⟩:=P.ino;have hlt:=zg3 hE;have esz:∀j,z1z V'.n.m j=if j=ii then size else z1z V.n.m j:=fun j=>by
  unfold z1z;rw[eino,z5k hlt.1];by_cases e:j=ii
  ·rw[if_pos e,if_pos e,k4];exact Int.toNat_natCast _
  ·rw[if_neg e,if_neg e]
 refine⟨(V',T'),⟨hr0,⟨P.fv,fun i x hx hx2=>?_⟩,P.fb,esz,fun i=>?_⟩,hq⟩
 ·show fb (gg G) V' T' i x=0;rw[esz]at hx;rw[P.fb i x hx2];split
  ·rfl
  ·rename_i hn;refine C.zero i x ?_ hx2;by_cases e:i=ii
   ·rw[if_pos e]at hx;exact absurd ⟨e,hx⟩ hn
   ·rw[if_neg e]at hx;exact hx
 ·show V'.n.m.hasE i=_;unfold MetaS.hasE;rw[eino,List.length_set,z5k hlt.1];by_cases e:i.toNat=ii
  ·rw[if_pos e,e,k1]
  ·rw[if_neg e]
end
end
end Go.Moat

/- Layer 16: what is at the head of all its statements. -/
namespace Go.Moat
open Go.Mini
section
variable{N:Nat}{β:Type}{l:List HA}{S:β→HA}{v d o:Nat}{G:Nat}{V:VolS}{T:z0q}
theorem zul(hN:5000<N):Tri (z00 []) (F_38 N) fun r=>pu (r=true) (z00 []):=by
 have hg:(gg 2).ok:=zc8 (by omega) (by omega);unfold F_38;refine z02 [] (zj9 (N:=N) (G:=2) (by omega) (by omega) hN) fun r1=>z12 fun x=>z04 fun h1=>z01 ?_;obtain⟨d,v⟩:=x;subst h1;dsimp only[sel,rem,nth,del,cat,upd];refine z05 (by simp) ?_;have L0:=zuk (G:=2) (by omega) (by omega) (show 1≠0 by omega);have fb0:∀j x,fb (gg 2) ((z7e (gg 2)).wM (m3 2)) T0 j x=0:=fun j x=>zbw rfl;have sz0:z1z ((z7e (gg 2)).wM (m3 2)).n.m 0=0:=rfl;have nz0:∀s,T0 0 s=0:=fun _=>rfl;generalize ((z7e (gg 2)).wM (m3 2))=V0 at L0 fb0 sz0 ⊢;generalize T0=TT at L0 fb0 nz0;refine z0v fun b=>?_;refine zq4 0 rfl (by omega) ?_;refine z02 [1,0] (z15x (bs:=[97,98]) (ii:=0) (at':=100) (Tb:=pts b (.cells (bytesOf [97,98]) false)) (by omega) (by omega) hN L0 (by omega) rfl (by simp) (by simp) (rd_pts0 (by simp[bytesOf]))) fun r4=>z12 fun x=>z04 fun h4=>z01 ?_;obtain⟨V1,T1,n2⟩:=x;obtain⟨h4,L1,_,W⟩:=h4;have L1:LS 2 V1 T1 1 0 0 n2:=L1;have W:WEff (gg 2) V0 TT 0 100 [97,98] V1 T1:=W;subst h4;have sz1:z1z V1.n.m 0=102:=by rw[W.size,sz0];rfl
 have hE1:=L1.hasN (ii:=0) (by omega);dsimp only[sel,rem,nth,del,cat,upd];refine z02 [0] (zf4 hg L1.fv.fs.ok.inv.ok ((0:Nat):Int)) fun r5=>z04 fun h5=>z01 ?_;rw[zag hE1]at h5;subst h5;dsimp only[sel,rem,nth,del,cat,upd];rw[z9g];refine zac ?_;rw[zh7];refine z02 [0] (zxc (ii:=0) (at':=98) (n:=9) hg hN L1.fv hE1 rfl rfl (by omega)) fun r6=>z04 fun h6=>z01 ?_;dsimp only[sel,rem,nth,del,cat,upd];refine z02 [1] (zkt hg hN L1.fv ((0:Nat):Int)) fun r7=>z04 fun h7=>z01 ?_;rw[hE1]at h7;simp only[if_pos hE1];dsimp only[sel,rem,nth,del,cat,upd];have C1:CS 2 V1 T1:=⟨L1.fv,L1.zero⟩;refine z02 [1] (z12z (ii:=0) (size:=101) hg hN C1 hE1 rfl (by omega)) fun r8=>z12 fun x=>z04 fun h8=>z01 ?_;obtain⟨V2,T2⟩:=x;obtain⟨h8,C2,fb2,sz2,e2⟩:=h8;have C2:CS 2 V2 T2:=C2;have fb2:∀j x',x'<3840→fb (gg 2) V2 T2 j x'=if j=0∧101≤x' then 0 else fb (gg 2) V1 T1 j x':=fb2
 have e2:∀i,V2.n.m.hasE i=V1.n.m.hasE i:=e2;subst h8;dsimp only[sel,rem,nth,del,cat,upd];refine z02 [0] (z12z (ii:=0) (size:=102) hg hN C2 (by rw[e2];exact hE1) rfl (by omega)) fun r9=>z12 fun x=>z04 fun h9=>z01 ?_;obtain⟨V3,T3⟩:=x;obtain⟨h9,C3,fb3,sz3,e3⟩:=h9;have C3:CS 2 V3 T3:=C3;have fb3:∀j x',x'<3840→fb (gg 2) V3 T3 j x'=if j=0∧102≤x' then 0 else fb (gg 2) V2 T2 j x':=fb3
 have e3:∀i,V3.n.m.hasE i=V2.n.m.hasE i:=e3;have sz3:z1z V3.n.m 0=102:=by
  have:=sz3 0
  rwa [if_pos rfl]at this
 subst h9;dsimp only[sel,rem,nth,del,cat,upd];refine z02 [0] (zxc (ii:=0) (at':=100) (n:=9) hg hN C3.fv (by rw[e3,e2];exact hE1) rfl rfl (by omega)) fun r10=>z04 fun h10=>z01 ?_;dsimp only[sel,rem,nth,del,cat,upd];have b1:zja (gg 2) V1 T1 0 98 9=[0,0,97,98]:=by
  unfold zja;rw[sz1];show[fb (gg 2) V1 T1 0 98,fb (gg 2) V1 T1 0 99,fb (gg 2) V1 T1 0 100,fb (gg 2) V1 T1 0 101]=_;rw[W.fb,W.fb,W.fb,W.fb,if_neg (by simp),if_neg (by simp),if_pos (by simp),if_pos (by simp),fb0,fb0];rfl
 have b3:zja (gg 2) V3 T3 0 100 9=[97,0]:=by
  unfold zja;rw[sz3];show[fb (gg 2) V3 T3 0 100,fb (gg 2) V3 T3 0 101]=_;rw[fb3 _ _ (by omega),fb3 _ _ (by omega),if_neg (by simp),if_neg (by simp),fb2 _ _ (by omega),fb2 _ _ (by omega),if_neg (by simp),if_pos (by simp),W.fb,if_pos (by simp)];rfl
 have bl:(z5g (T1 0)).length=1:=by
  have:(z5g (T1 0)).length=(z5g fun s=>if s=1 then 1 else 0).length:=zuh fun s=>by
   rw[W.nz,nz0];constructor
   ·rintro(h | ⟨_,k,h1,h2,_,h4⟩)
    ·exact absurd rfl h
    ·obtain rfl:k=1:=by simp at h2;omega
     have:s=1:=by simpa[z1l,z2x,rs,z6v]using h4
     rw[if_pos this];decide
   ·intro h;refine .inr ⟨rfl,1,by omega,by simp,by simp,?_⟩;have:s=1:=by
     apply Decidable.byContradiction;intro c;rw[if_neg c]at h;exact h rfl
    subst this;simp[z1l,z2x,rs,z6v]
  rw[this];decide
 rw[b1,b3]at *;refine z0c 2 rfl fun l7=>?_;rw[z1n,Int.toNat_natCast,bl]at l7;have at1:(z15 V1.n.m.ino 0).at 1=102:=by
  have h0:=(zds L1.fv.fs.ok.inv.ok hE1).s0;unfold z1z at sz1;omega
 refine z02 [0,0,0,0] (Q:=fun c=>pu (c=true) (z00 [z06 r10.1 1 (bytesOf [97,0]),z0l v d (gg 2) V3,z06 r7.1 1 (z1c (z5g (T1 (Int.toNat ((0:Nat):Int))))),z06 r6.1 1 (bytesOf [0,0,97,98])])) ?_ fun c13=>z04 fun h13=>z01 ?_
 ·refine z07 (by simp) ?_;rw[z76 _ (i:=1) (by omega),at1];refine z4j (z7c (z03 [0,0,0,0] fun q hq=>⟨by simp,hq⟩))
 subst h13;dsimp only[sel,rem,nth,del,cat,upd];refine z02 [0,0,0,0] (Q:=fun c=>pu (c=true) (z00 [z06 r10.1 1 (bytesOf [97,0]),z0l v d (gg 2) V3,z06 r7.1 1 (z1c (z5g (T1 (Int.toNat ((0:Nat):Int)))))])) ?_ fun c15=>z04 fun h15=>z01 ?_
 ·refine z07 rfl ?_;refine z0c 3 rfl fun l6=>?_;refine z4l 3 rfl (bs:=[0,0,97,98]) (z0k l6) ?_;exact z03 [0,0,0] fun q hq=>⟨by simp,hq⟩
 subst h15;dsimp only[sel,rem,nth,del,cat,upd];refine z02 [0] (Q:=fun c=>pu (c=true) (z00 [])) ?_ fun c17=>z04 fun h17=>z01 ?_
 ·refine z07 (by simp[h6.1,h7];omega) ?_;refine z0c 0 rfl fun l10=>?_;refine z4l 0 rfl (bs:=[97,0]) (z0k l10) ?_;exact z03 [] fun q hq=>⟨by simp,hq⟩
 subst h17;dsimp only[sel,rem,nth,del,cat,upd];exact z03 [] fun q hq=>⟨by simp[h10.1],hq⟩
end
end Go.Moat
