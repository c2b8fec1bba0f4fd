/- Layers 7 and 15: a disk is laid, and mounted, when nothing is to be done again. -/
import Derived.Test.YtcaaljlhljemoaaGreatP15g
namespace Go.Moat
open Go.Mini
section
variable{N:Nat}{β:Type}{l:List HA}{S:β→HA}{v d:Nat}{g:Geo}{V:VolS}{m:M β}{T:HA}{D:DskS}
theorem zkx(hd:D.dead=false)(hf:D.fuse = -1){i:Nat}(hi:i<D.secs.length){bs:List UInt8}(h64:bs.length=64)(t:Int) :
  writeE D i bs=0∧zbu D i bs t={D with secs:=D.secs.set i ⟨bs,t⟩,waits:=D.waits++[⟨i,D.secs[i],⟨bs,t⟩⟩],done:=D.done+1}:=by
 have hc:0≤(i:Int)∧(i:Int)<D.secs.length∧bs.length=64:=⟨by omega,by omega,h64⟩;have hp:powerE D=0:=by unfold powerE;rw[hd,hf];rfl
 have hpd:z58 D={D with done:=D.done+1}:=by
  unfold z58;rw[hd,hf];simp
 unfold writeE zbu;rw[if_pos hc,if_pos hc,hp,if_pos rfl,hpd];refine⟨rfl,?_⟩;rw[Int.toNat_natCast,List.getElem?_eq_getElem hi];rfl
theorem zky(hd:D.dead=false)(hf:D.fuse = -1):powerE D=0∧zgx D={D with waits:=[],done:=D.done+1}:=by
 have hp:powerE D=0:=by unfold powerE;rw[hd,hf];rfl
 have hpd:z58 D={D with done:=D.done+1}:=by
  unfold z58;rw[hd,hf];simp
 refine⟨hp,?_⟩;unfold zgx;rw[if_pos hp,hpd]
def zq0(g:Geo):SecS:=⟨z4u g,0⟩
def z8d(g:Geo):DskS:=⟨(List.replicate g.all z48).set 0 (zq0 g),[],false,-1,g.all+1⟩
theorem zil{α:Type}{A:HA}{m:M α}{φ:α→Prop}{R:α→HA}(hA:zhv A)(t:Tri (z00 [A]) m fun a=>pu (φ a) (z00 [R a,A])):Tri (z00 [A]) (frz m) fun a=>pu (φ a) (z00 [R a,A]):=by
 have e:∀(X:HA),z00 [X,A]=z1b A X:=fun X=>by
  show z1b X (z1b A emp)=_;rw[z3n,z8h]
 rw[z0v]at t ⊢;refine(zqc (R:=fun a=>pu (φ a) (R a)) hA (t.post fun a q hq=>?_)).post fun a q hq=>?_
 ·have h2:=hq.2;rw[e]at h2;obtain⟨q1,q2,k1,k2,k3⟩:=h2;exact⟨q1,q2,k1,⟨hq.1,k2⟩,k3⟩
 ·obtain⟨q1,q2,k1,⟨k0,k2⟩,k3⟩:=hq;refine⟨k0,?_⟩;rw[e];exact⟨q1,q2,k1,k2,k3⟩
theorem zsy:∀(bs:List UInt8)(v:Int×Int),1≤v.1→v.1+255 * bs.length≤60000→1≤(bs.foldl (fun v c=>(wr .u32 (v.1+wr .u32 c.toNat),wr .u32 (v.2+wr .u32 (v.1+wr .u32 c.toNat)))) v).1∧(bs.foldl (fun v c=>(wr .u32 (v.1+wr .u32 c.toNat),wr .u32 (v.2+wr .u32 (v.1+wr .u32 c.toNat)))) v).1≤v.1+255 * bs.length
 | [],v,h1,h2=>⟨h1,by simp⟩
 | b::r,v,h1,h2=>by
  have hb:b.toNat<256:=b.toNat_lt;simp only[List.length_cons]at h2;rw[List.foldl_cons];have e:wr .u32 (v.1+wr .u32 (b.toNat:Int))=v.1+b.toNat:=by rw[wr32 (n:=(b.toNat:Int)) (by omega) (by omega),wr32 (by omega) (by omega)]
  have:=zsy r (wr .u32 (v.1+wr .u32 b.toNat),wr .u32 (v.2+wr .u32 (v.1+wr .u32 b.toNat))) (by dsimp only;rw[e];omega) (by dsimp only;rw[e];omega)
  refine⟨this.1,Int.le_trans this.2 ?_⟩;dsimp only;rw[e,List.length_cons];omega
theorem z12u{bs:List UInt8}(h:bs.length≤100):0<zae bs:=by
 obtain⟨h1,h2⟩:=zsy bs (1,0) (by decide) (by dsimp only;omega);change 1≤(zd3 bs).1 at h1;change(zd3 bs).1≤1+255 * bs.length at h2;unfold zae;obtain⟨n,hn⟩:∃n:Nat,(zd3 bs).1=n:=⟨(zd3 bs).1.toNat,by omega⟩;have e:(zd3 bs).1.tmod 65521=(n:Int):=by
  rw[hn];have:(n:Int).tmod 65521=((n%65521:Nat):Int):=rfl
  rw[this,Nat.mod_eq_of_lt (by omega)]
 rw[e];obtain⟨k1,k2⟩:=zxj (k :=.u32) (((zd3 bs).2.tmod 65521) * 2^(Min.min (16:Int).toNat IntKind.u32.bits)) rfl;have hs:z74 .u32 ((zd3 bs).2.tmod 65521) 16=wr .u32 (((zd3 bs).2.tmod 65521) * 2^(Min.min (16:Int).toNat IntKind.u32.bits)):=rfl;rw[hs];generalize wr .u32 (((zd3 bs).2.tmod 65521) * 2^(Min.min (16:Int).toNat IntKind.u32.bits))=x at k1 k2;obtain⟨a,rfl⟩:∃a:Nat,x=a:=⟨x.toNat,by omega⟩;have k3:(2:Int)^IntKind.u32.bits=4294967296:=by decide
 rw[(zcp (k :=.u32) rfl (a:=a) (b:=n) (by show a<4294967296;omega) (by show n<4294967296;omega)).2.1];have:n≤a ||| n:=Nat.right_le_or
 omega
theorem z12v(n:Int):RO (F_0p N n):=by
 unfold F_0p;split
 ·exact z3e _
 ·exact z3e _
theorem zq1(hg:g.ok):RO (F_01 N g.t):=by
 unfold F_01;refine z103 fun _=>?_;have e:=zeh (N:=N) hg;unfold Geo.t at e ⊢;rw[e];exact z2p (z3e _) fun _=>z2p (z12v _) fun _=>z3e _
theorem zrm(hg:g.ok)(hr:g.roomy)(hN:5000<N):Tri (z00 [z1h d (zax g.all)]) (F_2b N (some ⟨d,0⟩) g.t) fun r=>pu (r=0) (z00 [z1h d (z8d g)]):=by
 have hall:=hg.all_le;have hpos:0<g.all:=by unfold Geo.all Geo.blk;omega
 unfold F_2b;refine z02 [] (zh7 hg) fun r3=>z04 fun h3=>z01 ?_;subst h3;dsimp only[sel,rem,nth,del,cat,upd];refine z05 (by simp) ?_;rw[frz_ro (zq4 _)];refine z02 [0] (Q:=fun c=>pu (c=false) (z00 [z1h d (zax g.all)])) ?_ fun c=>z04 fun hc=>z01 ?_
 ·refine z08 (by simp) (z02 [0] zay fun r=>z04 fun h=>z01 (z03 [0] fun q hq=>⟨?_,hq⟩));rw[h];simp[zax,Geo.lay]
 subst hc;dsimp only[sel,rem,nth,del,cat,upd];have e2:frz (F_01 N (g.t.1,g.t.2.1,g.t.2.2.1,g.t.2.2.2))=F_01 N g.t:=frz_ro (zq1 hg);rw[e2];refine z02 [0] (Q:=fun c=>pu (c=false) (z00 [z1h d (zax g.all)])) ?_ fun c=>z04 fun hc=>z01 ?_
 ·refine z08 rfl (z02 [0] (zld hg) fun r=>z04 fun h=>z01 (z03 [0] fun q hq=>⟨?_,hq⟩));rw[h];simp[hr]
 subst hc;dsimp only[sel,rem,nth,del,cat,upd];refine z05 (by simp) ?_;refine z02 [] (zne hg hN) fun r8=>z04 fun h8=>z01 ?_;dsimp only[sel,rem,nth,del,cat,upd];have loop:∀(K j:Nat)(b:Sl)(bs:List UInt8)(D:DskS),g.all - j<K→j≤g.all→bs=(if j=0 then z4u g else z14)→b.len=64→D.dead=false→D.fuse = -1→D.done=j→D.waits.length=j →
   D.secs=(if j=0 then List.replicate g.all z48 else(List.replicate g.all z48).set 0 (zq0 g)) →
   Tri (z00 [z07 b 1 (bytesOf bs),z1h d D]) (z0l K (F_4p N (some ⟨d,0⟩) (g.lay,0)) (b,(j:Int))) fun r=>exA fun D'=>pu (r=.inl ()∧D'.dead=false∧D'.fuse = -1∧D'.done=(g.all:Int)∧D'.secs=(List.replicate g.all z48).set 0 (zq0 g)) (z00 [z1h d D']):=by
  intro K;induction K with
  | zero=>intro j b bs D h;omega
  | succ K ih=>
   intro j b bs D h hj hbs hb h1 h2 h3 h4 h5;rw[z16];unfold F_4p;by_cases hjk:j<g.all
   ·refine z08 (by simp[Geo.lay];omega) ?_;have h64:bs.length=64:=by
     rw[hbs];split
     ·exact zaf g
     ·simp[z14]
    have hjl:j<D.secs.length:=by
     rw[h5];split<;>simp<;>omega
    obtain⟨e1,e2⟩:=zkx h1 h2 hjl h64 0;refine z02 [1,0] (zug (N:=N) (j:Int) 0 (by omega) (by omega) (by omega) (by omega)) fun r=>z04 fun hr'=>z01 ?_;dsimp only[sel,rem,nth,del,cat,upd];rw[e1]at hr';rw[e2];refine z05 (by simp[hr']) ?_;refine z79 64 (by omega) fun sb=>?_;refine z3c 0 (B:=z07 ⟨some ⟨sb,0⟩,64⟩ 1 (bytesOf z14)) rfl (fun q hq =>.mk (by rw[z0i];simp[z14]) hq) ?_;dsimp only[sel,rem,nth,del,cat,upd];rw[z0f (by omega) (by omega)];refine tri_last [0,0] (ih (j+1) ⟨some ⟨sb,0⟩,64⟩ z14 _ (by omega) (by omega) (by rw[if_neg (by omega)]) rfl h1 h2 (by dsimp only;omega) (by dsimp only;rw[List.length_append,h4];rfl) ?_);dsimp only;rw[if_neg (by omega),h5];by_cases hj0:j=0
    ·subst hj0;rw[if_pos rfl]at hbs ⊢;rw[hbs];rfl
    ·rw[if_neg hj0]at hbs ⊢;rw[hbs];apply List.ext_getElem (by simp);intro i hi1 hi2;rw[List.getElem_set];split
     ·rename_i hji;subst hji;rw[List.getElem_set_ne (by omega),List.getElem_replicate];rfl
     ·rfl
   ·obtain rfl:j=g.all:=by omega
    refine z05 (by simp[Geo.lay]) (z03 [1] fun q hq=>⟨D,⟨rfl,h1,h2,h3,?_⟩,hq⟩);rw[h5,if_neg (by omega)]
 refine z0a 0 rfl fun h0=>?_;rw[z0i,zaf]at h0;refine z02 [0,0] (loop N 0 r8.1 (z4u g) (zax g.all) (by omega) (by omega) (by rw[if_pos rfl]) (by omega) rfl rfl rfl rfl (by rw[if_pos rfl];rfl)) fun r=>z1g fun D'=>z04 fun ⟨k1,k2,k3,k4,k5⟩=>z01 ?_;subst k1;dsimp only[sel,rem,nth,del,cat,upd];obtain⟨e1,e2⟩:=zky k2 k3;refine z02 [0] (zl3 (N:=N) (by omega) (by omega)) fun r=>z04 fun hr'=>z01 (z03 [0] fun q hq=>⟨by rw[hr',e1],?_⟩);rw[e2]at hq;have:({D' with waits:=[],done:=D'.done+1}:DskS)=z8d g:=by
  unfold z8d;rw[←k5,←k2,←k3,k4]
 rw[this]at hq;exact hq
def z6a(seq cnt:Nat):List UInt8:=z5l (filled (le 8 seq++le 2 cnt) 60)
theorem z9q(seq cnt:Nat):(z6a seq cnt).length=64:=by
 unfold z6a;rw[z8v,z2i (by rw[List.length_append,z2b,z2b];omega)]
theorem z11h(k n:Nat):z4e k [n]=le k n:=by simp[z4e]
theorem zgr{j:Nat}{seq cnt:Nat}{sq:Nat}(h1:seq<2^64)(h2:cnt<65536)(hN:5000<N):Tri (z00 [pts j (.cells (z3b d g sq) false)]) (F_0g N (some ⟨j,0⟩) (seq:Int) (cnt:Int)) fun r=>pu (r.1=1∧r.2.2=0) (z00 [z07 r.2.1 1 (bytesOf (z6a seq cnt)),pts j (.cells (z3b d g sq) false)]):=by
 unfold F_0g;refine z11 fun b=>?_;refine z02 [0] (z9e (size:=8) (ns:=[seq]) (T:=pts b (.cells [.int .u64 seq] false)) (by omega) (by omega) (rd_pts0 (by simp)) (by
  intro n hn;simp at hn;subst hn;exact h1) (by simp) hN) fun r5=>z04 fun h5=>z01 ?_
 dsimp only[sel,rem,nth,del,cat,upd];rw[z6m (by omega) (by omega)];refine z11 fun b6=>?_;refine z02 [0] (z9e (size:=2) (ns:=[cnt]) (T:=pts b6 (.cells [.int .u64 cnt] false)) (by omega) (by omega) (rd_pts0 (by simp)) (by
  intro n hn;simp at hn;subst hn;exact h2) (by simp) hN) fun r7=>z04 fun h7=>z01 ?_
 dsimp only[sel,rem,nth,del,cat,upd];rw[z11h,z11h];refine z0a 0 rfl fun l7=>z0a 2 rfl fun l5=>?_;have hm:z1z=70368744177664:=rfl;rw[z0i,z2b]at l7 l5;refine z02 [2,0] (z2a (z0e (by rw[z0i,z2b];omega)) (by omega) (z4j _) (by omega)) fun r8=>z01 ?_;dsimp only[sel,rem,nth,del,cat,upd];rw[←z92];refine z0a 0 rfl fun l8=>?_;refine z02 [0] (zdf (n:=60) (z0e l8) (by rw[List.length_append,z2b,z2b];omega) (by omega)) fun r9=>z04 fun h9=>z01 ?_;dsimp only[sel,rem,nth,del,cat,upd];refine z90 5 rfl (v:=1) rfl ?_;refine z0a 0 rfl fun l9=>?_;refine z02 [0] (zil (φ:=fun _=>True) (R:=fun r=>z07 r 1 (bytesOf (z6a seq cnt))) zx9 ((znd (z0e l9) (by rw[z2i (by rw[List.length_append,z2b,z2b];omega)];omega) hN).post fun r q hq=>⟨trivial,hq⟩)) fun r13=>z04 fun _=>z01 ?_;dsimp only[sel,rem,nth,del,cat,upd];exact z03 [0,5] fun q hq=>⟨⟨rfl,rfl⟩,hq⟩
def za8(b:List UInt8)(seq:Nat):Prop:=(b=z14∧seq=0)∨(b=z6a seq 0∧seq<2^64)
theorem za8.len{b:List UInt8}{seq:Nat}(h:za8 b seq):b.length=64:=by
 rcases h with⟨rfl,_⟩ | ⟨rfl,_⟩
 ·simp[z14]
 ·exact z9q _ _
theorem zsz(p:Option MA):RO (F_0c N p):=by
 unfold F_0c;split
 ·exact z3e _
 ·exact z2p (z8e _) fun _=>z2p (zbq _ _) fun _=>z2p (zx0 _ _) fun _=>z3e _
def roomN(n:Nat):Nat:=(n - 1) - (n - 1+15) / 16
theorem zgs{j sq:Nat}(hg:g.ok):Tri (z00 [pts j (.cells (z3b d g sq) false)]) (F_0c N (some ⟨j,0⟩)) fun r=>pu (r=(roomN g.J:Nat)) (z00 [pts j (.cells (z3b d g sq) false)]):=by
 have h1:=hg.j1;have h2:=hg.j2;unfold F_0c;refine z05 (by simp) (z90 0 rfl (v:=g.J) rfl (z03 [0] fun q hq=>⟨?_,hq⟩));have e1:wr .i64 ((g.J:Int) - 1)=((g.J - 1:Nat):Int):=by rw[z0f (by omega) (by omega)];omega
 have e2:wr .i64 (((g.J - 1:Nat):Int)+15)=((g.J - 1+15:Nat):Int):=by rw[z0f (by omega) (by omega)];omega
 have e3:((g.J - 1+15:Nat):Int).tdiv 16=(((g.J - 1+15) / 16:Nat):Int):=rfl;rw[e1,e2,e3,z0f (n:=(((g.J - 1+15) / 16:Nat):Int)) (by omega) (by omega),z0f (by omega) (by omega)];unfold roomN;omega
theorem zuf{j:Nat}(hg:g.ok){s:Sl}{bs:List UInt8}{seq:Nat}(h:za8 bs seq)(hr:RdC T s 1 (bytesOf bs))(hN:5000<N) :
  Tri (z00 [pts j (.cells (z3b d g 0) false),T]) (F_2g N (some ⟨j,0⟩) s) fun r=>pu (r=(0,true)) (z00 [pts j (.cells (z3b d g seq) false),T]):=by
 unfold F_2g;refine z4k 1 rfl hr ?_;refine z79 64 (by omega) fun zb=>?_;refine z4k 0 rfl (bs:=z14) (rd_pts0 (by rw[z0i];simp[z14])) ?_;by_cases hz:bs=z14
 ·have hs:seq=0:=by
   rcases h with⟨_,h2⟩ | ⟨h1,_⟩
   ·exact h2
   ·exfalso;have h4:leN ((z6a seq 0).drop 60)=leN (z14.drop 60):=by rw[h1.symm.trans hz]
    have e:leN ((z6a seq 0).drop 60)=(zae (filled (le 8 seq++le 2 0) 60)).toNat:=by
     unfold z6a z5l;rw[List.drop_left' (by rw[z2i (by rw[List.length_append,z2b,z2b];omega)]),zd4,Nat.mod_eq_of_lt];have:=zmf (filled (le 8 seq++le 2 0) 60)
     omega
    rw[e]at h4;have h5:leN (z14.drop 60)=0:=by decide
    have:=z12u (bs:=filled (le 8 seq++le 2 0) 60) (by rw[z2i (by rw[List.length_append,z2b,z2b];omega)];omega)
    omega
  subst hs;exact z08 (by simp[hz]) (z03 [1,1] fun q hq=>⟨rfl,hq⟩)
 ·rcases h with⟨h1,_⟩ | ⟨h1,h64⟩
  ·exact absurd h1 hz
  subst h1;refine z05 (by simpa using hz) ?_;have hL:(le 8 seq++le 2 0).length=10:=by rw[List.length_append,z2b,z2b]
  refine z02 [2] (zxi (bs:=filled (le 8 seq++le 2 0) 60) hr (by rw[z2i (by omega)];omega) hN) fun r6=>z04 fun h6=>z01 ?_;dsimp only[sel,rem,nth,del,cat,upd];refine z05 (by simp[h6]) ?_;refine z0a 0 rfl fun l6=>?_;have hf:filled (le 8 seq++le 2 0) 60=le 8 seq++(le 2 0++List.replicate 50 0):=by
   unfold filled;rw[hL,List.append_assoc]
  refine z02 [0] (zfl (a:=0) (z:=8) (z0e l6) (by omega) (by omega) (by rw[z2i (by omega)];omega) (by rw[z2i (by omega)];omega) (by omega)) fun r7=>z04 fun h7=>z01 ?_;dsimp only[sel,rem,nth,del,cat,upd];refine z02 [0] (zfl (a:=8) (z:=2) (z0e l6) (by omega) (by omega) (by rw[z2i (by omega)];omega) (by rw[z2i (by omega)];omega) (by omega)) fun r8=>z04 fun h8=>z01 ?_;dsimp only[sel,rem,nth,del,cat,upd];have e7:leN (((filled (le 8 seq++le 2 0) 60).drop 0).take 8)=seq:=by
   rw[List.drop_zero,hf,List.take_left' (z2b _ _),zd4,Nat.mod_eq_of_lt (by simpa using h64)]
  have e8:leN (((filled (le 8 seq++le 2 0) 60).drop 8).take 2)=0:=by
   rw[hf,List.drop_left' (z2b _ _),List.take_left' (z2b _ _),zd4]
  rw[e7]at h7;rw[e8]at h8;subst h7 h8;refine zbx 3 rfl ?_;dsimp only[sel,rem,nth,del,cat,upd];have e9:(z3b d g 0).set 3 (.int .u64 (seq:Int))=z3b d g seq:=rfl;rw[e9];have e10:wr .i64 ((0:Nat):Int)=((0:Nat):Int):=by decide
  rw[e10];have hh:=zil (R:=fun(r:Int×Sl×Int)=>z07 r.2.1 1 (bytesOf (z6a seq 0))) (φ:=fun(r:Int×Sl×Int)=>r.1=1∧r.2.2=0) (znb j (.cells (z3b d g seq) false)) (zgr (N:=N) (cnt:=0) h64 (by omega) hN);refine z02 [3] hh fun r11=>z04 fun _=>z01 ?_;dsimp only[sel,rem,nth,del,cat,upd];refine z0a 0 rfl fun l11=>?_;refine z4k 0 rfl (z0e l11) ?_;refine z4k 3 rfl hr ?_;refine z02 [1,2] (Q:=fun c=>pu (c=true) (z00 [pts j (.cells (z3b d g seq) false),T])) ?_ fun c=>z04 fun hc=>z01 ?_
  ·refine z08 (by simp[z6a]) ?_;rw[frz_ro (zsz _)];refine z02 [0] (zgs hg) fun r14=>z04 fun h14=>z01 (z03 [0,0] fun q hq=>⟨?_,hq⟩);rw[h14];simp
  ·subst hc;exact z03 [0,0] fun q hq=>⟨rfl,hq⟩
end
end Go.Moat

/- Layers 7 and 15: a disk that is mounted. -/
namespace Go.Mini
section
variable{β:Type}{l:List HA}{S:β→HA}{m:M β}
theorem z5u(n:Nat){l1:List HA}(hl:l[n]? = some (z00 l1))(k:Tri (z00 (cat l1 (del l n))) m S):Tri (z00 l) m S:=by
 rw[zh0,zqa,z45]at k;rw[z3f n l hl];exact k
end
end Go.Mini
namespace Go.Moat
open Go.Mini
section
variable{N:Nat}{β:Type}{l:List HA}{S:β→HA}{v d:Nat}{g:Geo}{V:VolS}{m:M β}{T:HA}{D:DskS}
theorem z9x(hd:D.dead=false){i:Nat}(hi:i<D.secs.length):z75 D i=0:=by
 unfold z75;rw[if_pos ⟨by omega,by omega⟩,hd];rfl
theorem zfq(hd:D.dead=false){i:Nat}(hi:i<D.secs.length):Tri (z00 [z1h d D]) (F_05 N (some ⟨d,0⟩) (i:Int)) fun r=>pu (r.2=0) (z00 [z1h d D,z07 r.1 1 (bytesOf (getS D i).b)]):=
 (zn7 (i:Int)).post fun r q hq=>by
  obtain⟨⟨h1,h2⟩,h3⟩:=hq;rw[z9x hd hi]at h1 h3;exact⟨h1,by simpa using h3⟩
theorem zut(hg:g.ok)(hd:D.dead=false)(hl:1+g.J≤D.secs.length){seq:Nat}(hh:za8 (getS D 1).b seq)(hN:5000<N) :
  Tri (z00 [z1h d D]) (F_2h N (some ⟨d,0⟩) 1 (g.J:Int)) fun r=>exA fun j=>pu (r=(some ⟨j,0⟩,0,0)) (z00 [pts j (.cells (z3b d g seq) false),z1h d D]):=by
 have h1:=hg.j1;have h2:=hg.j2;unfold F_2h;refine z05 (by simp) ?_;refine z7o 0 (φ:=D.secs.length≤4096) rfl (fun q ⟨x,h,_⟩=>h.many) fun h4096=>?_;refine z02 [0] (Q:=fun c=>pu (c=false) (z00 [z1h d D])) ?_ fun c=>z04 fun hc=>z01 ?_
 ·refine z08 (by simp;omega) (z02 [0] zay fun r=>z04 fun h=>z01 (z03 [0] fun q hq=>⟨by rw[h];simp;omega,hq⟩))
 subst hc;dsimp only[sel,rem,nth,del,cat,upd];refine z02 [0] (Q:=fun c=>pu (c=false) (z00 [z1h d D])) ?_ fun c=>z04 fun hc=>z01 ?_
 ·refine z08 rfl (z02 [0] zay fun r=>z04 fun h=>z01 (z03 [0] fun q hq=>⟨?_,hq⟩));rw[h,z0f (by omega) (by omega)];simp;omega
 subst hc;dsimp only[sel,rem,nth,del,cat,upd];refine z05 (by simp) ?_;refine z11 fun j=>?_;refine z02 [1] (zfq (N:=N) (i:=1) hd (by omega)) fun r9=>z04 fun h9=>z01 ?_;dsimp only[sel,rem,nth,del,cat,upd];refine z05 (by simp[h9]) ?_;refine z0a 1 rfl fun l9=>?_;refine z02 [2,1] (zuf (T:=z07 r9.1 1 (bytesOf (getS D 1).b)) (d:=d) hg hh (z0e l9) hN) fun r10=>z04 fun h10=>z01 ?_;subst h10;dsimp only[sel,rem,nth,del,cat,upd];refine z05 (by simp) (z08 (by simp) ?_);exact z03 [0,1] fun q hq=>⟨j,rfl,hq⟩
theorem zqo{cs:List MV}{rows own used ino:Sl}{M:MetaS}(hg:g.ok)(ok:MetaOk g M)(rf:RefOk M)(gr:zob g M)
  (c0:cs[0]? = some (.sl rows.p rows.len 2)) (c1:cs[1]? = some (.sl own.p own.len 1)) (c2:cs[2]? = some (.sl used.p used.len 1)) (c3:cs[3]? = some (.sl ino.p ino.len 14)) (c9:cs[9]? = some (.int .i64 g.P)) (hN:5000<N) :
  Tri (z00 [pts v (.cells cs false),z07 rows 2 (z0y M.rows),z07 own 1 (z2g M.own),z07 used 1 (bytesOf M.used),z07 ino 14 (z1t M.ino)]) (F_2o N (some ⟨v,0⟩)) fun r=>pu (r=true) (z00 [pts v (.cells cs false),z07 rows 2 (z0y M.rows),z07 own 1 (z2g M.own),z07 used 1 (bytesOf M.used),z07 ino 14 (z1t M.ino)]):=by
 have hgp:=hg.gp;have hpp:=hg.pp;have hG:=hg.g2;have hI:=hg.i2;have hp1:=hg.p1;have hol:=ok.ownl;have hil:=ok.inol;have hul:=ok.usedl;have h16:=ok.rows.len;let L:=[pts v (.cells cs false),z07 rows 2 (z0y M.rows),z07 own 1 (z2g M.own),z07 used 1 (bytesOf M.used),z07 ino 14 (z1t M.ino)]
 unfold F_2o;refine z0h (z06 (z06 (z06 (z0z 0 rfl c1 ?_))));refine z0a 1 rfl fun l1=>z0a 2 rfl fun l2=>z0a 3 rfl fun l3=>z0a 4 rfl fun l4=>?_;rw[z0o z17]at l1;rw[z2t]at l2;have l4':=l4;rw[z0o z0g]at l4';have taken:∀(r:Nat),r<16→0<(rowN M.rows r).2→Tri (z00 L) (F_1f N (some ⟨v,0⟩) (r:Int)) fun c=>pu (c=true) (z00 L):=by
  intro r hr h0;have hrl:r<M.rows.length:=by omega
  unfold F_1f;refine z0h (z06 (z06 (z06 (z0z 0 rfl c0 ?_))));refine z1v 1 rfl (z0e (by rw[z0o z17];omega)) (i:=r) (o:=1) (by dsimp only;omega) (by omega) (v:=(M.rows[r].2:Nat)) (by rw[z2s z17 hrl (by omega)];rfl) ?_;refine z03 [0,0,0,0,0] fun q hq=>⟨?_,hq⟩;have:rowN M.rows r=M.rows[r]:=by simp[rowN,hrl]
  rw[this]at h0;simp;omega
 have loop1:∀(K k:Nat),g.G - k<K→k≤g.G→Tri (z00 L) (z0l K (F_52 N (some ⟨v,0⟩) ⟨own.p,own.len⟩) (k:Int)) fun r=>pu (r=.inl ()) (z00 L):=by
  intro K;induction K with
  | zero=>intro k h;omega
  | succ K ih=>
   intro k h hk;rw[z16];unfold F_52;by_cases hkG:k<g.G
   ·have hkl:k<M.own.length:=by omega
    refine z08 (by simp;omega) ?_;refine tri_rI 2 rfl (z0e (by rw[z2t];exact l2)) (i:=k) (k :=.i64) (v:=(M.own[k]:Nat)) (by simp[i64s,hkl]) ?_;have ho:=ok.own16 _ (List.getElem_mem hkl);have hrf:=rf.own _ (List.getElem_mem hkl);have hb2:(k+1) * g.P≤g.G * g.P:=Nat.mul_le_mul_right _ hkG;have hb1:k * g.P≤(k+1) * g.P:=Nat.mul_le_mul_right _ (by omega);have hzero:M.own[k]=0→z3j M.used (k * g.P) ((k+1) * g.P)=0:=by
     intro hz;unfold z3j;rw[List.length_eq_zero_iff,List.filter_eq_nil_iff];intro i hi;rw[List.mem_range'_1]at hi;intro hb;have hd:i / g.P=k:=by
      rw[Nat.div_eq_iff (by omega)];have:(k+1) * g.P=k * g.P+g.P:=by rw[Nat.add_mul,Nat.one_mul]
      omega
     have:=gr i (by unfold Geo.B;omega) hb
     rw[hd,List.getElem?_eq_getElem hkl,Option.getD_some,hz]at this;omega
    refine z02 [0,0,0,0,0] (Q:=fun c=>pu (c=false) (z00 L)) ?_ fun c=>z04 fun hc=>z01 ?_
    ·by_cases hz:M.own[k]=0
     ·exact z05 (by simp[hz]) (z03 [0,0,0,0,0] fun q hq=>⟨rfl,hq⟩)
     ·refine z08 (by simp;omega) ?_;have e:wr .i64 (((M.own[k]:Nat):Int) - 1)=((M.own[k] - 1:Nat):Int):=by rw[z0f (by omega) (by omega)];omega
      rw[e];refine z02 [0,0,0,0,0] (taken (M.own[k] - 1) (by omega) (hrf (by omega))) fun c=>z04 fun hc=>z01 (z03 [0,0,0,0,0] fun q hq=>⟨by rw[hc];rfl,hq⟩)
    subst hc;refine z02 [0,0,0,0,0] (Q:=fun c=>pu (c=false) (z00 L)) ?_ fun c=>z04 fun hc=>z01 ?_
    ·refine z08 rfl ?_;refine z02 [0,0,0,0,0] (Q:=fun c=>pu (c=false) (z00 L)) ?_ fun c=>z04 fun hc=>z01 (z03 [0,0,0,0,0] fun q hq=>⟨hc,hq⟩);by_cases hz:M.own[k]=0
     ·refine z08 (by simp[hz]) ?_;unfold F_0q;refine z02 [0,0,0,0,0] (Q:=fun r=>pu (r=0) (z00 L)) ?_ fun r=>z04 fun hr=>z01 (z03 [0,0,0,0,0] fun q hq=>⟨by rw[hr];rfl,hq⟩);refine z0h (z06 (z06 (z06 (z0z 0 rfl c2 ?_))));refine z0h (z06 (z06 (z29 0 rfl c9 ?_)));refine z0h (z06 (z06 (z29 0 rfl c9 ?_)));have e1:(k:Int) * (g.P:Int)=((k * g.P:Nat):Int):=by simp
      have e2:wr .i64 ((k:Int)+1)=((k+1:Nat):Int):=by rw[z0f (by omega) (by omega)];simp
      have e3:((k+1:Nat):Int) * (g.P:Int)=(((k+1) * g.P:Nat):Int):=by simp
      rw[e1,e2,e3,z0f (by omega) (by omega),z0f (by omega) (by omega)];refine z02 [3] (zfj (z0e l3) (by omega) hb1 (by omega) hN) fun r=>z04 fun hr=>z01 ?_;refine z03 [1,1,1,0,0] fun q hq=>⟨?_,hq⟩;rw[hr,hzero hz];rfl
     ·exact z05 (by simp;omega) (z03 [0,0,0,0,0] fun q hq=>⟨rfl,hq⟩)
    subst hc;refine z05 (by simp) ?_;rw[z0f (by omega) (by omega)];exact ih (k+1) (by omega) (by omega)
   ·obtain rfl:k=g.G:=by omega
    exact z05 (by simp;omega) (z1m fun q hq=>⟨rfl,hq⟩)
 have loop2:∀(K k:Nat),M.ino.length - k<K→k≤M.ino.length→Tri (z00 L) (z0l K (F_53 N (some ⟨v,0⟩) ⟨ino.p,ino.len⟩) (k:Int)) fun r=>pu (r=.inl ()) (z00 L):=by
  intro K;induction K with
  | zero=>intro k h;omega
  | succ K ih=>
   intro k h hk;rw[z16];unfold F_53;by_cases hkG:k<M.ino.length
   ·refine z08 (by simp;omega) ?_;refine z5n 4 rfl (s:=⟨ino.p,ino.len⟩) (z0e l4) hkG ?_;rw[z7a];refine z6j ?_;rw[zd2,zfp,zlg];refine z19 (z1s ?_);have hm:=List.getElem_mem hkG;have hr:=(ok.inok _ hm).r;refine z02 [0,0,0,0,0] (Q:=fun c=>pu (c=false) (z00 L)) ?_ fun c=>z04 fun hc=>z01 ?_
    ·by_cases hz:M.ino[k].k=0
     ·exact z05 (by simp[hz]) (z03 [0,0,0,0,0] fun q hq=>⟨rfl,hq⟩)
     ·refine z08 (by simp;omega) (z19 (z1s ?_));rw[z0f (by omega) (by omega)];refine z02 [0,0,0,0,0] (taken _ hr (rf.ino _ hm hz)) fun c=>z04 fun hc=>z01 (z03 [0,0,0,0,0] fun q hq=>⟨by rw[hc];rfl,hq⟩)
    subst hc;refine z05 (by simp) ?_;rw[z0f (by omega) (by omega)];exact ih (k+1) (by omega) (by omega)
   ·obtain rfl:k=M.ino.length:=by omega
    exact z05 (by simp;omega) (z1m fun q hq=>⟨rfl,hq⟩)
 refine z02 [0,0,0,0,0] (loop1 N 0 (by omega) (by omega)) fun r=>z04 fun hr=>z01 ?_;subst hr;dsimp only[sel,rem,nth,del,cat,upd];refine z0h (z06 (z06 (z06 (z0z 0 rfl c3 ?_))));refine z02 [0,0,0,0,0] (loop2 N 0 (by omega) (by omega)) fun r=>z04 fun hr=>z01 ?_;subst hr;exact z03 [0,0,0,0,0] fun q hq=>⟨rfl,hq⟩
structure Clean(g:Geo)(D:DskS)(M:MetaS)(seq:Nat):Prop where
 dead:D.dead=false
 len:g.all≤D.secs.length
 sup:(getS D 0).b=z4u g
 head:za8 (getS D 1).b seq
 known:∀i:Nat,i<g.M→some (getS D ((g.lab+i:Nat):Int)).b=(z2h M)[i]?
def z82(M:MetaS)(D:DskS)(seq:Nat):VolS:=⟨⟨M,[]⟩,D,seq,z2h M,none,false⟩
theorem zlh(hg:g.ok)(hr:g.roomy){M:MetaS}{seq:Nat}(ok:MetaOk g M)(rf:RefOk M)(gr:zob g M)(cl:Clean g D M seq)(hN:5000<N) :
  Tri (z00 [z1h d D]) (F_1g N (some ⟨d,0⟩)) fun r=>exA fun v=>pu (r=(some ⟨v,0⟩,0)) (z00 [z18 v d g (z82 M D seq)]):=by
 have hall:=hg.all_le;have hcl:=cl.len;have hgM:g.M=3+g.I / 2:=rfl;have hlab:g.lab=1+g.J:=rfl;have hblk:g.blk=4+g.J+g.I / 2:=rfl;have hga:g.all=g.blk+g.B:=rfl;have hI:=hg.i2;have hi3:=hg.i3;have hmB:(z2h M).length=g.M:=by
  simp only[z2h,List.length_cons,z5m,ok.inol];omega
 unfold F_1g;refine z05 (by simp) ?_;refine z02 [0] (zfq (N:=N) (i:=0) cl.dead (by omega)) fun r2=>z04 fun h2=>z01 ?_;dsimp only[sel,rem,nth,del,cat,upd];refine z05 (by simp[h2]) (z05 (by simp[h2]) ?_);have e0:(getS D ((0:Nat):Int)).b=z4u g:=cl.sup;rw[e0];refine z0a 1 rfl fun l2=>?_;refine z02 [1] (zuo hg (z0e l2) hN) fun r3=>z04 fun h3=>z01 ?_;subst h3;dsimp only[sel,rem,nth,del,cat,upd];refine z02 [] (zh7 hg) fun r4=>z04 fun h4=>z01 ?_;subst h4;dsimp only[sel,rem,nth,del,cat,upd];rw[frz_ro (zq4 _)];refine z02 [1] (Q:=fun c=>pu (c=false) (z00 [z1h d D])) ?_ fun c=>z04 fun hc=>z01 ?_
 ·refine z08 (by simp) (z02 [0] zay fun r=>z04 fun h=>z01 (z03 [0] fun q hq=>⟨?_,hq⟩));rw[h];simp[Geo.lay];omega
 subst hc;dsimp only[sel,rem,nth,del,cat,upd];have e2:frz (F_01 N (g.t.1,g.t.2.1,g.t.2.2.1,g.t.2.2.2))=F_01 N g.t:=frz_ro (zq1 hg);rw[e2];refine z02 [0] (Q:=fun c=>pu (c=false) (z00 [z1h d D])) ?_ fun c=>z04 fun hc=>z01 ?_
 ·refine z08 rfl (z02 [0] (zld hg) fun r=>z04 fun h=>z01 (z03 [0] fun q hq=>⟨?_,hq⟩));rw[h];simp[hr]
 subst hc;dsimp only[sel,rem,nth,del,cat,upd];refine z05 (by simp) ?_;refine z02 [0] (zut (seq:=seq) (d:=d) hg cl.dead (by omega) cl.head hN) fun r9=>z1g fun j=>z04 fun h9=>z01 ?_;subst h9;dsimp only[sel,rem,nth,del,cat,upd];refine z05 (by simp) ?_;refine z11 fun v=>?_;have em:=zeh (N:=N) hg;have em2:F_03 N (g.t.1,g.t.2.1,g.t.2.2.1,g.t.2.2.2)=ret (g.M:Int):=em;rw[em2];refine z0r ?_;let mC:Sl→Sl→Sl→Sl→Sl→Option Nat→List MV:=fun rows own used ino sf mp=>[.sl rows.p rows.len 2,.sl own.p own.len 1,.sl used.p used.len 1,.sl ino.p ino.len 14,.map mp,.ptr (some ⟨d,0⟩),
  .int .i64 g.J,.int .i64 g.I,.int .i64 g.G,.int .i64 g.P,.int .i64 1,.int .i64 g.lab,.int .i64 (2+g.J:Nat),.int .i64 (3+g.J:Nat),.int .i64 (4+g.J:Nat),.int .i64 g.blk,.int .i64 g.all,
  .ptr (some ⟨j,0⟩),.sl sf.p sf.len 1,.ptr none,.bool false]
 have loop:∀(K k:Nat)(sf:Sl)(L:List (Sl×List UInt8)),g.M - k<K→k≤g.M→L.map (·.2)=(z2h M).take k→(∀e∈L,e.1.len=64∧e.2.length=64) →
   Tri (z00 [pts v (.cells (mC ⟨none,0⟩ ⟨none,0⟩ ⟨none,0⟩ ⟨none,0⟩ sf none) false),z07 sf 1 (z3w L),z1u L,z1h d D]) (z0l K (F_54 N (some ⟨d,0⟩) (g.lay,0) (some ⟨v,0⟩) (g.M:Int)) (k:Int))
   fun _=>exA fun x:Sl×List (Sl×List UInt8)=>pu (x.2.map (·.2)=z2h M∧∀e∈x.2,e.1.len=64∧e.2.length=64) (z00 [pts v (.cells (mC ⟨none,0⟩ ⟨none,0⟩ ⟨none,0⟩ ⟨none,0⟩ x.1 none) false),z07 x.1 1 (z3w x.2),z1u x.2,z1h d D]):=by
  intro K;induction K with
  | zero=>intro k sf L h;omega
  | succ K ih=>
   intro k sf L h hk hL h64;rw[z16];unfold F_54;by_cases hkM:k<g.M
   ·refine z08 (by simp;omega) ?_;have e1:wr .i64 ((g.lay,(0:Int)).1.2.1+(k:Int))=((g.lab+k:Nat):Int):=by
     show wr .i64 ((g.lab:Int)+(k:Int))=_;rw[z0f (by omega) (by omega)];omega
    rw[e1];refine z02 [3] (zfq (N:=N) (i:=g.lab+k) cl.dead (by omega)) fun r14=>z04 fun h14=>z01 ?_;dsimp only[sel,rem,nth,del,cat,upd];have hkn:=cl.known k hkM;generalize (getS D ((g.lab+k:Nat):Int)).b=bs at hkn;have hb64:bs.length=64:=by
     have:=List.mem_of_getElem? hkn.symm
     have rB:(z7p M.rows).length=64:=by rw[z7p,z2k,z5t,ok.rows.len]
     have oB:(zab M.own).length=64:=z2i (by rw[List.length_map,ok.ownl];have:=hg.g2;omega);unfold z2h at this;rcases List.mem_cons.1 this with h | h
     ·rw[h];exact rB
     ·rcases List.mem_cons.1 h with h | h
      ·rw[h];exact oB
      ·rcases List.mem_cons.1 h with h | h
       ·rw[h];exact ok.usedl
       ·obtain⟨i,hi,hx⟩:=List.mem_iff_getElem.1 h;rw[z5m]at hi;have h1:=zac (l:=M.ino) (i:=i) (by omega);rw[List.getElem?_eq_getElem (by rw[z5m];exact hi),hx]at h1;rw[Option.some.inj h1,List.length_append,z2u,z2u]
    refine z0a 1 rfl fun l14=>?_;rw[z0i]at l14;refine z91 2 rfl (o:=18) (p:=sf.p) (ln:=sf.len) rfl ?_;refine z11 fun b18=>?_;refine z0a 4 rfl fun lsf=>?_;have hLl:L.length=k:=by
     have:=congrArg List.length hL
     rw[List.length_map,List.length_take,hmB]at this;omega
    rw[zfi]at lsf;refine z02 [4,0] (z2a (s:=⟨sf.p,sf.len⟩) (T:=pts b18 (.cells [.sl r14.1.p r14.1.len 1] false)) (rd_pts0 (by simp)) (by omega) rfl (by
     have:z1z=70368744177664:=rfl
     dsimp only;omega)) fun l19=>z01 ?_
    dsimp only[sel,rem,nth,del,cat,upd];refine zbx 4 rfl ?_;dsimp only[sel,rem,nth,del,cat,upd];rw[z0f (by omega) (by omega)];have ec:(mC ⟨none,0⟩ ⟨none,0⟩ ⟨none,0⟩ ⟨none,0⟩ sf none).set 18 (.sl l19.p l19.len 1)=mC ⟨none,0⟩ ⟨none,0⟩ ⟨none,0⟩ ⟨none,0⟩ l19 none:=rfl;rw[ec];have es:z3w L++[.sl r14.1.p r14.1.len 1]=z3w (L++[(r14.1,bs)]):=by simp[z3w]
    rw[es];have hn:=ih (k+1) l19 (L++[(r14.1,bs)]) (by omega) (by omega) (by
     rw[List.map_append,hL,List.take_add_one,←hkn];rfl) (by
     intro e he;rcases List.mem_append.1 he with he | he
     ·exact h64 e he
     ·simp at he;subst he;dsimp only;omega)
    refine tri_last [4,0,3,1,1] (hn.pre fun q hq=>?_);refine z1d (fun q=>z1d (fun q hq=>?_)) hq;have ep:z1u (L++[(r14.1,bs)])=z1b (z1u L) (z07 r14.1 1 (bytesOf bs)):=by
     unfold z1u;rw[List.map_append,z45,List.map_cons,List.map_nil,z0v]
    show z1b (z1u (L++[(r14.1,bs)])) (z1b (z1h d D) emp) q;have hq':z1b (z1u L) (z1b (z1h d D) (z1b (z07 r14.1 1 (bytesOf bs)) emp)) q:=hq;rw[ep,z4i];rw[zde (z1h d D) (z07 r14.1 1 (bytesOf bs)) emp]at hq';exact hq'
   ·obtain rfl:k=g.M:=by omega
    refine z05 (by simp) (z1m fun q hq=>⟨(sf,L),⟨?_,h64⟩,hq⟩);rw[hL,List.take_of_length_le (by omega)]
 refine tri_last [0,1,0] (Tri.pre (B:=z00 [pts v (.cells (mC ⟨none,0⟩ ⟨none,0⟩ ⟨none,0⟩ ⟨none,0⟩ ⟨none,0⟩ none) false),z07 ⟨none,0⟩ 1 (z3w []),z1u [],z1h d D,pts j (.cells (z3b d g seq) false)]) ?_ fun q hq=>?_)
 case refine_2=>
  have h1:z00 [pts v (.cells (mC ⟨none,0⟩ ⟨none,0⟩ ⟨none,0⟩ ⟨none,0⟩ ⟨none,0⟩ none) false),z1h d D,pts j (.cells (z3b d g seq) false)] q:=hq;refine z1d (fun q hq=>?_) h1;exact z2r (fun q h =>.nil 1 h) (z2r (fun q h=>h) hq)
 refine z02 [0,0,0,0] (loop N 0 ⟨none,0⟩ [] (by omega) (by omega) rfl (by simp)) fun _=>z1g fun x=>z04 fun ⟨hx1,hx2⟩=>z01 ?_;obtain⟨sf,L⟩:=x;dsimp only at hx1 hx2;dsimp only[sel,rem,nth,del,cat,upd];refine z91 0 rfl (o:=18) (p:=sf.p) (ln:=sf.len) rfl ?_;refine z0a 1 rfl fun lsf=>?_;have hRd:RdL (z00 [z07 sf 1 (z3w L),z1u L]) ⟨sf.p,sf.len⟩ L:=by
  refine⟨(z0e lsf).at 0 rfl,fun e he=>?_⟩;have:=hx2 e he
  exact(zav (P:=L) (s:=e.1) (bs:=e.2) he (by omega)).at 1 rfl
 refine z02 [1,1] (zuj (T:=z00 [z07 sf 1 (z3w L),z1u L]) hg ok hRd hx1 hN |>.pre fun q hq=>by rw[z0v];exact hq) fun r26=>z04 fun h26=>z01 ?_;dsimp only[sel,rem,nth,del,cat,upd];refine z5u 4 rfl ?_;dsimp only[sel,rem,nth,del,cat,upd];refine z0h (z06 (z06 ?_));refine z5c 6 rfl rfl (by simp[mC]) rfl ?_;have ec:z0x (mC ⟨none,0⟩ ⟨none,0⟩ ⟨none,0⟩ ⟨none,0⟩ sf none) (0+0+0) [.sl r26.1.1.p r26.1.1.len 2,.sl r26.1.2.1.p r26.1.2.1.len 1,.sl r26.1.2.2.1.p r26.1.2.2.1.len 1,.sl r26.1.2.2.2.p r26.1.2.2.2.len 14]=mC r26.1.1 r26.1.2.1 r26.1.2.2.1 r26.1.2.2.2 sf none:=rfl;rw[ec];dsimp only[sel,rem,nth,del,cat,upd];refine z02 [6,2,2,2,2] (Q:=fun c=>pu (c=false) (z00 [pts v (.cells (mC r26.1.1 r26.1.2.1 r26.1.2.2.1 r26.1.2.2.2 sf none) false),z07 r26.1.1 2 (z0y M.rows),z07 r26.1.2.1 1 (z2g M.own),z07 r26.1.2.2.1 1 (bytesOf M.used),z07 r26.1.2.2.2 14 (z1t M.ino)])) ?_ fun c=>z04 fun hc=>z01 ?_
 ·refine z08 (by simp[h26]) ?_;refine z02 [0,0,0,0,0] (zqo hg ok rf gr rfl rfl rfl rfl rfl hN) fun r=>z04 fun h=>z01 (z03 [0,0,0,0,0] fun q hq=>⟨by rw[h];rfl,hq⟩)
 subst hc;dsimp only[sel,rem,nth,del,cat,upd];refine z05 (by simp) ?_;refine zxb .i64 fun mb=>?_;refine z0h (z06 (z06 (z1x 1 rfl (by simp[mC]) rfl ?_)));dsimp only[sel,rem,nth,del,cat,upd];refine z03 [1,1,1,1,1,0,1,1,1,0] fun q hq=>⟨v,rfl,?_⟩;have hq2:z00 (volL v d g (z82 M D seq) ⟨⟨r26.1.1,r26.1.2.1,r26.1.2.2.1,r26.1.2.2.2,mb,d,j,sf,none,false⟩,[],L,L⟩) q:=by
  have h1:=hq;dsimp only[sel,rem,nth,del,cat,upd]at h1;refine z1d (fun q=>z1d (fun q=>z1d (fun q=>z1d (fun q=>z1d (fun q=>z1d (fun q=>z1d (fun q=>z1d (fun q=>z1d fun q hq=>?_)))))))) h1;have h2:z1b (z07 sf 1 (z3w L)) emp q:=hq;show z1b (z07 sf 1 (z3w L)) (z1b emp emp) q;rw[z3n emp];exact h2
 exact z1p ⟨rfl,⟨by simp,by simp,by simp⟩,hx1,fun e he=>⟨he,hx2 e he⟩,rfl⟩ rfl hq2
end
end Go.Moat
