/- Layers 7 and 15: a disk is laid, and mounted, when nothing is to be done again. -/
import Derived.Test.YtcaaljlhljemoaaGreatP15g
namespace Go.Moat
open Go.Mini
section
variable{N:Nat}{β:Type}{l:List HA}{S:β→HA}{v d:Nat}{g:Geo}{V:VolS}{m:M β}{T:HA}{D:DskS}
theorem zkr(hd:D.dead=false)(hf:D.fuse = -1){i:Nat}(hi:i<D.secs.length){bs:List UInt8}(h64:bs.length=64)(t:Int) :
  writeE D i bs=0∧z6u D i bs t={D with secs:=D.secs.set i ⟨bs,t⟩,waits:=D.waits++[⟨i,D.secs[i],⟨bs,t⟩⟩],done:=D.done+1}:=by
 have hc:0≤(i:Int)∧(i:Int)<D.secs.length∧bs.length=64:=⟨by omega,by omega,h64⟩;have hp:powerE D=0:=by unfold powerE;rw[hd,hf];rfl
 have hpd:z45 D={D with done:=D.done+1}:=by
  unfold z45;rw[hd,hf];simp
 unfold writeE z6u;rw[if_pos hc,if_pos hc,hp,if_pos rfl,hpd];refine⟨rfl,?_⟩;rw[Int.toNat_natCast,List.getElem?_eq_getElem hi];rfl
theorem zks(hd:D.dead=false)(hf:D.fuse = -1):powerE D=0∧z68 D={D with waits:=[],done:=D.done+1}:=by
 have hp:powerE D=0:=by unfold powerE;rw[hd,hf];rfl
 have hpd:z45 D={D with done:=D.done+1}:=by
  unfold z45;rw[hd,hf];simp
 refine⟨hp,?_⟩;unfold z68;rw[if_pos hp,hpd]
def zpz(g:Geo):SecS:=⟨z4p g,0⟩
def z81(g:Geo):DskS:=⟨(List.replicate g.all z3w).set 0 (zpz g),[],false,-1,g.all+1⟩
theorem zik{α:Type}{A:HA}{m:M α}{φ:α→Prop}{R:α→HA}(hA:zhv A)(t:Tri (z00 [A]) m fun a=>pu (φ a) (z00 [R a,A])):Tri (z00 [A]) (frz m) fun a=>pu (φ a) (z00 [R a,A]):=by
 have e:∀(X:HA),z00 [X,A]=z1a A X:=fun X=>by
  show z1a X (z1a A emp)=_;rw[z40,z9i]
 rw[z0y]at t ⊢;refine(zqe (R:=fun a=>pu (φ a) (R a)) hA (t.post fun a q hq=>?_)).post fun a q hq=>?_
 ·have h2:=hq.2;rw[e]at h2;obtain⟨q1,q2,k1,k2,k3⟩:=h2;exact⟨q1,q2,k1,⟨hq.1,k2⟩,k3⟩
 ·obtain⟨q1,q2,k1,⟨k0,k2⟩,k3⟩:=hq;refine⟨k0,?_⟩;rw[e];exact⟨q1,q2,k1,k2,k3⟩
theorem zsv:∀(bs:List UInt8)(v:Int×Int),1≤v.1→v.1+255 * bs.length≤60000→1≤(bs.foldl (fun v c=>(wr .u32 (v.1+wr .u32 c.toNat),wr .u32 (v.2+wr .u32 (v.1+wr .u32 c.toNat)))) v).1∧(bs.foldl (fun v c=>(wr .u32 (v.1+wr .u32 c.toNat),wr .u32 (v.2+wr .u32 (v.1+wr .u32 c.toNat)))) v).1≤v.1+255 * bs.length
 | [],v,h1,h2=>⟨h1,by simp⟩
 | b::r,v,h1,h2=>by
  have hb:b.toNat<256:=b.toNat_lt;simp only[List.length_cons]at h2;rw[List.foldl_cons];have e:wr .u32 (v.1+wr .u32 (b.toNat:Int))=v.1+b.toNat:=by rw[wr32 (n:=(b.toNat:Int)) (by omega) (by omega),wr32 (by omega) (by omega)]
  have:=zsv r (wr .u32 (v.1+wr .u32 b.toNat),wr .u32 (v.2+wr .u32 (v.1+wr .u32 b.toNat))) (by dsimp only;rw[e];omega) (by dsimp only;rw[e];omega)
  refine⟨this.1,Int.le_trans this.2 ?_⟩;dsimp only;rw[e,List.length_cons];omega
theorem z12x{bs:List UInt8}(h:bs.length≤100):0<za5 bs:=by
 obtain⟨h1,h2⟩:=zsv bs (1,0) (by decide) (by dsimp only;omega);change 1≤(zct bs).1 at h1;change(zct bs).1≤1+255 * bs.length at h2;unfold za5;obtain⟨n,hn⟩:∃n:Nat,(zct bs).1=n:=⟨(zct bs).1.toNat,by omega⟩;have e:(zct bs).1.tmod 65521=(n:Int):=by
  rw[hn];have:(n:Int).tmod 65521=((n%65521:Nat):Int):=rfl
  rw[this,Nat.mod_eq_of_lt (by omega)]
 rw[e];obtain⟨k1,k2⟩:=zxq (k :=.u32) (((zct bs).2.tmod 65521) * 2^(Min.min (16:Int).toNat IntKind.u32.bits)) rfl;have hs:z6q .u32 ((zct bs).2.tmod 65521) 16=wr .u32 (((zct bs).2.tmod 65521) * 2^(Min.min (16:Int).toNat IntKind.u32.bits)):=rfl;rw[hs];generalize wr .u32 (((zct bs).2.tmod 65521) * 2^(Min.min (16:Int).toNat IntKind.u32.bits))=x at k1 k2;obtain⟨a,rfl⟩:∃a:Nat,x=a:=⟨x.toNat,by omega⟩;have k3:(2:Int)^IntKind.u32.bits=4294967296:=by decide
 rw[(zcd (k :=.u32) rfl (a:=a) (b:=n) (by show a<4294967296;omega) (by show n<4294967296;omega)).2.1];have:n≤a ||| n:=Nat.right_le_or
 omega
theorem z12y(n:Int):RO (F_0n N n):=by
 unfold F_0n;split
 ·exact z5c _
 ·exact z5c _
theorem zq0(hg:g.ok):RO (F_01 N g.t):=by
 unfold F_01;refine z103 fun _=>?_;have e:=zec (N:=N) hg;unfold Geo.t at e ⊢;rw[e];exact z60 (z5c _) fun _=>z60 (z12y _) fun _=>z5c _
theorem zrr(hg:g.ok)(hr:g.roomy)(hN:5000<N):Tri (z00 [z1b d (zap g.all)]) (F_25 N (some ⟨d,0⟩) g.t) fun r=>pu (r=0) (z00 [z1b d (z81 g)]):=by
 have hall:=hg.all_le;have hpos:0<g.all:=by unfold Geo.all Geo.blk;omega
 unfold F_25;refine z02 [] (zhc hg) fun r3=>z04 fun h3=>z01 ?_;subst h3;dsimp only[sel,rem,nth,del,cat,upd];refine z05 (by simp) ?_;rw[za2 (zq5 _)];refine z02 [0] (Q:=fun c=>pu (c=false) (z00 [z1b d (zap g.all)])) ?_ fun c=>z04 fun hc=>z01 ?_
 ·refine z07 (by simp) (z02 [0] z93 fun r=>z04 fun h=>z01 (z03 [0] fun q hq=>⟨?_,hq⟩));rw[h];simp[zap,Geo.lay]
 subst hc;dsimp only[sel,rem,nth,del,cat,upd];have e2:frz (F_01 N (g.t.1,g.t.2.1,g.t.2.2.1,g.t.2.2.2))=F_01 N g.t:=za2 (zq0 hg);rw[e2];refine z02 [0] (Q:=fun c=>pu (c=false) (z00 [z1b d (zap g.all)])) ?_ fun c=>z04 fun hc=>z01 ?_
 ·refine z07 rfl (z02 [0] (zl5 hg) fun r=>z04 fun h=>z01 (z03 [0] fun q hq=>⟨?_,hq⟩));rw[h];simp[hr]
 subst hc;dsimp only[sel,rem,nth,del,cat,upd];refine z05 (by simp) ?_;refine z02 [] (zn5 hg hN) fun r8=>z04 fun h8=>z01 ?_;dsimp only[sel,rem,nth,del,cat,upd];have loop:∀(K j:Nat)(b:Sl)(bs:List UInt8)(D:DskS),g.all - j<K→j≤g.all→bs=(if j=0 then z4p g else z14)→b.len=64→D.dead=false→D.fuse = -1→D.done=j→D.waits.length=j →
   D.secs=(if j=0 then List.replicate g.all z3w else(List.replicate g.all z3w).set 0 (zpz g)) →
   Tri (z00 [z08 b 1 (bytesOf bs),z1b d D]) (z0l K (F_48 N (some ⟨d,0⟩) (g.lay,0)) (b,(j:Int))) fun r=>exA fun D'=>pu (r=.inl ()∧D'.dead=false∧D'.fuse = -1∧D'.done=(g.all:Int)∧D'.secs=(List.replicate g.all z3w).set 0 (zpz g)) (z00 [z1b d D']):=by
  intro K;induction K with
  | zero=>intro j b bs D h;omega
  | succ K ih=>
   intro j b bs D h hj hbs hb h1 h2 h3 h4 h5;rw[z18];unfold F_48;by_cases hjk:j<g.all
   ·refine z07 (by simp[Geo.lay];omega) ?_;have h64:bs.length=64:=by
     rw[hbs];split
     ·exact za6 g
     ·simp[z14]
    have hjl:j<D.secs.length:=by
     rw[h5];split<;>simp<;>omega
    obtain⟨e1,e2⟩:=zkr h1 h2 hjl h64 0;refine z02 [1,0] (zuh (N:=N) (j:Int) 0 (by omega) (by omega) (by omega) (by omega)) fun r=>z04 fun hr'=>z01 ?_;dsimp only[sel,rem,nth,del,cat,upd];rw[e1]at hr';rw[e2];refine z05 (by simp[hr']) ?_;refine z6z 64 (by omega) fun sb=>?_;refine z86 0 (B:=z08 ⟨some ⟨sb,0⟩,64⟩ 1 (bytesOf z14)) rfl (fun q hq =>.mk (by rw[z0e];simp[z14]) hq) ?_;dsimp only[sel,rem,nth,del,cat,upd];rw[z0i (by omega) (by omega)];refine tri_last [0,0] (ih (j+1) ⟨some ⟨sb,0⟩,64⟩ z14 _ (by omega) (by omega) (by rw[if_neg (by omega)]) rfl h1 h2 (by dsimp only;omega) (by dsimp only;rw[List.length_append,h4];rfl) ?_);dsimp only;rw[if_neg (by omega),h5];by_cases hj0:j=0
    ·subst hj0;rw[if_pos rfl]at hbs ⊢;rw[hbs];rfl
    ·rw[if_neg hj0]at hbs ⊢;rw[hbs];apply List.ext_getElem (by simp);intro i hi1 hi2;rw[List.getElem_set];split
     ·rename_i hji;subst hji;rw[List.getElem_set_ne (by omega),List.getElem_replicate];rfl
     ·rfl
   ·obtain rfl:j=g.all:=by omega
    refine z05 (by simp[Geo.lay]) (z03 [1] fun q hq=>⟨D,⟨rfl,h1,h2,h3,?_⟩,hq⟩);rw[h5,if_neg (by omega)]
 refine z0c 0 rfl fun h0=>?_;rw[z0e,za6]at h0;refine z02 [0,0] (loop N 0 r8.1 (z4p g) (zap g.all) (by omega) (by omega) (by rw[if_pos rfl]) (by omega) rfl rfl rfl rfl (by rw[if_pos rfl];rfl)) fun r=>z1w fun D'=>z04 fun ⟨k1,k2,k3,k4,k5⟩=>z01 ?_;subst k1;dsimp only[sel,rem,nth,del,cat,upd];obtain⟨e1,e2⟩:=zks k2 k3;refine z02 [0] (zkv (N:=N) (by omega) (by omega)) fun r=>z04 fun hr'=>z01 (z03 [0] fun q hq=>⟨by rw[hr',e1],?_⟩);rw[e2]at hq;have:({D' with waits:=[],done:=D'.done+1}:DskS)=z81 g:=by
  unfold z81;rw[←k5,←k2,←k3,k4]
 rw[this]at hq;exact hq
def z4m(seq cnt:Nat):List UInt8:=z5e (z1y (le 8 seq++le 2 cnt) 60)
theorem z71(seq cnt:Nat):(z4m seq cnt).length=64:=by
 unfold z4m;rw[z8o,filled_len (by rw[List.length_append,z29,z29];omega)]
theorem z11h(k n:Nat):z3t k [n]=le k n:=by simp[z3t]
theorem zgt{j:Nat}{seq cnt:Nat}{sq:Nat}(h1:seq<2^64)(h2:cnt<65536)(hN:5000<N):Tri (z00 [pts j (.cells (z3f d g sq) false)]) (F_0g N (some ⟨j,0⟩) (seq:Int) (cnt:Int)) fun r=>pu (r.1=1∧r.2.2=0) (z00 [z08 r.2.1 1 (bytesOf (z4m seq cnt)),pts j (.cells (z3f d g sq) false)]):=by
 unfold F_0g;refine z0z fun b=>?_;refine z02 [0] (z96 (size:=8) (ns:=[seq]) (T:=pts b (.cells [.int .u64 seq] false)) (by omega) (by omega) (rd_pts0 (by simp)) (by
  intro n hn;simp at hn;subst hn;exact h1) (by simp) hN) fun r5=>z04 fun h5=>z01 ?_
 dsimp only[sel,rem,nth,del,cat,upd];rw[z6a (by omega) (by omega)];refine z0z fun b6=>?_;refine z02 [0] (z96 (size:=2) (ns:=[cnt]) (T:=pts b6 (.cells [.int .u64 cnt] false)) (by omega) (by omega) (rd_pts0 (by simp)) (by
  intro n hn;simp at hn;subst hn;exact h2) (by simp) hN) fun r7=>z04 fun h7=>z01 ?_
 dsimp only[sel,rem,nth,del,cat,upd];rw[z11h,z11h];refine z0c 0 rfl fun l7=>z0c 2 rfl fun l5=>?_;have hm:most=70368744177664:=rfl;rw[z0e,z29]at l7 l5;refine z02 [2,0] (z2y (z0k (by rw[z0e,z29];omega)) (by omega) (z4z _) (by omega)) fun r8=>z01 ?_;dsimp only[sel,rem,nth,del,cat,upd];rw[←z8v];refine z0c 0 rfl fun l8=>?_;refine z02 [0] (zd7 (n:=60) (z0k l8) (by rw[List.length_append,z29,z29];omega) (by omega)) fun r9=>z04 fun h9=>z01 ?_;dsimp only[sel,rem,nth,del,cat,upd];refine z85 5 rfl (v:=1) rfl ?_;refine z0c 0 rfl fun l9=>?_;refine z02 [0] (zik (φ:=fun _=>True) (R:=fun r=>z08 r 1 (bytesOf (z4m seq cnt))) zxg ((zn4 (z0k l9) (by rw[filled_len (by rw[List.length_append,z29,z29];omega)];omega) hN).post fun r q hq=>⟨trivial,hq⟩)) fun r13=>z04 fun _=>z01 ?_;dsimp only[sel,rem,nth,del,cat,upd];exact z03 [0,5] fun q hq=>⟨⟨rfl,rfl⟩,hq⟩
def za1(b:List UInt8)(seq:Nat):Prop:=(b=z14∧seq=0)∨(b=z4m seq 0∧seq<2^64)
theorem za1.len{b:List UInt8}{seq:Nat}(h:za1 b seq):b.length=64:=by
 rcases h with⟨rfl,_⟩ | ⟨rfl,_⟩
 ·simp[z14]
 ·exact z71 _ _
theorem zsw(p:Option MA):RO (F_0a N p):=by
 unfold F_0a;split
 ·exact z5c _
 ·exact z60 (zd5 _) fun _=>z60 (zgw _ _) fun _=>z60 (zx5 _ _) fun _=>z5c _
def z4n(n:Nat):Nat:=(n - 1) - (n - 1+15) / 16
theorem zgu{j sq:Nat}(hg:g.ok):Tri (z00 [pts j (.cells (z3f d g sq) false)]) (F_0a N (some ⟨j,0⟩)) fun r=>pu (r=(z4n g.J:Nat)) (z00 [pts j (.cells (z3f d g sq) false)]):=by
 have h1:=hg.j1;have h2:=hg.j2;unfold F_0a;refine z05 (by simp) (z85 0 rfl (v:=g.J) rfl (z03 [0] fun q hq=>⟨?_,hq⟩));have e1:wr .i64 ((g.J:Int) - 1)=((g.J - 1:Nat):Int):=by rw[z0i (by omega) (by omega)];omega
 have e2:wr .i64 (((g.J - 1:Nat):Int)+15)=((g.J - 1+15:Nat):Int):=by rw[z0i (by omega) (by omega)];omega
 have e3:((g.J - 1+15:Nat):Int).tdiv 16=(((g.J - 1+15) / 16:Nat):Int):=rfl;rw[e1,e2,e3,z0i (n:=(((g.J - 1+15) / 16:Nat):Int)) (by omega) (by omega),z0i (by omega) (by omega)];unfold z4n;omega
theorem zug{j:Nat}(hg:g.ok){s:Sl}{bs:List UInt8}{seq:Nat}(h:za1 bs seq)(hr:RdC T s 1 (bytesOf bs))(hN:5000<N) :
  Tri (z00 [pts j (.cells (z3f d g 0) false),T]) (F_29 N (some ⟨j,0⟩) s) fun r=>pu (r=(0,true)) (z00 [pts j (.cells (z3f d g seq) false),T]):=by
 unfold F_29;refine z4t 1 rfl hr ?_;refine z6z 64 (by omega) fun zb=>?_;refine z4t 0 rfl (bs:=z14) (rd_pts0 (by rw[z0e];simp[z14])) ?_;by_cases hz:bs=z14
 ·have hs:seq=0:=by
   rcases h with⟨_,h2⟩ | ⟨h1,_⟩
   ·exact h2
   ·exfalso;have h4:leN ((z4m seq 0).drop 60)=leN (z14.drop 60):=by rw[h1.symm.trans hz]
    have e:leN ((z4m seq 0).drop 60)=(za5 (z1y (le 8 seq++le 2 0) 60)).toNat:=by
     unfold z4m z5e;rw[List.drop_left' (by rw[filled_len (by rw[List.length_append,z29,z29];omega)]),zcu,Nat.mod_eq_of_lt];have:=zm1 (z1y (le 8 seq++le 2 0) 60)
     omega
    rw[e]at h4;have h5:leN (z14.drop 60)=0:=by decide
    have:=z12x (bs:=z1y (le 8 seq++le 2 0) 60) (by rw[filled_len (by rw[List.length_append,z29,z29];omega)];omega)
    omega
  subst hs;exact z07 (by simp[hz]) (z03 [1,1] fun q hq=>⟨rfl,hq⟩)
 ·rcases h with⟨h1,_⟩ | ⟨h1,h64⟩
  ·exact absurd h1 hz
  subst h1;refine z05 (by simpa using hz) ?_;have hL:(le 8 seq++le 2 0).length=10:=by rw[List.length_append,z29,z29]
  refine z02 [2] (zxp (bs:=z1y (le 8 seq++le 2 0) 60) hr (by rw[filled_len (by omega)];omega) hN) fun r6=>z04 fun h6=>z01 ?_;dsimp only[sel,rem,nth,del,cat,upd];refine z05 (by simp[h6]) ?_;refine z0c 0 rfl fun l6=>?_;have hf:z1y (le 8 seq++le 2 0) 60=le 8 seq++(le 2 0++List.replicate 50 0):=by
   unfold z1y;rw[hL,List.append_assoc]
  refine z02 [0] (zfk (a:=0) (z:=8) (z0k l6) (by omega) (by omega) (by rw[filled_len (by omega)];omega) (by rw[filled_len (by omega)];omega) (by omega)) fun r7=>z04 fun h7=>z01 ?_;dsimp only[sel,rem,nth,del,cat,upd];refine z02 [0] (zfk (a:=8) (z:=2) (z0k l6) (by omega) (by omega) (by rw[filled_len (by omega)];omega) (by rw[filled_len (by omega)];omega) (by omega)) fun r8=>z04 fun h8=>z01 ?_;dsimp only[sel,rem,nth,del,cat,upd];have e7:leN (((z1y (le 8 seq++le 2 0) 60).drop 0).take 8)=seq:=by
   rw[List.drop_zero,hf,List.take_left' (z29 _ _),zcu,Nat.mod_eq_of_lt (by simpa using h64)]
  have e8:leN (((z1y (le 8 seq++le 2 0) 60).drop 8).take 2)=0:=by
   rw[hf,List.drop_left' (z29 _ _),List.take_left' (z29 _ _),zcu]
  rw[e7]at h7;rw[e8]at h8;subst h7 h8;refine zbp 3 rfl ?_;dsimp only[sel,rem,nth,del,cat,upd];have e9:(z3f d g 0).set 3 (.int .u64 (seq:Int))=z3f d g seq:=rfl;rw[e9];have e10:wr .i64 ((0:Nat):Int)=((0:Nat):Int):=by decide
  rw[e10];have hh:=zik (R:=fun(r:Int×Sl×Int)=>z08 r.2.1 1 (bytesOf (z4m seq 0))) (φ:=fun(r:Int×Sl×Int)=>r.1=1∧r.2.2=0) (zn1 j (.cells (z3f d g seq) false)) (zgt (N:=N) (cnt:=0) h64 (by omega) hN);refine z02 [3] hh fun r11=>z04 fun _=>z01 ?_;dsimp only[sel,rem,nth,del,cat,upd];refine z0c 0 rfl fun l11=>?_;refine z4t 0 rfl (z0k l11) ?_;refine z4t 3 rfl hr ?_;refine z02 [1,2] (Q:=fun c=>pu (c=true) (z00 [pts j (.cells (z3f d g seq) false),T])) ?_ fun c=>z04 fun hc=>z01 ?_
  ·refine z07 (by simp[z4m]) ?_;rw[za2 (zsw _)];refine z02 [0] (zgu hg) fun r14=>z04 fun h14=>z01 (z03 [0,0] fun q hq=>⟨?_,hq⟩);rw[h14];simp
  ·subst hc;exact z03 [0,0] fun q hq=>⟨rfl,hq⟩
end
end Go.Moat

/- Layers 7 and 15: a disk that is mounted. -/
namespace Go.Mini
section
variable{β:Type}{l:List HA}{S:β→HA}{m:M β}
theorem z5l(n:Nat){l1:List HA}(hl:l[n]? = some (z00 l1))(k:Tri (z00 (cat l1 (del l n))) m S):Tri (z00 l) m S:=by
 rw[zh5,zqc,z3x]at k;rw[stars_pick n l hl];exact k
end
end Go.Mini
namespace Go.Moat
open Go.Mini
section
variable{N:Nat}{β:Type}{l:List HA}{S:β→HA}{v d:Nat}{g:Geo}{V:VolS}{m:M β}{T:HA}{D:DskS}
theorem z9o(hd:D.dead=false){i:Nat}(hi:i<D.secs.length):z6d D i=0:=by
 unfold z6d;rw[if_pos ⟨by omega,by omega⟩,hd];rfl
theorem zfp(hd:D.dead=false){i:Nat}(hi:i<D.secs.length):Tri (z00 [z1b d D]) (F_05 N (some ⟨d,0⟩) (i:Int)) fun r=>pu (r.2=0) (z00 [z1b d D,z08 r.1 1 (bytesOf (getS D i).b)]):=
 (zh1 (i:Int)).post fun r q hq=>by
  obtain⟨⟨h1,h2⟩,h3⟩:=hq;rw[z9o hd hi]at h1 h3;exact⟨h1,by simpa using h3⟩
theorem zut(hg:g.ok)(hd:D.dead=false)(hl:1+g.J≤D.secs.length){seq:Nat}(hh:za1 (getS D 1).b seq)(hN:5000<N) :
  Tri (z00 [z1b d D]) (F_2a N (some ⟨d,0⟩) 1 (g.J:Int)) fun r=>exA fun j=>pu (r=(some ⟨j,0⟩,0,0)) (z00 [pts j (.cells (z3f d g seq) false),z1b d D]):=by
 have h1:=hg.j1;have h2:=hg.j2;unfold F_2a;refine z05 (by simp) ?_;refine z5u 0 (φ:=D.secs.length≤4096) rfl (fun q ⟨x,h,_⟩=>h.many) fun h4096=>?_;refine z02 [0] (Q:=fun c=>pu (c=false) (z00 [z1b d D])) ?_ fun c=>z04 fun hc=>z01 ?_
 ·refine z07 (by simp;omega) (z02 [0] z93 fun r=>z04 fun h=>z01 (z03 [0] fun q hq=>⟨by rw[h];simp;omega,hq⟩))
 subst hc;dsimp only[sel,rem,nth,del,cat,upd];refine z02 [0] (Q:=fun c=>pu (c=false) (z00 [z1b d D])) ?_ fun c=>z04 fun hc=>z01 ?_
 ·refine z07 rfl (z02 [0] z93 fun r=>z04 fun h=>z01 (z03 [0] fun q hq=>⟨?_,hq⟩));rw[h,z0i (by omega) (by omega)];simp;omega
 subst hc;dsimp only[sel,rem,nth,del,cat,upd];refine z05 (by simp) ?_;refine z0z fun j=>?_;refine z02 [1] (zfp (N:=N) (i:=1) hd (by omega)) fun r9=>z04 fun h9=>z01 ?_;dsimp only[sel,rem,nth,del,cat,upd];refine z05 (by simp[h9]) ?_;refine z0c 1 rfl fun l9=>?_;refine z02 [2,1] (zug (T:=z08 r9.1 1 (bytesOf (getS D 1).b)) (d:=d) hg hh (z0k l9) hN) fun r10=>z04 fun h10=>z01 ?_;subst h10;dsimp only[sel,rem,nth,del,cat,upd];refine z05 (by simp) (z07 (by simp) ?_);exact z03 [0,1] fun q hq=>⟨j,rfl,hq⟩
theorem zqq{cs:List MV}{rows own used ino:Sl}{M:MetaS}(hg:g.ok)(ok:MetaOk g M)(rf:RefOk M)(gr:zo0 g M)
  (c0:cs[0]? = some (.sl rows.p rows.len 2)) (c1:cs[1]? = some (.sl own.p own.len 1)) (c2:cs[2]? = some (.sl used.p used.len 1)) (c3:cs[3]? = some (.sl ino.p ino.len 14)) (c9:cs[9]? = some (.int .i64 g.P)) (hN:5000<N) :
  Tri (z00 [pts v (.cells cs false),z08 rows 2 (z13 M.rows),z08 own 1 (z3i M.own),z08 used 1 (bytesOf M.used),z08 ino 14 (z2b M.ino)]) (F_2h N (some ⟨v,0⟩)) fun r=>pu (r=true) (z00 [pts v (.cells cs false),z08 rows 2 (z13 M.rows),z08 own 1 (z3i M.own),z08 used 1 (bytesOf M.used),z08 ino 14 (z2b M.ino)]):=by
 have hgp:=hg.gp;have hpp:=hg.pp;have hG:=hg.g2;have hI:=hg.i2;have hp1:=hg.p1;have hol:=ok.ownl;have hil:=ok.inol;have hul:=ok.usedl;have h16:=ok.rows.len;let L:=[pts v (.cells cs false),z08 rows 2 (z13 M.rows),z08 own 1 (z3i M.own),z08 used 1 (bytesOf M.used),z08 ino 14 (z2b M.ino)]
 unfold F_2h;refine z0m (z06 (z06 (z06 (z16 0 rfl c1 ?_))));refine z0c 1 rfl fun l1=>z0c 2 rfl fun l2=>z0c 3 rfl fun l3=>z0c 4 rfl fun l4=>?_;rw[z0p z1c]at l1;rw[z34]at l2;have l4':=l4;rw[z0p z0h]at l4';have taken:∀(r:Nat),r<16→0<(rowN M.rows r).2→Tri (z00 L) (F_1b N (some ⟨v,0⟩) (r:Int)) fun c=>pu (c=true) (z00 L):=by
  intro r hr h0;have hrl:r<M.rows.length:=by omega
  unfold F_1b;refine z0m (z06 (z06 (z06 (z16 0 rfl c0 ?_))));refine z1s 1 rfl (z0k (by rw[z0p z1c];omega)) (i:=r) (o:=1) (by dsimp only;omega) (by omega) (v:=(M.rows[r].2:Nat)) (by rw[z2u z1c hrl (by omega)];rfl) ?_;refine z03 [0,0,0,0,0] fun q hq=>⟨?_,hq⟩;have:rowN M.rows r=M.rows[r]:=by simp[rowN,hrl]
  rw[this]at h0;simp;omega
 have loop1:∀(K k:Nat),g.G - k<K→k≤g.G→Tri (z00 L) (z0l K (F_4l N (some ⟨v,0⟩) ⟨own.p,own.len⟩) (k:Int)) fun r=>pu (r=.inl ()) (z00 L):=by
  intro K;induction K with
  | zero=>intro k h;omega
  | succ K ih=>
   intro k h hk;rw[z18];unfold F_4l;by_cases hkG:k<g.G
   ·have hkl:k<M.own.length:=by omega
    refine z07 (by simp;omega) ?_;refine z3h 2 rfl (z0k (by rw[z34];exact l2)) (i:=k) (k :=.i64) (v:=(M.own[k]:Nat)) (by simp[i64s,hkl]) ?_;have ho:=ok.own16 _ (List.getElem_mem hkl);have hrf:=rf.own _ (List.getElem_mem hkl);have hb2:(k+1) * g.P≤g.G * g.P:=Nat.mul_le_mul_right _ hkG;have hb1:k * g.P≤(k+1) * g.P:=Nat.mul_le_mul_right _ (by omega);have hzero:M.own[k]=0→z39 M.used (k * g.P) ((k+1) * g.P)=0:=by
     intro hz;unfold z39;rw[List.length_eq_zero_iff,List.filter_eq_nil_iff];intro i hi;rw[List.mem_range'_1]at hi;intro hb;have hd:i / g.P=k:=by
      rw[Nat.div_eq_iff (by omega)];have:(k+1) * g.P=k * g.P+g.P:=by rw[Nat.add_mul,Nat.one_mul]
      omega
     have:=gr i (by unfold Geo.B;omega) hb
     rw[hd,List.getElem?_eq_getElem hkl,Option.getD_some,hz]at this;omega
    refine z02 [0,0,0,0,0] (Q:=fun c=>pu (c=false) (z00 L)) ?_ fun c=>z04 fun hc=>z01 ?_
    ·by_cases hz:M.own[k]=0
     ·exact z05 (by simp[hz]) (z03 [0,0,0,0,0] fun q hq=>⟨rfl,hq⟩)
     ·refine z07 (by simp;omega) ?_;have e:wr .i64 (((M.own[k]:Nat):Int) - 1)=((M.own[k] - 1:Nat):Int):=by rw[z0i (by omega) (by omega)];omega
      rw[e];refine z02 [0,0,0,0,0] (taken (M.own[k] - 1) (by omega) (hrf (by omega))) fun c=>z04 fun hc=>z01 (z03 [0,0,0,0,0] fun q hq=>⟨by rw[hc];rfl,hq⟩)
    subst hc;refine z02 [0,0,0,0,0] (Q:=fun c=>pu (c=false) (z00 L)) ?_ fun c=>z04 fun hc=>z01 ?_
    ·refine z07 rfl ?_;refine z02 [0,0,0,0,0] (Q:=fun c=>pu (c=false) (z00 L)) ?_ fun c=>z04 fun hc=>z01 (z03 [0,0,0,0,0] fun q hq=>⟨hc,hq⟩);by_cases hz:M.own[k]=0
     ·refine z07 (by simp[hz]) ?_;unfold F_0o;refine z02 [0,0,0,0,0] (Q:=fun r=>pu (r=0) (z00 L)) ?_ fun r=>z04 fun hr=>z01 (z03 [0,0,0,0,0] fun q hq=>⟨by rw[hr];rfl,hq⟩);refine z0m (z06 (z06 (z06 (z16 0 rfl c2 ?_))));refine z0m (z06 (z06 (z2d 0 rfl c9 ?_)));refine z0m (z06 (z06 (z2d 0 rfl c9 ?_)));have e1:(k:Int) * (g.P:Int)=((k * g.P:Nat):Int):=by simp
      have e2:wr .i64 ((k:Int)+1)=((k+1:Nat):Int):=by rw[z0i (by omega) (by omega)];simp
      have e3:((k+1:Nat):Int) * (g.P:Int)=(((k+1) * g.P:Nat):Int):=by simp
      rw[e1,e2,e3,z0i (by omega) (by omega),z0i (by omega) (by omega)];refine z02 [3] (zfi (z0k l3) (by omega) hb1 (by omega) hN) fun r=>z04 fun hr=>z01 ?_;refine z03 [1,1,1,0,0] fun q hq=>⟨?_,hq⟩;rw[hr,hzero hz];rfl
     ·exact z05 (by simp;omega) (z03 [0,0,0,0,0] fun q hq=>⟨rfl,hq⟩)
    subst hc;refine z05 (by simp) ?_;rw[z0i (by omega) (by omega)];exact ih (k+1) (by omega) (by omega)
   ·obtain rfl:k=g.G:=by omega
    exact z05 (by simp;omega) (z1l fun q hq=>⟨rfl,hq⟩)
 have loop2:∀(K k:Nat),M.ino.length - k<K→k≤M.ino.length→Tri (z00 L) (z0l K (F_4m N (some ⟨v,0⟩) ⟨ino.p,ino.len⟩) (k:Int)) fun r=>pu (r=.inl ()) (z00 L):=by
  intro K;induction K with
  | zero=>intro k h;omega
  | succ K ih=>
   intro k h hk;rw[z18];unfold F_4m;by_cases hkG:k<M.ino.length
   ·refine z07 (by simp;omega) ?_;refine z8n 4 rfl (s:=⟨ino.p,ino.len⟩) (z0k l4) hkG ?_;rw[z89];refine zbr ?_;rw[zfh,zfo,zo1];refine z15 (z1t ?_);have hm:=List.getElem_mem hkG;have hr:=(ok.inok _ hm).r;refine z02 [0,0,0,0,0] (Q:=fun c=>pu (c=false) (z00 L)) ?_ fun c=>z04 fun hc=>z01 ?_
    ·by_cases hz:M.ino[k].k=0
     ·exact z05 (by simp[hz]) (z03 [0,0,0,0,0] fun q hq=>⟨rfl,hq⟩)
     ·refine z07 (by simp;omega) (z15 (z1t ?_));rw[z0i (by omega) (by omega)];refine z02 [0,0,0,0,0] (taken _ hr (rf.ino _ hm hz)) fun c=>z04 fun hc=>z01 (z03 [0,0,0,0,0] fun q hq=>⟨by rw[hc];rfl,hq⟩)
    subst hc;refine z05 (by simp) ?_;rw[z0i (by omega) (by omega)];exact ih (k+1) (by omega) (by omega)
   ·obtain rfl:k=M.ino.length:=by omega
    exact z05 (by simp;omega) (z1l fun q hq=>⟨rfl,hq⟩)
 refine z02 [0,0,0,0,0] (loop1 N 0 (by omega) (by omega)) fun r=>z04 fun hr=>z01 ?_;subst hr;dsimp only[sel,rem,nth,del,cat,upd];refine z0m (z06 (z06 (z06 (z16 0 rfl c3 ?_))));refine z02 [0,0,0,0,0] (loop2 N 0 (by omega) (by omega)) fun r=>z04 fun hr=>z01 ?_;subst hr;exact z03 [0,0,0,0,0] fun q hq=>⟨rfl,hq⟩
structure Clean(g:Geo)(D:DskS)(M:MetaS)(seq:Nat):Prop where
 dead:D.dead=false
 len:g.all≤D.secs.length
 sup:(getS D 0).b=z4p g
 head:za1 (getS D 1).b seq
 known:∀i:Nat,i<g.M→some (getS D ((g.lab+i:Nat):Int)).b=(z1z M)[i]?
def zhz(M:MetaS)(D:DskS)(seq:Nat):VolS:=⟨⟨M,[]⟩,D,seq,z1z M,none,false⟩
theorem zuu(hg:g.ok)(hr:g.roomy){M:MetaS}{seq:Nat}(ok:MetaOk g M)(rf:RefOk M)(gr:zo0 g M)(cl:Clean g D M seq)(hN:5000<N) :
  Tri (z00 [z1b d D]) (F_2i N (some ⟨d,0⟩)) fun r=>exA fun v=>pu (r=(some ⟨v,0⟩,0)) (z00 [z1f v d g (zhz M D seq)]):=by
 have hall:=hg.all_le;have hcl:=cl.len;have hgM:g.M=3+g.I / 2:=rfl;have hlab:g.lab=1+g.J:=rfl;have hblk:g.blk=4+g.J+g.I / 2:=rfl;have hga:g.all=g.blk+g.B:=rfl;have hI:=hg.i2;have hi3:=hg.i3;have hmB:(z1z M).length=g.M:=by
  simp only[z1z,List.length_cons,z5f,ok.inol];omega
 unfold F_2i;refine z05 (by simp) ?_;refine z02 [0] (zfp (N:=N) (i:=0) cl.dead (by omega)) fun r2=>z04 fun h2=>z01 ?_;dsimp only[sel,rem,nth,del,cat,upd];refine z05 (by simp[h2]) (z05 (by simp[h2]) ?_);have e0:(getS D ((0:Nat):Int)).b=z4p g:=cl.sup;rw[e0];refine z0c 1 rfl fun l2=>?_;refine z02 [1] (zup hg (z0k l2) hN) fun r3=>z04 fun h3=>z01 ?_;subst h3;dsimp only[sel,rem,nth,del,cat,upd];refine z02 [] (zhc hg) fun r4=>z04 fun h4=>z01 ?_;subst h4;dsimp only[sel,rem,nth,del,cat,upd];rw[za2 (zq5 _)];refine z02 [1] (Q:=fun c=>pu (c=false) (z00 [z1b d D])) ?_ fun c=>z04 fun hc=>z01 ?_
 ·refine z07 (by simp) (z02 [0] z93 fun r=>z04 fun h=>z01 (z03 [0] fun q hq=>⟨?_,hq⟩));rw[h];simp[Geo.lay];omega
 subst hc;dsimp only[sel,rem,nth,del,cat,upd];have e2:frz (F_01 N (g.t.1,g.t.2.1,g.t.2.2.1,g.t.2.2.2))=F_01 N g.t:=za2 (zq0 hg);rw[e2];refine z02 [0] (Q:=fun c=>pu (c=false) (z00 [z1b d D])) ?_ fun c=>z04 fun hc=>z01 ?_
 ·refine z07 rfl (z02 [0] (zl5 hg) fun r=>z04 fun h=>z01 (z03 [0] fun q hq=>⟨?_,hq⟩));rw[h];simp[hr]
 subst hc;dsimp only[sel,rem,nth,del,cat,upd];refine z05 (by simp) ?_;refine z02 [0] (zut (seq:=seq) (d:=d) hg cl.dead (by omega) cl.head hN) fun r9=>z1w fun j=>z04 fun h9=>z01 ?_;subst h9;dsimp only[sel,rem,nth,del,cat,upd];refine z05 (by simp) ?_;refine z0z fun v=>?_;have em:=zec (N:=N) hg;have em2:F_03 N (g.t.1,g.t.2.1,g.t.2.2.1,g.t.2.2.2)=ret (g.M:Int):=em;rw[em2];refine z0s ?_;let mC:Sl→Sl→Sl→Sl→Sl→Option Nat→List MV:=fun rows own used ino sf mp=>[.sl rows.p rows.len 2,.sl own.p own.len 1,.sl used.p used.len 1,.sl ino.p ino.len 14,.map mp,.ptr (some ⟨d,0⟩),
  .int .i64 g.J,.int .i64 g.I,.int .i64 g.G,.int .i64 g.P,.int .i64 1,.int .i64 g.lab,.int .i64 (2+g.J:Nat),.int .i64 (3+g.J:Nat),.int .i64 (4+g.J:Nat),.int .i64 g.blk,.int .i64 g.all,
  .ptr (some ⟨j,0⟩),.sl sf.p sf.len 1,.ptr none,.bool false]
 have loop:∀(K k:Nat)(sf:Sl)(L:List (Sl×List UInt8)),g.M - k<K→k≤g.M→L.map (·.2)=(z1z M).take k→(∀e∈L,e.1.len=64∧e.2.length=64) →
   Tri (z00 [pts v (.cells (mC ⟨none,0⟩ ⟨none,0⟩ ⟨none,0⟩ ⟨none,0⟩ sf none) false),z08 sf 1 (z3r L),z1r L,z1b d D]) (z0l K (F_4n N (some ⟨d,0⟩) (g.lay,0) (some ⟨v,0⟩) (g.M:Int)) (k:Int))
   fun _=>exA fun x:Sl×List (Sl×List UInt8)=>pu (x.2.map (·.2)=z1z M∧∀e∈x.2,e.1.len=64∧e.2.length=64) (z00 [pts v (.cells (mC ⟨none,0⟩ ⟨none,0⟩ ⟨none,0⟩ ⟨none,0⟩ x.1 none) false),z08 x.1 1 (z3r x.2),z1r x.2,z1b d D]):=by
  intro K;induction K with
  | zero=>intro k sf L h;omega
  | succ K ih=>
   intro k sf L h hk hL h64;rw[z18];unfold F_4n;by_cases hkM:k<g.M
   ·refine z07 (by simp;omega) ?_;have e1:wr .i64 ((g.lay,(0:Int)).1.2.1+(k:Int))=((g.lab+k:Nat):Int):=by
     show wr .i64 ((g.lab:Int)+(k:Int))=_;rw[z0i (by omega) (by omega)];omega
    rw[e1];refine z02 [3] (zfp (N:=N) (i:=g.lab+k) cl.dead (by omega)) fun r14=>z04 fun h14=>z01 ?_;dsimp only[sel,rem,nth,del,cat,upd];have hkn:=cl.known k hkM;generalize (getS D ((g.lab+k:Nat):Int)).b=bs at hkn;have hb64:bs.length=64:=by
     have:=List.mem_of_getElem? hkn.symm
     have rB:(z6j M.rows).length=64:=by rw[z6j,lays_len,z5k,ok.rows.len]
     have oB:(z94 M.own).length=64:=filled_len (by rw[List.length_map,ok.ownl];have:=hg.g2;omega);unfold z1z at this;rcases List.mem_cons.1 this with h | h
     ·rw[h];exact rB
     ·rcases List.mem_cons.1 h with h | h
      ·rw[h];exact oB
      ·rcases List.mem_cons.1 h with h | h
       ·rw[h];exact ok.usedl
       ·obtain⟨i,hi,hx⟩:=List.mem_iff_getElem.1 h;rw[z5f]at hi;have h1:=za3 (l:=M.ino) (i:=i) (by omega);rw[List.getElem?_eq_getElem (by rw[z5f];exact hi),hx]at h1;rw[Option.some.inj h1,List.length_append,z2g,z2g]
    refine z0c 1 rfl fun l14=>?_;rw[z0e]at l14;refine z8u 2 rfl (o:=18) (p:=sf.p) (ln:=sf.len) rfl ?_;refine z0z fun b18=>?_;refine z0c 4 rfl fun lsf=>?_;have hLl:L.length=k:=by
     have:=congrArg List.length hL
     rw[List.length_map,List.length_take,hmB]at this;omega
    rw[zfg]at lsf;refine z02 [4,0] (z2y (s:=⟨sf.p,sf.len⟩) (T:=pts b18 (.cells [.sl r14.1.p r14.1.len 1] false)) (rd_pts0 (by simp)) (by omega) rfl (by
     have:most=70368744177664:=rfl
     dsimp only;omega)) fun l19=>z01 ?_
    dsimp only[sel,rem,nth,del,cat,upd];refine zbp 4 rfl ?_;dsimp only[sel,rem,nth,del,cat,upd];rw[z0i (by omega) (by omega)];have ec:(mC ⟨none,0⟩ ⟨none,0⟩ ⟨none,0⟩ ⟨none,0⟩ sf none).set 18 (.sl l19.p l19.len 1)=mC ⟨none,0⟩ ⟨none,0⟩ ⟨none,0⟩ ⟨none,0⟩ l19 none:=rfl;rw[ec];have es:z3r L++[.sl r14.1.p r14.1.len 1]=z3r (L++[(r14.1,bs)]):=by simp[z3r]
    rw[es];have hn:=ih (k+1) l19 (L++[(r14.1,bs)]) (by omega) (by omega) (by
     rw[List.map_append,hL,List.take_add_one,←hkn];rfl) (by
     intro e he;rcases List.mem_append.1 he with he | he
     ·exact h64 e he
     ·simp at he;subst he;dsimp only;omega)
    refine tri_last [4,0,3,1,1] (hn.pre fun q hq=>?_);refine z1d (fun q=>z1d (fun q hq=>?_)) hq;have ep:z1r (L++[(r14.1,bs)])=z1a (z1r L) (z08 r14.1 1 (bytesOf bs)):=by
     unfold z1r;rw[List.map_append,z3x,List.map_cons,List.map_nil,z0y]
    show z1a (z1r (L++[(r14.1,bs)])) (z1a (z1b d D) emp) q;have hq':z1a (z1r L) (z1a (z1b d D) (z1a (z08 r14.1 1 (bytesOf bs)) emp)) q:=hq;rw[ep,z4b];rw[zd6 (z1b d D) (z08 r14.1 1 (bytesOf bs)) emp]at hq';exact hq'
   ·obtain rfl:k=g.M:=by omega
    refine z05 (by simp) (z1l fun q hq=>⟨(sf,L),⟨?_,h64⟩,hq⟩);rw[hL,List.take_of_length_le (by omega)]
 refine tri_last [0,1,0] (Tri.pre (B:=z00 [pts v (.cells (mC ⟨none,0⟩ ⟨none,0⟩ ⟨none,0⟩ ⟨none,0⟩ ⟨none,0⟩ none) false),z08 ⟨none,0⟩ 1 (z3r []),z1r [],z1b d D,pts j (.cells (z3f d g seq) false)]) ?_ fun q hq=>?_)
 case refine_2=>
  have h1:z00 [pts v (.cells (mC ⟨none,0⟩ ⟨none,0⟩ ⟨none,0⟩ ⟨none,0⟩ ⟨none,0⟩ none) false),z1b d D,pts j (.cells (z3f d g seq) false)] q:=hq;refine z1d (fun q hq=>?_) h1;exact z2z (fun q h =>.nil 1 h) (z2z (fun q h=>h) hq)
 refine z02 [0,0,0,0] (loop N 0 ⟨none,0⟩ [] (by omega) (by omega) rfl (by simp)) fun _=>z1w fun x=>z04 fun ⟨hx1,hx2⟩=>z01 ?_;obtain⟨sf,L⟩:=x;dsimp only at hx1 hx2;dsimp only[sel,rem,nth,del,cat,upd];refine z8u 0 rfl (o:=18) (p:=sf.p) (ln:=sf.len) rfl ?_;refine z0c 1 rfl fun lsf=>?_;have hRd:RdL (z00 [z08 sf 1 (z3r L),z1r L]) ⟨sf.p,sf.len⟩ L:=by
  refine⟨(z0k lsf).at 0 rfl,fun e he=>?_⟩;have:=hx2 e he
  exact(zcb (P:=L) (s:=e.1) (bs:=e.2) he (by omega)).at 1 rfl
 refine z02 [1,1] (zuk (T:=z00 [z08 sf 1 (z3r L),z1r L]) hg ok hRd hx1 hN |>.pre fun q hq=>by rw[z0y];exact hq) fun r26=>z04 fun h26=>z01 ?_;dsimp only[sel,rem,nth,del,cat,upd];refine z5l 4 rfl ?_;dsimp only[sel,rem,nth,del,cat,upd];refine z0m (z06 (z06 ?_));refine z5n 6 rfl rfl (by simp[mC]) rfl ?_;have ec:z0w (mC ⟨none,0⟩ ⟨none,0⟩ ⟨none,0⟩ ⟨none,0⟩ sf none) (0+0+0) [.sl r26.1.1.p r26.1.1.len 2,.sl r26.1.2.1.p r26.1.2.1.len 1,.sl r26.1.2.2.1.p r26.1.2.2.1.len 1,.sl r26.1.2.2.2.p r26.1.2.2.2.len 14]=mC r26.1.1 r26.1.2.1 r26.1.2.2.1 r26.1.2.2.2 sf none:=rfl;rw[ec];dsimp only[sel,rem,nth,del,cat,upd];refine z02 [6,2,2,2,2] (Q:=fun c=>pu (c=false) (z00 [pts v (.cells (mC r26.1.1 r26.1.2.1 r26.1.2.2.1 r26.1.2.2.2 sf none) false),z08 r26.1.1 2 (z13 M.rows),z08 r26.1.2.1 1 (z3i M.own),z08 r26.1.2.2.1 1 (bytesOf M.used),z08 r26.1.2.2.2 14 (z2b M.ino)])) ?_ fun c=>z04 fun hc=>z01 ?_
 ·refine z07 (by simp[h26]) ?_;refine z02 [0,0,0,0,0] (zqq hg ok rf gr rfl rfl rfl rfl rfl hN) fun r=>z04 fun h=>z01 (z03 [0,0,0,0,0] fun q hq=>⟨by rw[h];rfl,hq⟩)
 subst hc;dsimp only[sel,rem,nth,del,cat,upd];refine z05 (by simp) ?_;refine zxi .i64 fun mb=>?_;refine z0m (z06 (z06 (z1v 1 rfl (by simp[mC]) rfl ?_)));dsimp only[sel,rem,nth,del,cat,upd];refine z03 [1,1,1,1,1,0,1,1,1,0] fun q hq=>⟨v,rfl,?_⟩;have hq2:z00 (z2f v d g (zhz M D seq) ⟨⟨r26.1.1,r26.1.2.1,r26.1.2.2.1,r26.1.2.2.2,mb,d,j,sf,none,false⟩,[],L,L⟩) q:=by
  have h1:=hq;dsimp only[sel,rem,nth,del,cat,upd]at h1;refine z1d (fun q=>z1d (fun q=>z1d (fun q=>z1d (fun q=>z1d (fun q=>z1d (fun q=>z1d (fun q=>z1d (fun q=>z1d fun q hq=>?_)))))))) h1;have h2:z1a (z08 sf 1 (z3r L)) emp q:=hq;show z1a (z08 sf 1 (z3r L)) (z1a emp emp) q;rw[z40 emp];exact h2
 exact z1o ⟨rfl,⟨by simp,by simp,by simp⟩,hx1,fun e he=>⟨he,hx2 e he⟩,rfl⟩ rfl hq2
end
end Go.Moat
