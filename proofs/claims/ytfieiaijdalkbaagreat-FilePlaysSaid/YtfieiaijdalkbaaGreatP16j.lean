/- Layers 7 and 15: a disk is laid, and mounted, when nothing is to be done again. -/
import Derived.Test.YtfieiaijdalkbaaGreatP16g
namespace Go.Moat
open Go.Mini
section
variable{N:Nat}{β:Type}{l:List HA}{S:β→HA}{v d:Nat}{g:Geo}{V:VolS}{m:M β}{T:HA}{D:DskS}
theorem zn2(hd:D.dead=false)(hf:D.fuse = -1){i:Nat}(hi:i<D.secs.length){bs:List UInt8}(h64:bs.length=64)(t:Int) :
  writeE D i bs=0∧zcx D i bs t={D with secs:=D.secs.set i ⟨bs,t⟩,waits:=D.waits++[⟨i,D.secs[i],⟨bs,t⟩⟩],done:=D.done+1}:=by
 have hc:0≤(i:Int)∧(i:Int)<D.secs.length∧bs.length=64:=⟨by omega,by omega,h64⟩;have hp:z5a D=0:=by unfold z5a;rw[hd,hf];rfl
 have hpd:z5b D={D with done:=D.done+1}:=by
  unfold z5b;rw[hd,hf];simp
 unfold writeE zcx;rw[if_pos hc,if_pos hc,hp,if_pos rfl,hpd];refine⟨rfl,?_⟩;rw[Int.toNat_natCast,List.getElem?_eq_getElem hi];rfl
theorem zn3(hd:D.dead=false)(hf:D.fuse = -1):z5a D=0∧zj3 D={D with waits:=[],done:=D.done+1}:=by
 have hp:z5a D=0:=by unfold z5a;rw[hd,hf];rfl
 have hpd:z5b D={D with done:=D.done+1}:=by
  unfold z5b;rw[hd,hf];simp
 refine⟨hp,?_⟩;unfold zj3;rw[if_pos hp,hpd]
def ztg(g:Geo):SecS:=⟨z59 g,0⟩
def z9t(g:Geo):DskS:=⟨(List.replicate g.all z47).set 0 (ztg g),[],false,-1,g.all+1⟩
theorem zkm{α:Type}{A:HA}{m:M α}{φ:α→Prop}{R:α→HA}(hA:zn6 A)(t:Tri (z00 [A]) m fun a=>pu (φ a) (z00 [R a,A])):Tri (z00 [A]) (frz m) fun a=>pu (φ a) (z00 [R a,A]):=by
 have e:∀(X:HA),z00 [X,A]=z18 A X:=fun X=>by
  show z18 X (z18 A emp)=_;rw[star_emp,z8n]
 rw[stars_one]at t ⊢;refine(z15f (R:=fun a=>pu (φ a) (R a)) hA (t.post fun a q hq=>?_)).post fun a q hq=>?_
 ·have h2:=hq.2;rw[e]at h2;obtain⟨q1,q2,k1,k2,k3⟩:=h2;exact⟨q1,q2,k1,⟨hq.1,k2⟩,k3⟩
 ·obtain⟨q1,q2,k1,⟨k0,k2⟩,k3⟩:=hq;refine⟨k0,?_⟩;rw[e];exact⟨q1,q2,k1,k2,k3⟩
theorem zwv:∀(bs:List UInt8)(v:Int×Int),1≤v.1→v.1+255 * bs.length≤60000→1≤(bs.foldl (fun v c=>(wr .u32 (v.1+wr .u32 c.toNat),wr .u32 (v.2+wr .u32 (v.1+wr .u32 c.toNat)))) v).1∧(bs.foldl (fun v c=>(wr .u32 (v.1+wr .u32 c.toNat),wr .u32 (v.2+wr .u32 (v.1+wr .u32 c.toNat)))) v).1≤v.1+255 * bs.length
 | [],v,h1,h2=>⟨h1,by simp⟩
 | b::r,v,h1,h2=>by
  have hb:b.toNat<256:=b.toNat_lt;simp only[List.length_cons]at h2;rw[List.foldl_cons];have e:wr .u32 (v.1+wr .u32 (b.toNat:Int))=v.1+b.toNat:=by rw[wr32 (n:=(b.toNat:Int)) (by omega) (by omega),wr32 (by omega) (by omega)]
  have:=zwv r (wr .u32 (v.1+wr .u32 b.toNat),wr .u32 (v.2+wr .u32 (v.1+wr .u32 b.toNat))) (by dsimp only;rw[e];omega) (by dsimp only;rw[e];omega)
  refine⟨this.1,Int.le_trans this.2 ?_⟩;dsimp only;rw[e,List.length_cons];omega
theorem z183{bs:List UInt8}(h:bs.length≤100):0<zav bs:=by
 obtain⟨h1,h2⟩:=zwv bs (1,0) (by decide) (by dsimp only;omega);change 1≤(ze1 bs).1 at h1;change(ze1 bs).1≤1+255 * bs.length at h2;unfold zav;obtain⟨n,hn⟩:∃n:Nat,(ze1 bs).1=n:=⟨(ze1 bs).1.toNat,by omega⟩;have e:(ze1 bs).1.tmod 65521=(n:Int):=by
  rw[hn];have:(n:Int).tmod 65521=((n%65521:Nat):Int):=rfl
  rw[this,Nat.mod_eq_of_lt (by omega)]
 rw[e];obtain⟨k1,k2⟩:=z11r (k :=.u32) (((ze1 bs).2.tmod 65521) * 2^(Min.min (16:Int).toNat IntKind.u32.bits)) rfl;have hs:z75 .u32 ((ze1 bs).2.tmod 65521) 16=wr .u32 (((ze1 bs).2.tmod 65521) * 2^(Min.min (16:Int).toNat IntKind.u32.bits)):=rfl;rw[hs];generalize wr .u32 (((ze1 bs).2.tmod 65521) * 2^(Min.min (16:Int).toNat IntKind.u32.bits))=x at k1 k2;obtain⟨a,rfl⟩:∃a:Nat,x=a:=⟨x.toNat,by omega⟩;have k3:(2:Int)^IntKind.u32.bits=4294967296:=by decide
 rw[(zdm (k :=.u32) rfl (a:=a) (b:=n) (by show a<4294967296;omega) (by show n<4294967296;omega)).2.1];have:n≤a ||| n:=Nat.right_le_or
 omega
theorem z184(n:Int):RO (F_0t N n):=by
 unfold F_0t;split
 ·exact z5m _
 ·exact z5m _
theorem zth(hg:g.ok):RO (F_03 N g.t):=by
 unfold F_03;refine z154 fun _=>?_;have e:=zfz (N:=N) hg;unfold Geo.t at e ⊢;rw[e];exact z6b (z5m _) fun _=>z6b (z184 _) fun _=>z5m _
theorem zvk(hg:g.ok)(hr:g.roomy)(hN:5000<N):Tri (z00 [z1e d (zbr g.all)]) (F_1e N (some ⟨d,0⟩) g.t) fun r=>pu (r=0) (z00 [z1e d (z9t g)]):=by
 have hall:=hg.all_le;have hpos:0<g.all:=by unfold Geo.all Geo.blk;omega
 unfold F_1e;refine z02 [] (ziz hg) fun r3=>z04 fun h3=>z01 ?_;subst h3;dsimp only[sel,rem,nth,del,cat,upd];refine z05 (by simp) ?_;rw[zau (ztm _)];refine z02 [0] (Q:=fun c=>pu (c=false) (z00 [z1e d (zbr g.all)])) ?_ fun c=>z04 fun hc=>z01 ?_
 ·refine z07 (by simp) (z02 [0] zbs fun r=>z04 fun h=>z01 (z03 [0] fun q hq=>⟨?_,hq⟩));rw[h];simp[zbr,Geo.lay]
 subst hc;dsimp only[sel,rem,nth,del,cat,upd];have e2:frz (F_03 N (g.t.1,g.t.2.1,g.t.2.2.1,g.t.2.2.2))=F_03 N g.t:=zau (zth hg);rw[e2];refine z02 [0] (Q:=fun c=>pu (c=false) (z00 [z1e d (zbr g.all)])) ?_ fun c=>z04 fun hc=>z01 ?_
 ·refine z07 rfl (z02 [0] (zn9 hg) fun r=>z04 fun h=>z01 (z03 [0] fun q hq=>⟨?_,hq⟩));rw[h];simp[hr]
 subst hc;dsimp only[sel,rem,nth,del,cat,upd];refine z05 (by simp) ?_;refine z02 [] (zq5 hg hN) fun r8=>z04 fun h8=>z01 ?_;dsimp only[sel,rem,nth,del,cat,upd];have loop:∀(K j:Nat)(b:Sl)(bs:List UInt8)(D:DskS),g.all - j<K→j≤g.all→bs=(if j=0 then z59 g else z1h)→b.len=64→D.dead=false→D.fuse = -1→D.done=j→D.waits.length=j →
   D.secs=(if j=0 then List.replicate g.all z47 else(List.replicate g.all z47).set 0 (ztg g)) →
   Tri (z00 [z06 b 1 (bytesOf bs),z1e d D]) (z0e K (F_4u N (some ⟨d,0⟩) (g.lay,0)) (b,(j:Int))) fun r=>exA fun D'=>pu (r=.inl ()∧D'.dead=false∧D'.fuse = -1∧D'.done=(g.all:Int)∧D'.secs=(List.replicate g.all z47).set 0 (ztg g)) (z00 [z1e d D']):=by
  intro K;induction K with
  | zero=>intro j b bs D h;omega
  | succ K ih=>
   intro j b bs D h hj hbs hb h1 h2 h3 h4 h5;rw[z13];unfold F_4u;by_cases hjk:j<g.all
   ·refine z07 (by simp[Geo.lay];omega) ?_;have h64:bs.length=64:=by
     rw[hbs];split
     ·exact zaw g
     ·simp[z1h]
    have hjl:j<D.secs.length:=by
     rw[h5];split<;>simp<;>omega
    obtain⟨e1,e2⟩:=zn2 h1 h2 hjl h64 0;refine z02 [1,0] (zyx (N:=N) (j:Int) 0 (by omega) (by omega) (by omega) (by omega)) fun r=>z04 fun hr'=>z01 ?_;dsimp only[sel,rem,nth,del,cat,upd];rw[e1]at hr';rw[e2];refine z05 (by simp[hr']) ?_;refine z85 64 (by omega) fun sb=>?_;refine z6s 0 (B:=z06 ⟨some ⟨sb,0⟩,64⟩ 1 (bytesOf z1h)) rfl (fun q hq =>.mk (by rw[z0d];simp[z1h]) hq) ?_;dsimp only[sel,rem,nth,del,cat,upd];rw[z09 (by omega) (by omega)];refine z1u [0,0] (ih (j+1) ⟨some ⟨sb,0⟩,64⟩ z1h _ (by omega) (by omega) (by rw[if_neg (by omega)]) rfl h1 h2 (by dsimp only;omega) (by dsimp only;rw[List.length_append,h4];rfl) ?_);dsimp only;rw[if_neg (by omega),h5];by_cases hj0:j=0
    ·subst hj0;rw[if_pos rfl]at hbs ⊢;rw[hbs];rfl
    ·rw[if_neg hj0]at hbs ⊢;rw[hbs];apply List.ext_getElem (by simp);intro i hi1 hi2;rw[List.getElem_set];split
     ·rename_i hji;subst hji;rw[List.getElem_set_ne (by omega),List.getElem_replicate];rfl
     ·rfl
   ·obtain rfl:j=g.all:=by omega
    refine z05 (by simp[Geo.lay]) (z03 [1] fun q hq=>⟨D,⟨rfl,h1,h2,h3,?_⟩,hq⟩);rw[h5,if_neg (by omega)]
 refine z0c 0 rfl fun h0=>?_;rw[z0d,zaw]at h0;refine z02 [0,0] (loop N 0 r8.1 (z59 g) (zbr g.all) (by omega) (by omega) (by rw[if_pos rfl]) (by omega) rfl rfl rfl rfl (by rw[if_pos rfl];rfl)) fun r=>z12 fun D'=>z04 fun ⟨k1,k2,k3,k4,k5⟩=>z01 ?_;subst k1;dsimp only[sel,rem,nth,del,cat,upd];obtain⟨e1,e2⟩:=zn3 k2 k3;refine z02 [0] (zng (N:=N) (by omega) (by omega)) fun r=>z04 fun hr'=>z01 (z03 [0] fun q hq=>⟨by rw[hr',e1],?_⟩);rw[e2]at hq;have:({D' with waits:=[],done:=D'.done+1}:DskS)=z9t g:=by
  unfold z9t;rw[←k5,←k2,←k3,k4]
 rw[this]at hq;exact hq
def z6a(seq cnt:Nat):List UInt8:=z5n (z2g (le 8 seq++le 2 cnt) 60)
theorem za7(seq cnt:Nat):(z6a seq cnt).length=64:=by
 unfold z6a;rw[z91,z2o (by rw[List.length_append,z2i,z2i];omega)]
theorem z16n(k n:Nat):lays k [n]=le k n:=by simp[lays]
theorem zij{j:Nat}{seq cnt:Nat}{sq:Nat}(h1:seq<2^64)(h2:cnt<65536)(hN:5000<N):Tri (z00 [pts j (.cells (z3d d g sq) false)]) (F_0m N (some ⟨j,0⟩) (seq:Int) (cnt:Int)) fun r=>pu (r.1=1∧r.2.2=0) (z00 [z06 r.2.1 1 (bytesOf (z6a seq cnt)),pts j (.cells (z3d d g sq) false)]):=by
 unfold F_0m;refine z0v fun b=>?_;refine z02 [0] (z8m (size:=8) (ns:=[seq]) (T:=pts b (.cells [.int .u64 seq] false)) (by omega) (by omega) (rd_pts0 (by simp)) (by
  intro n hn;simp at hn;subst hn;exact h1) (by simp) hN) fun r5=>z04 fun h5=>z01 ?_
 dsimp only[sel,rem,nth,del,cat,upd];rw[z6d (by omega) (by omega)];refine z0v fun b6=>?_;refine z02 [0] (z8m (size:=2) (ns:=[cnt]) (T:=pts b6 (.cells [.int .u64 cnt] false)) (by omega) (by omega) (rd_pts0 (by simp)) (by
  intro n hn;simp at hn;subst hn;exact h2) (by simp) hN) fun r7=>z04 fun h7=>z01 ?_
 dsimp only[sel,rem,nth,del,cat,upd];rw[z16n,z16n];refine z0c 0 rfl fun l7=>z0c 2 rfl fun l5=>?_;have hm:most=70368744177664:=rfl;rw[z0d,z2i]at l7 l5;refine z02 [2,0] (z3a (z0k (by rw[z0d,z2i];omega)) (by omega) (bytes_cell _) (by omega)) fun r8=>z01 ?_;dsimp only[sel,rem,nth,del,cat,upd];rw[←zcd];refine z0c 0 rfl fun l8=>?_;refine z02 [0] (zer (n:=60) (z0k l8) (by rw[List.length_append,z2i,z2i];omega) (by omega)) fun r9=>z04 fun h9=>z01 ?_;dsimp only[sel,rem,nth,del,cat,upd];refine z9h 5 rfl (v:=1) rfl ?_;refine z0c 0 rfl fun l9=>?_;refine z02 [0] (zkm (φ:=fun _=>True) (R:=fun r=>z06 r 1 (bytesOf (z6a seq cnt))) z121 ((zq1 (z0k l9) (by rw[z2o (by rw[List.length_append,z2i,z2i];omega)];omega) hN).post fun r q hq=>⟨trivial,hq⟩)) fun r13=>z04 fun _=>z01 ?_;dsimp only[sel,rem,nth,del,cat,upd];exact z03 [0,5] fun q hq=>⟨⟨rfl,rfl⟩,hq⟩
def zcq(b:List UInt8)(seq:Nat):Prop:=(b=z1h∧seq=0)∨(b=z6a seq 0∧seq<2^64)
theorem zcq.len{b:List UInt8}{seq:Nat}(h:zcq b seq):b.length=64:=by
 rcases h with⟨rfl,_⟩ | ⟨rfl,_⟩
 ·simp[z1h]
 ·exact za7 _ _
theorem zww(p:Option MA):RO (F_0b N p):=by
 unfold F_0b;split
 ·exact z5m _
 ·exact z6b (zep _) fun _=>z6b (zim _ _) fun _=>z6b (z11g _ _) fun _=>z5m _
def z5d(n:Nat):Nat:=(n - 1) - (n - 1+15) / 16
theorem zik{j sq:Nat}(hg:g.ok):Tri (z00 [pts j (.cells (z3d d g sq) false)]) (F_0b N (some ⟨j,0⟩)) fun r=>pu (r=(z5d g.J:Nat)) (z00 [pts j (.cells (z3d d g sq) false)]):=by
 have h1:=hg.j1;have h2:=hg.j2;unfold F_0b;refine z05 (by simp) (z9h 0 rfl (v:=g.J) rfl (z03 [0] fun q hq=>⟨?_,hq⟩));have e1:wr .i64 ((g.J:Int) - 1)=((g.J - 1:Nat):Int):=by rw[z09 (by omega) (by omega)];omega
 have e2:wr .i64 (((g.J - 1:Nat):Int)+15)=((g.J - 1+15:Nat):Int):=by rw[z09 (by omega) (by omega)];omega
 have e3:((g.J - 1+15:Nat):Int).tdiv 16=(((g.J - 1+15) / 16:Nat):Int):=rfl;rw[e1,e2,e3,z09 (n:=(((g.J - 1+15) / 16:Nat):Int)) (by omega) (by omega),z09 (by omega) (by omega)];unfold z5d;omega
theorem zyl{j:Nat}(hg:g.ok){s:Sl}{bs:List UInt8}{seq:Nat}(h:zcq bs seq)(hr:RdC T s 1 (bytesOf bs))(hN:5000<N) :
  Tri (z00 [pts j (.cells (z3d d g 0) false),T]) (F_2g N (some ⟨j,0⟩) s) fun r=>pu (r=(0,true)) (z00 [pts j (.cells (z3d d g seq) false),T]):=by
 unfold F_2g;refine z4l 1 rfl hr ?_;refine z85 64 (by omega) fun zb=>?_;refine z4l 0 rfl (bs:=z1h) (rd_pts0 (by rw[z0d];simp[z1h])) ?_;by_cases hz:bs=z1h
 ·have hs:seq=0:=by
   rcases h with⟨_,h2⟩ | ⟨h1,_⟩
   ·exact h2
   ·exfalso;have h4:leN ((z6a seq 0).drop 60)=leN (z1h.drop 60):=by rw[h1.symm.trans hz]
    have e:leN ((z6a seq 0).drop 60)=(zav (z2g (le 8 seq++le 2 0) 60)).toNat:=by
     unfold z6a z5n;rw[List.drop_left' (by rw[z2o (by rw[List.length_append,z2i,z2i];omega)]),ze2,Nat.mod_eq_of_lt];have:=zoi (z2g (le 8 seq++le 2 0) 60)
     omega
    rw[e]at h4;have h5:leN (z1h.drop 60)=0:=by decide
    have:=z183 (bs:=z2g (le 8 seq++le 2 0) 60) (by rw[z2o (by rw[List.length_append,z2i,z2i];omega)];omega)
    omega
  subst hs;exact z07 (by simp[hz]) (z03 [1,1] fun q hq=>⟨rfl,hq⟩)
 ·rcases h with⟨h1,_⟩ | ⟨h1,h64⟩
  ·exact absurd h1 hz
  subst h1;refine z05 (by simpa using hz) ?_;have hL:(le 8 seq++le 2 0).length=10:=by rw[List.length_append,z2i,z2i]
  refine z02 [2] (z11p (bs:=z2g (le 8 seq++le 2 0) 60) hr (by rw[z2o (by omega)];omega) hN) fun r6=>z04 fun h6=>z01 ?_;dsimp only[sel,rem,nth,del,cat,upd];refine z05 (by simp[h6]) ?_;refine z0c 0 rfl fun l6=>?_;have hf:z2g (le 8 seq++le 2 0) 60=le 8 seq++(le 2 0++List.replicate 50 0):=by
   unfold z2g;rw[hL,List.append_assoc]
  refine z02 [0] (zgv (a:=0) (z:=8) (z0k l6) (by omega) (by omega) (by rw[z2o (by omega)];omega) (by rw[z2o (by omega)];omega) (by omega)) fun r7=>z04 fun h7=>z01 ?_;dsimp only[sel,rem,nth,del,cat,upd];refine z02 [0] (zgv (a:=8) (z:=2) (z0k l6) (by omega) (by omega) (by rw[z2o (by omega)];omega) (by rw[z2o (by omega)];omega) (by omega)) fun r8=>z04 fun h8=>z01 ?_;dsimp only[sel,rem,nth,del,cat,upd];have e7:leN (((z2g (le 8 seq++le 2 0) 60).drop 0).take 8)=seq:=by
   rw[List.drop_zero,hf,List.take_left' (z2i _ _),ze2,Nat.mod_eq_of_lt (by simpa using h64)]
  have e8:leN (((z2g (le 8 seq++le 2 0) 60).drop 8).take 2)=0:=by
   rw[hf,List.drop_left' (z2i _ _),List.take_left' (z2i _ _),ze2]
  rw[e7]at h7;rw[e8]at h8;subst h7 h8;refine zcu 3 rfl ?_;dsimp only[sel,rem,nth,del,cat,upd];have e9:(z3d d g 0).set 3 (.int .u64 (seq:Int))=z3d d g seq:=rfl;rw[e9];have e10:wr .i64 ((0:Nat):Int)=((0:Nat):Int):=by decide
  rw[e10];have hh:=zkm (R:=fun(r:Int×Sl×Int)=>z06 r.2.1 1 (bytesOf (z6a seq 0))) (φ:=fun(r:Int×Sl×Int)=>r.1=1∧r.2.2=0) (zq3 j (.cells (z3d d g seq) false)) (zij (N:=N) (cnt:=0) h64 (by omega) hN);refine z02 [3] hh fun r11=>z04 fun _=>z01 ?_;dsimp only[sel,rem,nth,del,cat,upd];refine z0c 0 rfl fun l11=>?_;refine z4l 0 rfl (z0k l11) ?_;refine z4l 3 rfl hr ?_;refine z02 [1,2] (Q:=fun c=>pu (c=true) (z00 [pts j (.cells (z3d d g seq) false),T])) ?_ fun c=>z04 fun hc=>z01 ?_
  ·refine z07 (by simp[z6a]) ?_;rw[zau (zww _)];refine z02 [0] (zik hg) fun r14=>z04 fun h14=>z01 (z03 [0,0] fun q hq=>⟨?_,hq⟩);rw[h14];simp
  ·subst hc;exact z03 [0,0] fun q hq=>⟨rfl,hq⟩
end
end Go.Moat

/- Layers 7 and 15: a disk that is mounted. -/
namespace Go.Mini
section
variable{β:Type}{l:List HA}{S:β→HA}{m:M β}
theorem z8r(n:Nat){l1:List HA}(hl:l[n]? = some (z00 l1))(k:Tri (z00 (cat l1 (del l n))) m S):Tri (z00 l) m S:=by
 rw[ziv,zts,z4i]at k;rw[z3f n l hl];exact k
end
end Go.Mini
namespace Go.Moat
open Go.Mini
section
variable{N:Nat}{β:Type}{l:List HA}{S:β→HA}{v d:Nat}{g:Geo}{V:VolS}{m:M β}{T:HA}{D:DskS}
theorem zbt(hd:D.dead=false){i:Nat}(hi:i<D.secs.length):z7y D i=0:=by
 unfold z7y;rw[if_pos ⟨by omega,by omega⟩,hd];rfl
theorem zha(hd:D.dead=false){i:Nat}(hi:i<D.secs.length):Tri (z00 [z1e d D]) (F_07 N (some ⟨d,0⟩) (i:Int)) fun r=>pu (r.2=0) (z00 [z1e d D,z06 r.1 1 (bytesOf (z48 D i).b)]):=
 (zq7 (i:Int)).post fun r q hq=>by
  obtain⟨⟨h1,h2⟩,h3⟩:=hq;rw[zbt hd hi]at h1 h3;exact⟨h1,by simpa using h3⟩
theorem zz1(hg:g.ok)(hd:D.dead=false)(hl:1+g.J≤D.secs.length){seq:Nat}(hh:zcq (z48 D 1).b seq)(hN:5000<N) :
  Tri (z00 [z1e d D]) (F_2h N (some ⟨d,0⟩) 1 (g.J:Int)) fun r=>exA fun j=>pu (r=(some ⟨j,0⟩,0,0)) (z00 [pts j (.cells (z3d d g seq) false),z1e d D]):=by
 have h1:=hg.j1;have h2:=hg.j2;unfold F_2h;refine z05 (by simp) ?_;refine z7v 0 (φ:=D.secs.length≤4096) rfl (fun q ⟨x,h,_⟩=>h.many) fun h4096=>?_;refine z02 [0] (Q:=fun c=>pu (c=false) (z00 [z1e d D])) ?_ fun c=>z04 fun hc=>z01 ?_
 ·refine z07 (by simp;omega) (z02 [0] zbs fun r=>z04 fun h=>z01 (z03 [0] fun q hq=>⟨by rw[h];simp;omega,hq⟩))
 subst hc;dsimp only[sel,rem,nth,del,cat,upd];refine z02 [0] (Q:=fun c=>pu (c=false) (z00 [z1e d D])) ?_ fun c=>z04 fun hc=>z01 ?_
 ·refine z07 rfl (z02 [0] zbs fun r=>z04 fun h=>z01 (z03 [0] fun q hq=>⟨?_,hq⟩));rw[h,z09 (by omega) (by omega)];simp;omega
 subst hc;dsimp only[sel,rem,nth,del,cat,upd];refine z05 (by simp) ?_;refine z0v fun j=>?_;refine z02 [1] (zha (N:=N) (i:=1) hd (by omega)) fun r9=>z04 fun h9=>z01 ?_;dsimp only[sel,rem,nth,del,cat,upd];refine z05 (by simp[h9]) ?_;refine z0c 1 rfl fun l9=>?_;refine z02 [2,1] (zyl (T:=z06 r9.1 1 (bytesOf (z48 D 1).b)) (d:=d) hg hh (z0k l9) hN) fun r10=>z04 fun h10=>z01 ?_;subst h10;dsimp only[sel,rem,nth,del,cat,upd];refine z05 (by simp) (z07 (by simp) ?_);exact z03 [0,1] fun q hq=>⟨j,rfl,hq⟩
theorem zu7{cs:List MV}{rows own used ino:Sl}{M:MetaS}(hg:g.ok)(ok:MetaOk g M)(rf:RefOk M)(gr:zrg g M)
  (c0:cs[0]? = some (.sl rows.p rows.len 2)) (c1:cs[1]? = some (.sl own.p own.len 1)) (c2:cs[2]? = some (.sl used.p used.len 1)) (c3:cs[3]? = some (.sl ino.p ino.len 14)) (c9:cs[9]? = some (.int .i64 g.P)) (hN:5000<N) :
  Tri (z00 [pts v (.cells cs false),z06 rows 2 (z1t M.rows),z06 own 1 (z1c M.own),z06 used 1 (bytesOf M.used),z06 ino 14 (z2m M.ino)]) (F_2n N (some ⟨v,0⟩)) fun r=>pu (r=true) (z00 [pts v (.cells cs false),z06 rows 2 (z1t M.rows),z06 own 1 (z1c M.own),z06 used 1 (bytesOf M.used),z06 ino 14 (z2m M.ino)]):=by
 have hgp:=hg.gp;have hpp:=hg.pp;have hG:=hg.g2;have hI:=hg.i2;have hp1:=hg.p1;have hol:=ok.ownl;have hil:=ok.inol;have hul:=ok.usedl;have h16:=ok.rows.len;let L:=[pts v (.cells cs false),z06 rows 2 (z1t M.rows),z06 own 1 (z1c M.own),z06 used 1 (bytesOf M.used),z06 ino 14 (z2m M.ino)]
 unfold F_2n;refine z0r (z0b (z0b (z0b (z78 0 rfl c1 ?_))));refine z0c 1 rfl fun l1=>z0c 2 rfl fun l2=>z0c 3 rfl fun l3=>z0c 4 rfl fun l4=>?_;rw[z0u z2e]at l1;rw[z1n]at l2;have l4':=l4;rw[z0u z0n]at l4';have taken:∀(r:Nat),r<16→0<(z1a M.rows r).2→Tri (z00 L) (F_1l N (some ⟨v,0⟩) (r:Int)) fun c=>pu (c=true) (z00 L):=by
  intro r hr h0;have hrl:r<M.rows.length:=by omega
  unfold F_1l;refine z0r (z0b (z0b (z0b (z78 0 rfl c0 ?_))));refine z7a 1 rfl (z0k (by rw[z0u z2e];omega)) (i:=r) (o:=1) (by dsimp only;omega) (by omega) (v:=(M.rows[r].2:Nat)) (by rw[z3l z2e hrl (by omega)];rfl) ?_;refine z03 [0,0,0,0,0] fun q hq=>⟨?_,hq⟩;have:z1a M.rows r=M.rows[r]:=by simp[z1a,hrl]
  rw[this]at h0;simp;omega
 have loop1:∀(K k:Nat),g.G - k<K→k≤g.G→Tri (z00 L) (z0e K (F_57 N (some ⟨v,0⟩) ⟨own.p,own.len⟩) (k:Int)) fun r=>pu (r=.inl ()) (z00 L):=by
  intro K;induction K with
  | zero=>intro k h;omega
  | succ K ih=>
   intro k h hk;rw[z13];unfold F_57;by_cases hkG:k<g.G
   ·have hkl:k<M.own.length:=by omega
    refine z07 (by simp;omega) ?_;refine z2a 2 rfl (z0k (by rw[z1n];exact l2)) (i:=k) (k :=.i64) (v:=(M.own[k]:Nat)) (by simp[z1w,hkl]) ?_;have ho:=ok.own16 _ (List.getElem_mem hkl);have hrf:=rf.own _ (List.getElem_mem hkl);have hb2:(k+1) * g.P≤g.G * g.P:=Nat.mul_le_mul_right _ hkG;have hb1:k * g.P≤(k+1) * g.P:=Nat.mul_le_mul_right _ (by omega);have hzero:M.own[k]=0→z6g M.used (k * g.P) ((k+1) * g.P)=0:=by
     intro hz;unfold z6g;rw[List.length_eq_zero_iff,List.filter_eq_nil_iff];intro i hi;rw[List.mem_range'_1]at hi;intro hb;have hd:i / g.P=k:=by
      rw[Nat.div_eq_iff (by omega)];have:(k+1) * g.P=k * g.P+g.P:=by rw[Nat.add_mul,Nat.one_mul]
      omega
     have:=gr i (by unfold Geo.B;omega) hb
     rw[hd,List.getElem?_eq_getElem hkl,Option.getD_some,hz]at this;omega
    refine z02 [0,0,0,0,0] (Q:=fun c=>pu (c=false) (z00 L)) ?_ fun c=>z04 fun hc=>z01 ?_
    ·by_cases hz:M.own[k]=0
     ·exact z05 (by simp[hz]) (z03 [0,0,0,0,0] fun q hq=>⟨rfl,hq⟩)
     ·refine z07 (by simp;omega) ?_;have e:wr .i64 (((M.own[k]:Nat):Int) - 1)=((M.own[k] - 1:Nat):Int):=by rw[z09 (by omega) (by omega)];omega
      rw[e];refine z02 [0,0,0,0,0] (taken (M.own[k] - 1) (by omega) (hrf (by omega))) fun c=>z04 fun hc=>z01 (z03 [0,0,0,0,0] fun q hq=>⟨by rw[hc];rfl,hq⟩)
    subst hc;refine z02 [0,0,0,0,0] (Q:=fun c=>pu (c=false) (z00 L)) ?_ fun c=>z04 fun hc=>z01 ?_
    ·refine z07 rfl ?_;refine z02 [0,0,0,0,0] (Q:=fun c=>pu (c=false) (z00 L)) ?_ fun c=>z04 fun hc=>z01 (z03 [0,0,0,0,0] fun q hq=>⟨hc,hq⟩);by_cases hz:M.own[k]=0
     ·refine z07 (by simp[hz]) ?_;unfold F_0u;refine z02 [0,0,0,0,0] (Q:=fun r=>pu (r=0) (z00 L)) ?_ fun r=>z04 fun hr=>z01 (z03 [0,0,0,0,0] fun q hq=>⟨by rw[hr];rfl,hq⟩);refine z0r (z0b (z0b (z0b (z78 0 rfl c2 ?_))));refine z0r (z0b (z0b (tri_ldI 0 rfl c9 ?_)));refine z0r (z0b (z0b (tri_ldI 0 rfl c9 ?_)));have e1:(k:Int) * (g.P:Int)=((k * g.P:Nat):Int):=by simp
      have e2:wr .i64 ((k:Int)+1)=((k+1:Nat):Int):=by rw[z09 (by omega) (by omega)];simp
      have e3:((k+1:Nat):Int) * (g.P:Int)=(((k+1) * g.P:Nat):Int):=by simp
      rw[e1,e2,e3,z09 (by omega) (by omega),z09 (by omega) (by omega)];refine z02 [3] (zh4 (z0k l3) (by omega) hb1 (by omega) hN) fun r=>z04 fun hr=>z01 ?_;refine z03 [1,1,1,0,0] fun q hq=>⟨?_,hq⟩;rw[hr,hzero hz];rfl
     ·exact z05 (by simp;omega) (z03 [0,0,0,0,0] fun q hq=>⟨rfl,hq⟩)
    subst hc;refine z05 (by simp) ?_;rw[z09 (by omega) (by omega)];exact ih (k+1) (by omega) (by omega)
   ·obtain rfl:k=g.G:=by omega
    exact z05 (by simp;omega) (z1m fun q hq=>⟨rfl,hq⟩)
 have loop2:∀(K k:Nat),M.ino.length - k<K→k≤M.ino.length→Tri (z00 L) (z0e K (F_58 N (some ⟨v,0⟩) ⟨ino.p,ino.len⟩) (k:Int)) fun r=>pu (r=.inl ()) (z00 L):=by
  intro K;induction K with
  | zero=>intro k h;omega
  | succ K ih=>
   intro k h hk;rw[z13];unfold F_58;by_cases hkG:k<M.ino.length
   ·refine z07 (by simp;omega) ?_;refine z94 4 rfl (s:=⟨ino.p,ino.len⟩) (z0k l4) hkG ?_;rw[z9g];refine zac ?_;rw[zh7,zrh,zyz];refine z4j (z7c ?_);have hm:=List.getElem_mem hkG;have hr:=(ok.inok _ hm).r;refine z02 [0,0,0,0,0] (Q:=fun c=>pu (c=false) (z00 L)) ?_ fun c=>z04 fun hc=>z01 ?_
    ·by_cases hz:M.ino[k].k=0
     ·exact z05 (by simp[hz]) (z03 [0,0,0,0,0] fun q hq=>⟨rfl,hq⟩)
     ·refine z07 (by simp;omega) (z4j (z7c ?_));rw[z09 (by omega) (by omega)];refine z02 [0,0,0,0,0] (taken _ hr (rf.ino _ hm hz)) fun c=>z04 fun hc=>z01 (z03 [0,0,0,0,0] fun q hq=>⟨by rw[hc];rfl,hq⟩)
    subst hc;refine z05 (by simp) ?_;rw[z09 (by omega) (by omega)];exact ih (k+1) (by omega) (by omega)
   ·obtain rfl:k=M.ino.length:=by omega
    exact z05 (by simp;omega) (z1m fun q hq=>⟨rfl,hq⟩)
 refine z02 [0,0,0,0,0] (loop1 N 0 (by omega) (by omega)) fun r=>z04 fun hr=>z01 ?_;subst hr;dsimp only[sel,rem,nth,del,cat,upd];refine z0r (z0b (z0b (z0b (z78 0 rfl c3 ?_))));refine z02 [0,0,0,0,0] (loop2 N 0 (by omega) (by omega)) fun r=>z04 fun hr=>z01 ?_;subst hr;exact z03 [0,0,0,0,0] fun q hq=>⟨rfl,hq⟩
structure Clean(g:Geo)(D:DskS)(M:MetaS)(seq:Nat):Prop where
 dead:D.dead=false
 len:g.all≤D.secs.length
 sup:(z48 D 0).b=z59 g
 head:zcq (z48 D 1).b seq
 known:∀i:Nat,i<g.M→some (z48 D ((g.lab+i:Nat):Int)).b=(z3b M)[i]?
def zoq(M:MetaS)(D:DskS)(seq:Nat):VolS:=⟨⟨M,[]⟩,D,seq,z3b M,none,false⟩
theorem zz2(hg:g.ok)(hr:g.roomy){M:MetaS}{seq:Nat}(ok:MetaOk g M)(rf:RefOk M)(gr:zrg g M)(cl:Clean g D M seq)(hN:5000<N) :
  Tri (z00 [z1e d D]) (F_2o N (some ⟨d,0⟩)) fun r=>exA fun v=>pu (r=(some ⟨v,0⟩,0)) (z00 [z0l v d g (zoq M D seq)]):=by
 have hall:=hg.all_le;have hcl:=cl.len;have hgM:g.M=3+g.I / 2:=rfl;have hlab:g.lab=1+g.J:=rfl;have hblk:g.blk=4+g.J+g.I / 2:=rfl;have hga:g.all=g.blk+g.B:=rfl;have hI:=hg.i2;have hi3:=hg.i3;have hmB:(z3b M).length=g.M:=by
  simp only[z3b,List.length_cons,z5q,ok.inol];omega
 unfold F_2o;refine z05 (by simp) ?_;refine z02 [0] (zha (N:=N) (i:=0) cl.dead (by omega)) fun r2=>z04 fun h2=>z01 ?_;dsimp only[sel,rem,nth,del,cat,upd];refine z05 (by simp[h2]) (z05 (by simp[h2]) ?_);have e0:(z48 D ((0:Nat):Int)).b=z59 g:=cl.sup;rw[e0];refine z0c 1 rfl fun l2=>?_;refine z02 [1] (zyt hg (z0k l2) hN) fun r3=>z04 fun h3=>z01 ?_;subst h3;dsimp only[sel,rem,nth,del,cat,upd];refine z02 [] (ziz hg) fun r4=>z04 fun h4=>z01 ?_;subst h4;dsimp only[sel,rem,nth,del,cat,upd];rw[zau (ztm _)];refine z02 [1] (Q:=fun c=>pu (c=false) (z00 [z1e d D])) ?_ fun c=>z04 fun hc=>z01 ?_
 ·refine z07 (by simp) (z02 [0] zbs fun r=>z04 fun h=>z01 (z03 [0] fun q hq=>⟨?_,hq⟩));rw[h];simp[Geo.lay];omega
 subst hc;dsimp only[sel,rem,nth,del,cat,upd];have e2:frz (F_03 N (g.t.1,g.t.2.1,g.t.2.2.1,g.t.2.2.2))=F_03 N g.t:=zau (zth hg);rw[e2];refine z02 [0] (Q:=fun c=>pu (c=false) (z00 [z1e d D])) ?_ fun c=>z04 fun hc=>z01 ?_
 ·refine z07 rfl (z02 [0] (zn9 hg) fun r=>z04 fun h=>z01 (z03 [0] fun q hq=>⟨?_,hq⟩));rw[h];simp[hr]
 subst hc;dsimp only[sel,rem,nth,del,cat,upd];refine z05 (by simp) ?_;refine z02 [0] (zz1 (seq:=seq) (d:=d) hg cl.dead (by omega) cl.head hN) fun r9=>z12 fun j=>z04 fun h9=>z01 ?_;subst h9;dsimp only[sel,rem,nth,del,cat,upd];refine z05 (by simp) ?_;refine z0v fun v=>?_;have em:=zfz (N:=N) hg;have em2:F_06 N (g.t.1,g.t.2.1,g.t.2.2.1,g.t.2.2.2)=ret (g.M:Int):=em;rw[em2];refine z0j ?_;let mC:Sl→Sl→Sl→Sl→Sl→Option Nat→List MV:=fun rows own used ino sf mp=>[.sl rows.p rows.len 2,.sl own.p own.len 1,.sl used.p used.len 1,.sl ino.p ino.len 14,.map mp,.ptr (some ⟨d,0⟩),
  .int .i64 g.J,.int .i64 g.I,.int .i64 g.G,.int .i64 g.P,.int .i64 1,.int .i64 g.lab,.int .i64 (2+g.J:Nat),.int .i64 (3+g.J:Nat),.int .i64 (4+g.J:Nat),.int .i64 g.blk,.int .i64 g.all,
  .ptr (some ⟨j,0⟩),.sl sf.p sf.len 1,.ptr none,.bool false]
 have loop:∀(K k:Nat)(sf:Sl)(L:List (Sl×List UInt8)),g.M - k<K→k≤g.M→L.map (·.2)=(z3b M).take k→(∀e∈L,e.1.len=64∧e.2.length=64) →
   Tri (z00 [pts v (.cells (mC ⟨none,0⟩ ⟨none,0⟩ ⟨none,0⟩ ⟨none,0⟩ sf none) false),z06 sf 1 (z3u L),z1v L,z1e d D]) (z0e K (F_59 N (some ⟨d,0⟩) (g.lay,0) (some ⟨v,0⟩) (g.M:Int)) (k:Int))
   fun _=>exA fun x:Sl×List (Sl×List UInt8)=>pu (x.2.map (·.2)=z3b M∧∀e∈x.2,e.1.len=64∧e.2.length=64) (z00 [pts v (.cells (mC ⟨none,0⟩ ⟨none,0⟩ ⟨none,0⟩ ⟨none,0⟩ x.1 none) false),z06 x.1 1 (z3u x.2),z1v x.2,z1e d D]):=by
  intro K;induction K with
  | zero=>intro k sf L h;omega
  | succ K ih=>
   intro k sf L h hk hL h64;rw[z13];unfold F_59;by_cases hkM:k<g.M
   ·refine z07 (by simp;omega) ?_;have e1:wr .i64 ((g.lay,(0:Int)).1.2.1+(k:Int))=((g.lab+k:Nat):Int):=by
     show wr .i64 ((g.lab:Int)+(k:Int))=_;rw[z09 (by omega) (by omega)];omega
    rw[e1];refine z02 [3] (zha (N:=N) (i:=g.lab+k) cl.dead (by omega)) fun r14=>z04 fun h14=>z01 ?_;dsimp only[sel,rem,nth,del,cat,upd];have hkn:=cl.known k hkM;generalize (z48 D ((g.lab+k:Nat):Int)).b=bs at hkn;have hb64:bs.length=64:=by
     have:=List.mem_of_getElem? hkn.symm
     have rB:(z7x M.rows).length=64:=by rw[z7x,z2n,z5w,ok.rows.len]
     have oB:(zaz M.own).length=64:=z2o (by rw[List.length_map,ok.ownl];have:=hg.g2;omega);unfold z3b at this;rcases List.mem_cons.1 this with h | h
     ·rw[h];exact rB
     ·rcases List.mem_cons.1 h with h | h
      ·rw[h];exact oB
      ·rcases List.mem_cons.1 h with h | h
       ·rw[h];exact ok.usedl
       ·obtain⟨i,hi,hx⟩:=List.mem_iff_getElem.1 h;rw[z5q]at hi;have h1:=zb0 (l:=M.ino) (i:=i) (by omega);rw[List.getElem?_eq_getElem (by rw[z5q];exact hi),hx]at h1;rw[Option.some.inj h1,List.length_append,z2v,z2v]
    refine z0c 1 rfl fun l14=>?_;rw[z0d]at l14;refine z9i 2 rfl (o:=18) (p:=sf.p) (ln:=sf.len) rfl ?_;refine z0v fun b18=>?_;refine z0c 4 rfl fun lsf=>?_;have hLl:L.length=k:=by
     have:=congrArg List.length hL
     rw[List.length_map,List.length_take,hmB]at this;omega
    rw[zh6]at lsf;refine z02 [4,0] (z3a (s:=⟨sf.p,sf.len⟩) (T:=pts b18 (.cells [.sl r14.1.p r14.1.len 1] false)) (rd_pts0 (by simp)) (by omega) rfl (by
     have:most=70368744177664:=rfl
     dsimp only;omega)) fun l19=>z01 ?_
    dsimp only[sel,rem,nth,del,cat,upd];refine zcu 4 rfl ?_;dsimp only[sel,rem,nth,del,cat,upd];rw[z09 (by omega) (by omega)];have ec:(mC ⟨none,0⟩ ⟨none,0⟩ ⟨none,0⟩ ⟨none,0⟩ sf none).set 18 (.sl l19.p l19.len 1)=mC ⟨none,0⟩ ⟨none,0⟩ ⟨none,0⟩ ⟨none,0⟩ l19 none:=rfl;rw[ec];have es:z3u L++[.sl r14.1.p r14.1.len 1]=z3u (L++[(r14.1,bs)]):=by simp[z3u]
    rw[es];have hn:=ih (k+1) l19 (L++[(r14.1,bs)]) (by omega) (by omega) (by
     rw[List.map_append,hL,List.take_add_one,←hkn];rfl) (by
     intro e he;rcases List.mem_append.1 he with he | he
     ·exact h64 e he
     ·simp at he;subst he;dsimp only;omega)
    refine z1u [4,0,3,1,1] (hn.pre fun q hq=>?_);refine z1g (fun q=>z1g (fun q hq=>?_)) hq;have ep:z1v (L++[(r14.1,bs)])=z18 (z1v L) (z06 r14.1 1 (bytesOf bs)):=by
     unfold z1v;rw[List.map_append,z4i,List.map_cons,List.map_nil,stars_one]
    show z18 (z1v (L++[(r14.1,bs)])) (z18 (z1e d D) emp) q;have hq':z18 (z1v L) (z18 (z1e d D) (z18 (z06 r14.1 1 (bytesOf bs)) emp)) q:=hq;rw[ep,z4h];rw[zet (z1e d D) (z06 r14.1 1 (bytesOf bs)) emp]at hq';exact hq'
   ·obtain rfl:k=g.M:=by omega
    refine z05 (by simp) (z1m fun q hq=>⟨(sf,L),⟨?_,h64⟩,hq⟩);rw[hL,List.take_of_length_le (by omega)]
 refine z1u [0,1,0] (Tri.pre (B:=z00 [pts v (.cells (mC ⟨none,0⟩ ⟨none,0⟩ ⟨none,0⟩ ⟨none,0⟩ ⟨none,0⟩ none) false),z06 ⟨none,0⟩ 1 (z3u []),z1v [],z1e d D,pts j (.cells (z3d d g seq) false)]) ?_ fun q hq=>?_)
 case refine_2=>
  have h1:z00 [pts v (.cells (mC ⟨none,0⟩ ⟨none,0⟩ ⟨none,0⟩ ⟨none,0⟩ ⟨none,0⟩ none) false),z1e d D,pts j (.cells (z3d d g seq) false)] q:=hq;refine z1g (fun q hq=>?_) h1;exact z2h (fun q h =>.nil 1 h) (z2h (fun q h=>h) hq)
 refine z02 [0,0,0,0] (loop N 0 ⟨none,0⟩ [] (by omega) (by omega) rfl (by simp)) fun _=>z12 fun x=>z04 fun ⟨hx1,hx2⟩=>z01 ?_;obtain⟨sf,L⟩:=x;dsimp only at hx1 hx2;dsimp only[sel,rem,nth,del,cat,upd];refine z9i 0 rfl (o:=18) (p:=sf.p) (ln:=sf.len) rfl ?_;refine z0c 1 rfl fun lsf=>?_;have hRd:RdL (z00 [z06 sf 1 (z3u L),z1v L]) ⟨sf.p,sf.len⟩ L:=by
  refine⟨(z0k lsf).at 0 rfl,fun e he=>?_⟩;have:=hx2 e he
  exact(zbk (P:=L) (s:=e.1) (bs:=e.2) he (by omega)).at 1 rfl
 refine z02 [1,1] (zyw (T:=z00 [z06 sf 1 (z3u L),z1v L]) hg ok hRd hx1 hN |>.pre fun q hq=>by rw[stars_one];exact hq) fun r26=>z04 fun h26=>z01 ?_;dsimp only[sel,rem,nth,del,cat,upd];refine z8r 4 rfl ?_;dsimp only[sel,rem,nth,del,cat,upd];refine z0r (z0b (z0b ?_));refine z50 6 rfl rfl (by simp[mC]) rfl ?_;have ec:z11 (mC ⟨none,0⟩ ⟨none,0⟩ ⟨none,0⟩ ⟨none,0⟩ sf none) (0+0+0) [.sl r26.1.1.p r26.1.1.len 2,.sl r26.1.2.1.p r26.1.2.1.len 1,.sl r26.1.2.2.1.p r26.1.2.2.1.len 1,.sl r26.1.2.2.2.p r26.1.2.2.2.len 14]=mC r26.1.1 r26.1.2.1 r26.1.2.2.1 r26.1.2.2.2 sf none:=rfl;rw[ec];dsimp only[sel,rem,nth,del,cat,upd];refine z02 [6,2,2,2,2] (Q:=fun c=>pu (c=false) (z00 [pts v (.cells (mC r26.1.1 r26.1.2.1 r26.1.2.2.1 r26.1.2.2.2 sf none) false),z06 r26.1.1 2 (z1t M.rows),z06 r26.1.2.1 1 (z1c M.own),z06 r26.1.2.2.1 1 (bytesOf M.used),z06 r26.1.2.2.2 14 (z2m M.ino)])) ?_ fun c=>z04 fun hc=>z01 ?_
 ·refine z07 (by simp[h26]) ?_;refine z02 [0,0,0,0,0] (zu7 hg ok rf gr rfl rfl rfl rfl rfl hN) fun r=>z04 fun h=>z01 (z03 [0,0,0,0,0] fun q hq=>⟨by rw[h];rfl,hq⟩)
 subst hc;dsimp only[sel,rem,nth,del,cat,upd];refine z05 (by simp) ?_;refine z123 .i64 fun mb=>?_;refine z0r (z0b (z0b (z21 1 rfl (by simp[mC]) rfl ?_)));dsimp only[sel,rem,nth,del,cat,upd];refine z03 [1,1,1,1,1,0,1,1,1,0] fun q hq=>⟨v,rfl,?_⟩;have hq2:z00 (z2c v d g (zoq M D seq) ⟨⟨r26.1.1,r26.1.2.1,r26.1.2.2.1,r26.1.2.2.2,mb,d,j,sf,none,false⟩,[],L,L⟩) q:=by
  have h1:=hq;dsimp only[sel,rem,nth,del,cat,upd]at h1;refine z1g (fun q=>z1g (fun q=>z1g (fun q=>z1g (fun q=>z1g (fun q=>z1g (fun q=>z1g (fun q=>z1g (fun q=>z1g fun q hq=>?_)))))))) h1;have h2:z18 (z06 sf 1 (z3u L)) emp q:=hq;show z18 (z06 sf 1 (z3u L)) (z18 emp emp) q;rw[star_emp emp];exact h2
 exact z1r ⟨rfl,⟨by simp,by simp,by simp⟩,hx1,fun e he=>⟨he,hx2 e he⟩,rfl⟩ rfl hq2
end
end Go.Moat

/- Layer 15: what is known stays in order. -/
namespace Go.Moat
open Go.Mini
def z7d(i:Nat)(o:Nat):Bool:=decide (o=i+1)
def z66(i:Nat)(n:Ino):Bool:=decide (n.k≠0)&&decide (n.r=i)
def MetaS.cnt(m:MetaS)(i:Nat):Nat:=m.own.countP (z7d i)+m.ino.countP (z66 i)
structure Inv(g:Geo)(m:MetaS):Prop where
 ok:MetaOk g m
 refs:∀i,i<16→(z1a m.rows i).2=m.cnt i
 grp:∀k,k<g.G→(0<m.own[k]?.getD 0↔∃b,k * g.P≤b∧b<(k+1) * g.P∧z0y m.used b=true)
section
variable{g:Geo}{m:MetaS}
theorem zdp(hg:g.ok){b k:Nat}:b / g.P=k↔k * g.P≤b∧b<(k+1) * g.P:=by
 have:=hg.p1
 rw[Nat.div_eq_iff (by omega),Nat.add_mul,Nat.one_mul];omega
theorem Inv.rf(h:Inv g m):RefOk m:=by
 refine⟨fun o ho h0=>?_,fun n hn hk=>?_⟩
 ·have h16:=h.ok.own16 o ho;rw[h.refs (o - 1) (by omega)];unfold MetaS.cnt;have:0<m.own.countP (z7d (o - 1)):=List.countP_pos_iff.2 ⟨o,ho,by simp[z7d];omega⟩
  omega
 ·have h16:=(h.ok.inok n hn).r;rw[h.refs _ h16];unfold MetaS.cnt;have:0<m.ino.countP (z66 n.r):=List.countP_pos_iff.2 ⟨n,hn,by simp[z66];omega⟩
  omega
theorem Inv.gr(hg:g.ok)(h:Inv g m):zrg g m:=by
 intro b hb hbit;have hp:=hg.p1;have hk:b / g.P<g.G:=by
  rw[Nat.div_lt_iff_lt_mul (by omega)];exact hb
 obtain⟨h1,h2⟩:=(zdp hg).1 (rfl:b / g.P=b / g.P);exact(h.grp _ hk).2 ⟨b,h1,h2,hbit⟩
def z9a(g:Geo):MetaS:=⟨List.replicate 16 (0,0),List.replicate g.G 0,z1h,List.replicate g.I Ino.z⟩
theorem zae(i:Nat):z0y z1h i=false:=by
 cases h:z0y z1h i with
 | false=>rfl
 | true=>
  unfold z0y at h;split at h
  ·rename_i b hb;have:=List.mem_of_getElem? hb
   rw[List.eq_of_mem_replicate this]at h;simp at h
  ·cases h
theorem z15n(i:Nat):z1a (List.replicate 16 (0,0)) i=(0,0):=by
 unfold z1a;rw[List.getElem?_replicate];split<;>rfl
theorem zeb(g:Geo):Inv g (z9a g):=by
 refine⟨⟨⟨rfl,?_,?_,?_⟩,by simp[z9a],?_,by simp[z9a,z1h],fun i _=>zae i,by simp[z9a],?_⟩,?_,?_⟩
 ·intro r hr;rw[List.eq_of_mem_replicate hr];exact⟨by omega,by omega⟩
 ·intro r hr _;rw[List.eq_of_mem_replicate hr]
 ·intro i j hi hj h0;have:=List.eq_of_mem_replicate (List.getElem_mem (l:=List.replicate 16 ((0:Nat),(0:Nat))) hi)
  change 0<((List.replicate 16 ((0:Nat),(0:Nat)))[i]'hi).2 at h0;rw[this]at h0;simp at h0
 ·intro o ho;rw[List.eq_of_mem_replicate ho];omega
 ·intro n hn;rw[List.eq_of_mem_replicate hn];exact z_ok
 ·intro i hi;have h1:(z9a g).own.countP (z7d i)=0:=by
   rw[List.countP_eq_zero];intro o ho;rw[List.eq_of_mem_replicate ho];simp[z7d]
  have h2:(z9a g).ino.countP (z66 i)=0:=by
   rw[List.countP_eq_zero];intro o ho;rw[List.eq_of_mem_replicate ho];simp[z66,Ino.z]
  unfold MetaS.cnt;rw[h1,h2,show(z9a g).rows=List.replicate 16 (0,0)from rfl,z15n]
 ·intro k hk;constructor
  ·intro h;rw[show(z9a g).own=List.replicate g.G 0 from rfl,List.getElem?_replicate]at h;split at h<;>simp at h
  ·rintro⟨b,_,_,h⟩
   rw[show(z9a g).used=z1h from rfl,zae]at h;cases h
theorem z1ah(hg:g.ok)(h:MetaOk g m)(i:Nat):m.cnt i≤128:=by
 have h1:m.own.countP (z7d i)≤m.own.length:=List.countP_le_length;have h2:m.ino.countP (z66 i)≤m.ino.length:=List.countP_le_length;have:=h.ownl
 have:=h.inol
 have:=hg.g2
 have:=hg.i2
 unfold MetaS.cnt;omega
theorem zqb{rs:List Row}{a i:Nat}(h:zbp rs a=some i):i<rs.length∧((0<(z1a rs i).2∧(z1a rs i).1=a)∨((z1a rs i).2=0∧∀(j:Nat)(hj:j<rs.length),0<rs[j].2→rs[j].1≠a)):=by
 have hl:=zx5 h;refine⟨hl,?_⟩;have hr:z1a rs i=rs[i]:=by simp[z1a,hl]
 rw[hr];unfold zbp at h;split at h
 ·rename_i j hj;cases h;have:=(List.findIdx?_eq_some_iff_getElem.1 hj).2.1
  unfold z3z at this;left;simpa using this
 ·rename_i hj;right;have h2:=(List.findIdx?_eq_some_iff_getElem.1 h).2.1;unfold zg0 at h2;refine⟨by simpa using h2,fun j hj' h0=>?_⟩;rw[List.findIdx?_eq_none_iff]at hj;have:=hj _ (List.getElem_mem hj')
  unfold z3z at this;intro c;simp[h0,c]at this
theorem zbu{rs:List Row}{i:Nat}(hi:i<rs.length)(x:Row)(j:Nat):z1a (rs.set i x) j=if j=i then x else z1a rs j:=by
 unfold z1a;rw[List.getElem?_set];by_cases h:i=j
 ·subst h;rw[if_pos rfl,if_pos hi,if_pos rfl];rfl
 ·rw[if_neg h,if_neg (fun c=>h c.symm)]
theorem RowsOk.upd{rs:List Row}(ok:RowsOk rs){i:Nat}{x:Row}(hi:i<16)(h1:x.1<65536)(h2:x.2≤65535)(h3:x.2=0→x.1=0)(h4:∀(j:Nat)(hj:j<rs.length),j≠i→0<rs[j].2→0<x.2→rs[j].1≠x.1):RowsOk (rs.set i x):=by
 have hl:=ok.len;refine⟨by rw[List.length_set];exact hl,?_,?_,?_⟩
 ·intro r hr;rcases List.mem_or_eq_of_mem_set hr with h | rfl
  ·exact ok.rng r h
  ·exact⟨h1,h2⟩
 ·intro r hr h0;rcases List.mem_or_eq_of_mem_set hr with h | rfl
  ·exact ok.zero r h h0
  ·exact h3 h0
 ·intro p q hp hq hp0 hq0 he;rw[List.length_set]at hp hq;rw[List.getElem_set]at hp0 he;rw[List.getElem_set]at hq0 he;by_cases e1:i=p<;>by_cases e2:i=q
  ·omega
  ·rw[if_pos e1]at hp0 he;rw[if_neg e2]at hq0 he;exact absurd he.symm (h4 q hq (fun c=>e2 c.symm) hq0 hp0)
  ·rw[if_neg e1]at hp0 he;rw[if_pos e2]at hq0 he;exact absurd he (h4 p hp (fun c=>e1 c.symm) hp0 hq0)
  ·rw[if_neg e1]at hp0 he;rw[if_neg e2]at hq0 he;exact ok.dist p q hp hq hp0 hq0 he
theorem zqc{rs:List Row}{a:Nat}(h:z3w rs a=0):∃i,zbp rs a=some i∧z3x rs a=i∧(z1a rs i).2≠65535:=by
 unfold z3w at h;split at h
 ·cases h
 ·rename_i i hi;refine⟨i,hi,by unfold z3x;rw[hi];rfl,fun c=>?_⟩;rw[if_pos c]at h;cases h
theorem zju{rs:List Row}(ok:RowsOk rs){a:Nat}(ha:a<65536)(h:z3w rs a=0):RowsOk (z99 rs a)∧z3x rs a<16∧∀j,(z1a (z99 rs a) j).2=(z1a rs j).2+if j=z3x rs a then 1 else 0:=by
 obtain⟨i,h1,h2,h3⟩:=zqc h;obtain⟨hi,hc⟩:=zqb h1;have hl:=ok.len;have hr:z1a rs i=rs[i]:=by simp[z1a,hi]
 have hrng:=ok.rng _ (List.getElem_mem hi);unfold z99;rw[h2];refine⟨ok.upd (by omega) ha (by dsimp only;rw[hr]at h3 ⊢;omega) (by dsimp only;omega) fun j hj hne h0 _=>?_,by omega,fun j=>?_⟩
 ·dsimp only;rcases hc with⟨hc1,hc2⟩ | ⟨_,hc2⟩
  ·intro c;rw[hr]at hc1 hc2;exact hne (ok.dist j i hj hi h0 hc1 (by omega))
  ·exact hc2 j hj h0
 ·rw[zbu hi];by_cases e:j=i
  ·subst e;rw[if_pos rfl,if_pos rfl]
  ·rw[if_neg e,if_neg e];omega
theorem zx7{rs:List Row}(ok:RowsOk rs){i:Nat}(hi:i<16)(h0:0<(z1a rs i).2):RowsOk (zbq rs i)∧∀j,(z1a (zbq rs i) j).2=(z1a rs j).2 - if j=i then 1 else 0:=by
 have hl:=ok.len;have hil:i<rs.length:=by omega
 have hr:z1a rs i=rs[i]:=by simp[z1a,hil]
 have hrng:=ok.rng _ (List.getElem_mem hil);rw[hr]at h0;unfold zbq;rw[hr];by_cases h1:rs[i].2=1
 ·rw[if_pos h1];refine⟨ok.upd hi (by omega) (by omega) (fun _=>rfl) fun j hj hne _ hx=>by dsimp only at hx;omega,fun j=>?_⟩;rw[zbu hil];by_cases e:j=i
  ·subst e;rw[if_pos rfl,if_pos rfl,hr,h1]
  ·rw[if_neg e,if_neg e];omega
 ·rw[if_neg h1];refine⟨ok.upd hi hrng.1 (by dsimp only;omega) (by dsimp only;omega) fun j hj hne hj0 _ c=>hne (ok.dist j i hj hil hj0 h0 c),fun j=>?_⟩;rw[zbu hil];by_cases e:j=i
  ·subst e;rw[if_pos rfl,if_pos rfl,hr]
  ·rw[if_neg e,if_neg e];omega
theorem getD_set{o:List Nat}{i:Nat}(hi:i<o.length)(x j:Nat):(o.set i x)[j]?.getD 0=if j=i then x else o[j]?.getD 0:=by
 rw[List.getElem?_set];by_cases h:i=j
 ·subst h;rw[if_pos rfl,if_pos hi,if_pos rfl];rfl
 ·rw[if_neg h,if_neg (fun c=>h c.symm)]
theorem zcy(hg:g.ok)(h:Inv g m){a:Nat}(ha:a<65536):Inv g (m.alloc g a).2:=by
 have hol:=h.ok.ownl;have hul:=h.ok.usedl;have hgp:=hg.gp;have hB:g.B=g.G * g.P:=rfl;have hp1:=hg.p1;unfold MetaS.alloc;cases hat:m.atB g a with
 | some b=>
  dsimp only;unfold MetaS.atB at hat;split at hat
  ·rename_i r hr;rw[List.find?_range'_eq_some]at hat;obtain⟨h1,h2,_⟩:=hat;rw[List.mem_range'_1]at h2;unfold MetaS.isAt at h1;simp only[Bool.and_eq_true,decide_eq_true_eq]at h1;refine⟨⟨h.ok.rows,hol,h.ok.own16,by dsimp only;rw[zax];exact hul,fun i hi=>?_,h.ok.inol,h.ok.inok⟩,h.refs,fun k hk=>?_⟩
   ·dsimp only;rw[z1y (by omega),if_neg (by omega)];exact h.ok.used0 i hi
   ·dsimp only;rw[h.grp k hk];constructor
    ·rintro⟨c,c1,c2,c3⟩
     refine⟨c,c1,c2,?_⟩;rw[z1y (by omega)];split
     ·rfl
     ·exact c3
    ·rintro⟨c,c1,c2,c3⟩
     rw[←h.grp k hk];rw[z1y (by omega)]at c3;split at c3
     ·rename_i e;subst e;have:=(zdp hg).2 ⟨c1,c2⟩
      rw[this]at h1;rw[h1.1];simp
     ·exact(h.grp k hk).2 ⟨c,c1,c2,c3⟩
  ·cases hat
 | none=>
  dsimp only;cases hfr:m.own.findIdx? z34 with
  | none=>exact h
  | some k=>
   dsimp only;by_cases hE:z3w m.rows a=0
   case neg=>rw[if_neg hE];exact h
   rw[if_pos hE];obtain⟨hk,hk0,_⟩:=List.findIdx?_eq_some_iff_getElem.1 hfr;unfold z34 at hk0;simp only[decide_eq_true_eq]at hk0;obtain⟨r1,r2,r3⟩:=zju h.ok.rows ha hE;have hkG:k<g.G:=by omega
   have hb:k * g.P+g.P≤g.G * g.P:=z3s hkG;refine⟨⟨r1,by dsimp only;rw[List.length_set];exact hol,?_,by dsimp only;rw[zax];exact hul,fun i hi=>?_,h.ok.inol,h.ok.inok⟩,fun i hi=>?_,fun j hj=>?_⟩
   ·intro o ho;rcases List.mem_or_eq_of_mem_set ho with c | rfl
    ·exact h.ok.own16 o c
    ·omega
   ·dsimp only;rw[z1y (by omega),if_neg (by omega)];exact h.ok.used0 i hi
   ·dsimp only;rw[r3,h.refs i hi];unfold MetaS.cnt;dsimp only;rw[List.countP_set hk];have e1:z7d i m.own[k]=false:=by unfold z7d;rw[hk0];simp
    have e2:z7d i (z3x m.rows a+1)=decide (i=z3x m.rows a):=by
     unfold z7d;congr 1;apply propext;omega
    rw[e1,e2];by_cases e:i=z3x m.rows a
    ·simp[e];omega
    ·simp[e]
   ·dsimp only;rw[getD_set hk];by_cases e:j=k
    ·subst e;rw[if_pos rfl];constructor
     ·intro _;refine⟨j * g.P,Nat.le_refl _,by rw[Nat.add_mul];omega,?_⟩;rw[z1y (by omega),if_pos rfl]
     ·intro _;omega
    ·rw[if_neg e,h.grp j hj];have hne:∀c,j * g.P≤c→c<(j+1) * g.P→c≠k * g.P:=by
      intro c c1 c2 c3;subst c3;have:=(zdp hg).2 ⟨c1,c2⟩
      rw[Nat.mul_div_cancel _ (by omega)]at this;omega
     constructor
     ·rintro⟨c,c1,c2,c3⟩
      exact⟨c,c1,c2,by rw[z1y (by omega),if_neg (hne c c1 c2)];exact c3⟩
     ·rintro⟨c,c1,c2,c3⟩
      rw[z1y (by omega),if_neg (hne c c1 c2)]at c3;exact⟨c,c1,c2,c3⟩
theorem z15o(hg:g.ok)(h:Inv g m){b:Nat}(hb:b<g.B)(hbit:z0y m.used b=true):Inv g (m.free g b):=by
 have hol:=h.ok.ownl;have hul:=h.ok.usedl;have hgp:=hg.gp;have hB:g.B=g.G * g.P:=rfl;have hp1:=hg.p1;have hkG:b / g.P<g.G:=by
  rw[Nat.div_lt_iff_lt_mul (by omega)];exact hb
 obtain⟨hd1,hd2⟩:=(zdp hg).1 (rfl:b / g.P=b / g.P);have hkl:b / g.P<m.own.length:=by omega
 have h0:0<m.own[b / g.P]?.getD 0:=(h.grp _ hkG).2 ⟨b,hd1,hd2,hbit⟩;unfold MetaS.free;generalize hk:b / g.P=k at *;have h16:m.own[k]?.getD 0≤16:=by
  rw[List.getElem?_eq_getElem hkl];exact h.ok.own16 _ (List.getElem_mem hkl)
 have used0:∀i,g.B≤i→z0y (z1x m.used b false) i=false:=by
  intro i hi;rw[z1y (by omega),if_neg (by omega)];exact h.ok.used0 i hi
 have hcnt:z6g (z1x m.used b false) (k * g.P) ((k+1) * g.P)=0↔∀c,k * g.P≤c→c<(k+1) * g.P→z0y (z1x m.used b false) c=false:=by
  unfold z6g;rw[List.length_eq_zero_iff,List.filter_eq_nil_iff];constructor
  ·intro hh c c1 c2;have:=hh c (by rw[List.mem_range'_1];omega)
   simpa using this
  ·intro hh c hc;rw[List.mem_range'_1]at hc;simp[hh c hc.1 (by omega)]
 have other:∀j,j<g.G→j≠k→(0<m.own[j]?.getD 0↔∃c,j * g.P≤c∧c<(j+1) * g.P∧z0y (z1x m.used b false) c=true):=by
  intro j hj e;rw[h.grp j hj];have hne:∀c,j * g.P≤c→c<(j+1) * g.P→c≠b:=by
   rintro c c1 c2 rfl
   have:=(zdp hg).2 ⟨c1,c2⟩
   omega
  constructor
  ·rintro⟨c,c1,c2,c3⟩
   exact⟨c,c1,c2,by rw[z1y (by omega),if_neg (hne c c1 c2)];exact c3⟩
  ·rintro⟨c,c1,c2,c3⟩
   rw[z1y (by omega),if_neg (hne c c1 c2)]at c3;exact⟨c,c1,c2,c3⟩
 by_cases hz:z6g (z1x m.used b false) (k * g.P) ((k+1) * g.P)=0
 ·rw[if_pos hz];have hrow:0<(z1a m.rows (m.own[k]?.getD 0 - 1)).2:=by
   refine h.rf.own _ ?_ h0;rw[List.getElem?_eq_getElem hkl];exact List.getElem_mem hkl
  obtain⟨r1,r2⟩:=zx7 h.ok.rows (by omega) hrow;refine⟨⟨r1,by dsimp only;rw[List.length_set];exact hol,?_,by dsimp only;rw[zax];exact hul,used0,h.ok.inol,h.ok.inok⟩,fun i hi=>?_,fun j hj=>?_⟩
  ·intro o ho;rcases List.mem_or_eq_of_mem_set ho with c | rfl
   ·exact h.ok.own16 o c
   ·omega
  ·dsimp only;rw[r2,h.refs i hi];unfold MetaS.cnt;dsimp only;rw[List.countP_set hkl];have e1:z7d i m.own[k]=decide (i=m.own[k]?.getD 0 - 1):=by
    rw[List.getElem?_eq_getElem hkl]at h0 ⊢;unfold z7d;congr 1;apply propext;simp only[Option.getD_some]at h0 ⊢;omega
   have e2:z7d i 0=false:=by simp[z7d]
   rw[e1,e2];by_cases e:i=m.own[k]?.getD 0 - 1
   ·have:0<m.own.countP (z7d i):=List.countP_pos_iff.2 ⟨m.own[k],List.getElem_mem hkl,by rw[e1];simpa using e⟩
    simp only[e,decide_true,if_true];rw[←e];simp;omega
   ·simp[e]
  ·dsimp only;rw[getD_set hkl];by_cases e:j=k
   ·subst e;rw[if_pos rfl];constructor
    ·intro c;omega
    ·rintro⟨c,c1,c2,c3⟩
     rw[hcnt.1 hz c c1 c2]at c3;cases c3
   ·rw[if_neg e];exact other j hj e
 ·rw[if_neg hz];refine⟨⟨h.ok.rows,hol,h.ok.own16,by dsimp only;rw[zax];exact hul,used0,h.ok.inol,h.ok.inok⟩,h.refs,fun j hj=>?_⟩;by_cases e:j=k
  ·subst e;dsimp only;refine⟨fun _=>?_,fun _=>h0⟩;exact Classical.byContradiction fun hn=>hz (hcnt.2 fun c c1 c2=>by
    cases hc:z0y (z1x m.used b false) c with
    | false=>rfl
    | true=>exact absurd ⟨c,c1,c2,hc⟩ hn)
  ·exact other j hj e
theorem z15p(hg:g.ok)(h:Inv g m){kind a:Nat}(ha:a<65536):Inv g (m.make kind a).2:=by
 have hil:=h.ok.inol;unfold MetaS.make;by_cases hk:kind=1∨kind=2
 case neg=>rw[if_neg hk];exact h
 rw[if_pos hk];cases hfr:m.ino.findIdx? zad with
 | none=>exact h
 | some i=>
  dsimp only;by_cases hE:z3w m.rows a=0
  case neg=>rw[if_neg hE];exact h
  rw[if_pos hE];obtain⟨hi,hi0,_⟩:=List.findIdx?_eq_some_iff_getElem.1 hfr;unfold zad at hi0;simp only[decide_eq_true_eq]at hi0;obtain⟨r1,r2,r3⟩:=zju h.ok.rows ha hE;have hnew:(z95 kind (z3x m.rows a)).Ok:=by
   have hat:∀i,(z95 kind (z3x m.rows a)).at i=0:=by
    intro i;unfold z95 Ino.at;rw[List.getElem?_replicate];split<;>rfl
   refine⟨by show kind<3;omega,fun c=>?_,r2,by rw[hat];omega,by rw[hat];omega,by rw[hat];omega,by rw[hat];omega,fun i _ _=>by rw[hat];omega⟩;have:kind=0:=c
   omega
  refine⟨⟨r1,h.ok.ownl,h.ok.own16,h.ok.usedl,h.ok.used0,by dsimp only;rw[List.length_set];exact hil,?_⟩,fun j hj=>?_,h.grp⟩
  ·intro n hn;rcases List.mem_or_eq_of_mem_set hn with c | rfl
   ·exact h.ok.inok n c
   ·exact hnew
  ·dsimp only;rw[r3,h.refs j hj];unfold MetaS.cnt;dsimp only;rw[List.countP_set hi];have e1:z66 j m.ino[i]=false:=by unfold z66;rw[hi0];simp
   have e2:z66 j (z95 kind (z3x m.rows a))=decide (j=z3x m.rows a):=by
    unfold z66 z95;have:decide (kind≠0)=true:=by simp;omega
    dsimp only;rw[this,Bool.true_and];congr 1;apply propext;omega
   rw[e1,e2];by_cases e:j=z3x m.rows a
   ·simp[e];omega
   ·simp[e]
theorem zz3(hg:g.ok)(h:Inv g m){i:Nat}(hi:i<m.ino.length)(hk:m.ino[i].k≠0):Inv g (m.unmake i):=by
 have hil:=h.ok.inol;have hm:=List.getElem_mem hi;have hr:=(h.ok.inok _ hm).r;have hn:z15 m.ino i=m.ino[i]:=by simp[z15,hi]
 obtain⟨r1,r2⟩:=zx7 h.ok.rows hr (h.rf.ino _ hm hk);unfold MetaS.unmake;rw[hn];refine⟨⟨r1,h.ok.ownl,h.ok.own16,h.ok.usedl,h.ok.used0,by dsimp only;rw[List.length_set];exact hil,?_⟩,fun j hj=>?_,h.grp⟩
 ·intro n hn;rcases List.mem_or_eq_of_mem_set hn with c | rfl
  ·exact h.ok.inok n c
  ·exact z_ok
 ·dsimp only;rw[r2,h.refs j hj];unfold MetaS.cnt;dsimp only;rw[List.countP_set hi];have e1:z66 j m.ino[i]=decide (j=m.ino[i].r):=by
   unfold z66;have:decide (m.ino[i].k≠0)=true:=by simpa using hk
   rw[this,Bool.true_and];congr 1;apply propext;omega
  have e2:z66 j Ino.z=false:=by simp[z66,Ino.z]
  rw[e1,e2];by_cases e:j=m.ino[i].r
  ·have:0<m.ino.countP (z66 j):=List.countP_pos_iff.2 ⟨m.ino[i],hm,by rw[e1];simpa using e⟩
   simp only[e,decide_true,if_true];rw[←e];simp;omega
  ·simp[e]
theorem z18e(hg:g.ok)(h:Inv g m){i:Nat}{n:Ino}(hE:m.setE i n=0):Inv g (m.set i n)∧i<m.ino.length:=by
 have hil:=h.ok.inol;unfold MetaS.setE at hE;by_cases h1:m.hasE i=1
 ·rw[if_pos h1]at hE;cases hE
 rw[if_neg h1]at hE;by_cases h2:n.ok=false∨n.k=0
 ·rw[if_pos h2]at hE;cases hE
 rw[if_neg h2]at hE;by_cases h3:m.hasE i≠0
 ·rw[if_pos h3]at hE;cases hE
 rw[if_neg h3]at hE;by_cases h4:n.k≠(z15 m.ino (i:Int).toNat).k∨n.r≠(z15 m.ino (i:Int).toNat).r
 ·rw[if_pos h4]at hE;cases hE
 rw[not_or]at h2 h4;have h3':m.hasE i=0:=Classical.not_not.1 h3;obtain⟨k,hk,e,hkk⟩:=zev h3';have:k=i:=by omega
 subst this;rw[Int.toNat_natCast]at h4;have hn:z15 m.ino k=m.ino[k]:=by simp[z15,hk]
 rw[hn]at h4;have ek:n.k=m.ino[k].k:=Classical.not_not.1 h4.1;have er:n.r=m.ino[k].r:=Classical.not_not.1 h4.2;refine⟨?_,hk⟩;unfold MetaS.set;refine⟨⟨h.ok.rows,h.ok.ownl,h.ok.own16,h.ok.usedl,h.ok.used0,by dsimp only;rw[List.length_set];exact hil,?_⟩,fun j hj=>?_,h.grp⟩
 ·intro x hx;rcases List.mem_or_eq_of_mem_set hx with c | rfl
  ·exact h.ok.inok x c
  ·exact Ino.ok_iff.1 (by simpa using h2.1)
 ·dsimp only;rw[h.refs j hj];unfold MetaS.cnt;dsimp only;rw[List.countP_set hk];have e1:z66 j n=z66 j m.ino[k]:=by unfold z66;rw[ek,er]
  rw[e1];by_cases e:z66 j m.ino[k]=true
  ·have:0<m.ino.countP (z66 j):=List.countP_pos_iff.2 ⟨m.ino[k],List.getElem_mem hk,e⟩
   simp only[e,if_true];omega
  ·simp[e]
end
end Go.Moat

/- Layer 15: a volume that is built, and shown(). -/
namespace Go.Moat
open Go.Mini
section
variable{N:Nat}{β:Type}{l:List HA}{S:β→HA}{v d:Nat}{g:Geo}{V:VolS}{m:M β}{T:HA}{D:DskS}
theorem z1ai:z7x (List.replicate 16 ((0:Nat),(0:Nat)))=z1h:=by decide
theorem z1b1:z4t Ino.z++z4t Ino.z=z1h:=by decide
theorem z1b2(n:Nat)(h:n≤64):zaz (List.replicate n 0)=z1h:=by
 unfold zaz z2g z1h;rw[List.map_replicate,List.length_replicate];show List.replicate n (0:UInt8)++_=_;rw[List.replicate_append_replicate];congr 1;omega
theorem z12b:∀n:Nat,z7b (List.replicate (2 * n) Ino.z)=List.replicate n z1h
 | 0=>rfl
 | n+1=>by
  rw[show 2 * (n+1)=2 * n+1+1 by omega,List.replicate_succ,List.replicate_succ,List.replicate_succ];unfold z7b;rw[z12b n,z1b1]
theorem z1b3(hg:g.ok):z3b (z9a g)=List.replicate g.M z1h:=by
 have hi:=hg.i3;have hg2:=hg.g2;unfold z3b z9a Geo.M;dsimp only;rw[z1ai,z1b2 _ hg2];have e:g.I=2 * (g.I / 2):=by omega
 rw[e,z12b];rw[show 3+2 * (g.I / 2) / 2=g.I / 2+1+1+1 by omega];rfl
theorem zg2(g:Geo):(z9t g).secs.length=g.all:=by simp[z9t]
theorem zli{g:Geo}{i:Nat}(h0:0<i)(hi:i<g.all):z48 (z9t g) (i:Int)=z47:=by
 unfold z48;rw[zbt (D:=z9t g) rfl (by rw[zg2];exact hi)];rw[if_pos rfl];unfold z9t;dsimp only;rw[Int.toNat_natCast,List.getElem?_set,if_neg (by omega),List.getElem?_replicate,if_pos hi];rfl
theorem z1aj(hg:g.ok):Clean g (z9t g) (z9a g) 0:=by
 have hpos:0<g.all:=by unfold Geo.all Geo.blk;omega
 have hj:=hg.j1;have ha:g.all=4+g.J+g.I / 2+g.B:=rfl;have hlab:g.lab=1+g.J:=rfl;have hM:g.M=3+g.I / 2:=rfl;refine⟨rfl,by rw[zg2];exact Nat.le_refl _,?_,?_,fun i hi=>?_⟩
 ·unfold z48;rw[show z7y (z9t g) 0=0 from zbt (D:=z9t g) rfl (i:=0) (by rw[zg2];exact hpos)];rw[if_pos rfl];unfold z9t;dsimp only;rw[List.getElem?_set,if_pos (show 0=Int.toNat 0 from rfl),if_pos (by rw[List.length_replicate];exact hpos)];rfl
 ·left;refine⟨?_,rfl⟩;rw[show(1:Int)=((1:Nat):Int)from rfl,zli (by omega) (by omega)];rfl
 ·rw[zli (by omega) (by omega),z1b3 hg,List.getElem?_replicate,if_pos hi];rfl
def z7e(g:Geo):VolS:=zoq (z9a g) (z9t g) 0
def g8:Geo:=⟨130,8,2,4⟩
def g6:Geo:=⟨130,6,4,4⟩
abbrev s0:=z9a g8
abbrev s1:=(s0.alloc g8 2).2
abbrev s2:=(s1.alloc g8 4).2
abbrev s3:=(s2.alloc g8 2).2
abbrev s4:=s3.free g8 0
abbrev s5:=s4.free g8 1
theorem a0:(s0.alloc g8 2).1=(0,0):=by decide
theorem a1:(s1.alloc g8 4).1=(4,0):=by decide
theorem a2:(s2.alloc g8 2).1=(1,0):=by decide
theorem b3:z0y s3.used 0=true:=by decide
theorem b4:z0y s4.used 1=true:=by decide
theorem a5:(s5.alloc g8 8).1=(0,0):=by decide
end
end Go.Moat
