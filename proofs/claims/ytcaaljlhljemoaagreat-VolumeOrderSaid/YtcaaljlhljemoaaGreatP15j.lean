/- Layers 7 and 15: a disk is laid, and mounted, when nothing is to be done again. -/
import Derived.Test.YtcaaljlhljemoaaGreatP15g
namespace Go.Moat
open Go.Mini
section
variable {N:Nat} {β:Type} {l:List HA} {S:β→HA} {v d:Nat} {g:Geo} {V:VolS} {m:M β} {T:HA} {D:DskS}
theorem zdj (hd:D.dead=false) (hf:D.fuse = -1) {i:Nat} (hi:i<D.secs.length) {bs:List UInt8} (h64:bs.length=64) (t:Int) :
  writeE D i bs=0∧writeD D i bs t={D with secs:=D.secs.set i ⟨bs,t⟩,waits:=D.waits++[⟨i,D.secs[i],⟨bs,t⟩⟩],done:=D.done+1}:=by
 have hc:0≤(i:Int)∧(i:Int)<D.secs.length∧bs.length=64:=⟨by omega,by omega,h64⟩
 have hp:powerE D=0:=by unfold powerE;rw [hd,hf];rfl
 have hpd:powerD D={D with done:=D.done+1}:=by
  unfold powerD
  rw [hd,hf]
  simp
 unfold writeE writeD
 rw [if_pos hc,if_pos hc,hp,if_pos rfl,hpd]
 refine ⟨rfl,?_⟩
 rw [Int.toNat_natCast,List.getElem?_eq_getElem hi]
 rfl
theorem zdk (hd:D.dead=false) (hf:D.fuse = -1):powerE D=0∧flushD D={D with waits:=[],done:=D.done+1}:=by
 have hp:powerE D=0:=by unfold powerE;rw [hd,hf];rfl
 have hpd:powerD D={D with done:=D.done+1}:=by
  unfold powerD
  rw [hd,hf]
  simp
 refine ⟨hp,?_⟩
 unfold flushD
 rw [if_pos hp,hpd]
def superS (g:Geo):SecS:=⟨superB g,0⟩
def fmtD (g:Geo):DskS:=⟨(List.replicate g.all zsec).set 0 (superS g),[],false,-1,g.all+1⟩
theorem zbh {α:Type} {A:HA} {m:M α} {φ:α→Prop} {R:α→HA} (hA:Exact A) (t:Tri (stars [A]) m fun a=>pu (φ a) (stars [R a,A])):Tri (stars [A]) (frz m) fun a=>pu (φ a) (stars [R a,A]):=by
 have e:∀(X:HA),stars [X,A]=star A X:=fun X=>by
  show star X (star A emp)=_
  rw [z2a,star_comm]
 rw [z0k] at t ⊢
 refine (zii (R:=fun a=>pu (φ a) (R a)) hA (t.post fun a q hq=>?_)).post fun a q hq=>?_
 ·have h2:=hq.2
  rw [e] at h2
  obtain ⟨q1,q2,k1,k2,k3⟩:=h2
  exact ⟨q1,q2,k1,⟨hq.1,k2⟩,k3⟩
 ·obtain ⟨q1,q2,k1,⟨k0,k2⟩,k3⟩:=hq
  refine ⟨k0,?_⟩
  rw [e]
  exact ⟨q1,q2,k1,k2,k3⟩
theorem zkp:∀(bs:List UInt8) (v:Int×Int),1≤v.1→v.1+255 * bs.length≤60000→1≤(bs.foldl (fun v c=>(wr .u32 (v.1+wr .u32 c.toNat),wr .u32 (v.2+wr .u32 (v.1+wr .u32 c.toNat)))) v).1∧(bs.foldl (fun v c=>(wr .u32 (v.1+wr .u32 c.toNat),wr .u32 (v.2+wr .u32 (v.1+wr .u32 c.toNat)))) v).1≤v.1+255 * bs.length
 | [],v,h1,h2=>⟨h1,by simp⟩
 | b::r,v,h1,h2=>by
  have hb:b.toNat<256:=b.toNat_lt
  simp only [List.length_cons] at h2
  rw [List.foldl_cons]
  have e:wr .u32 (v.1+wr .u32 (b.toNat:Int))=v.1+b.toNat:=by rw [wr32 (n:=(b.toNat:Int)) (by omega) (by omega),wr32 (by omega) (by omega)]
  have:=zkp r (wr .u32 (v.1+wr .u32 b.toNat),wr .u32 (v.2+wr .u32 (v.1+wr .u32 b.toNat))) (by dsimp only;rw [e];omega) (by dsimp only;rw [e];omega)
  refine ⟨this.1,Int.le_trans this.2 ?_⟩
  dsimp only
  rw [e,List.length_cons]
  omega
theorem ztm {bs:List UInt8} (h:bs.length≤100):0<sumI bs:=by
 obtain ⟨h1,h2⟩:=zkp bs (1,0) (by decide) (by dsimp only;omega)
 change 1≤(sumF bs).1 at h1
 change (sumF bs).1≤1+255 * bs.length at h2
 unfold sumI
 obtain ⟨n,hn⟩:∃n:Nat,(sumF bs).1=n:=⟨(sumF bs).1.toNat,by omega⟩
 have e:(sumF bs).1.tmod 65521=(n:Int):=by
  rw [hn]
  have:(n:Int).tmod 65521=((n%65521:Nat):Int):=rfl
  rw [this,Nat.mod_eq_of_lt (by omega)]
 rw [e]
 obtain ⟨k1,k2⟩:=zp6 (k :=.u32) (((sumF bs).2.tmod 65521) * 2^(Min.min (16:Int).toNat IntKind.u32.bits)) rfl
 have hs:shlI .u32 ((sumF bs).2.tmod 65521) 16=wr .u32 (((sumF bs).2.tmod 65521) * 2^(Min.min (16:Int).toNat IntKind.u32.bits)):=rfl
 rw [hs]
 generalize wr .u32 (((sumF bs).2.tmod 65521) * 2^(Min.min (16:Int).toNat IntKind.u32.bits))=x at k1 k2
 obtain ⟨a,rfl⟩:∃a:Nat,x=a:=⟨x.toNat,by omega⟩
 have k3:(2:Int)^IntKind.u32.bits=4294967296:=by decide
 rw [(z5y (k :=.u32) rfl (a:=a) (b:=n) (by show a<4294967296;omega) (by show n<4294967296;omega)).2.1]
 have:n≤a ||| n:=Nat.right_le_or
 omega
theorem ztn (n:Int):RO (F_0m N n):=by
 unfold F_0m
 split
 ·exact z2s _
 ·exact z2s _
theorem zi4 (hg:g.ok):RO (F_01 N g.t):=by
 unfold F_01
 refine zrd fun _=>?_
 have e:=z8f (N:=N) hg
 unfold Geo.t at e ⊢
 rw [e]
 exact ro_bd (z2s _) fun _=>ro_bd (ztn _) fun _=>z2s _
theorem zjk (hg:g.ok) (hr:g.roomy) (hN:5000<N):Tri (stars [DiskA d (newD g.all)]) (F_1z N (some ⟨d,0⟩) g.t) fun r=>pu (r=0) (stars [DiskA d (fmtD g)]):=by
 have hall:=hg.all_le
 have hpos:0<g.all:=by unfold Geo.all Geo.blk;omega
 unfold F_1z
 refine z01 [] (zal hg) fun r3=>z03 fun h3=>z00 ?_
 subst h3
 dsimp only [sel,rem,nth,del,cat,upd]
 refine z04 (by simp) ?_
 rw [z5h (zia _)]
 refine z01 [0] (Q:=fun c=>pu (c=false) (stars [DiskA d (newD g.all)])) ?_ fun c=>z03 fun hc=>z00 ?_
 ·refine z08 (by simp) (z01 [0] z5u fun r=>z03 fun h=>z00 (z02 [0] fun q hq=>⟨?_,hq⟩))
  rw [h]
  simp [newD,Geo.lay]
 subst hc
 dsimp only [sel,rem,nth,del,cat,upd]
 have e2:frz (F_01 N (g.t.1,g.t.2.1,g.t.2.2.1,g.t.2.2.2))=F_01 N g.t:=z5h (zi4 hg)
 rw [e2]
 refine z01 [0] (Q:=fun c=>pu (c=false) (stars [DiskA d (newD g.all)])) ?_ fun c=>z03 fun hc=>z00 ?_
 ·refine z08 rfl (z01 [0] (zdy hg) fun r=>z03 fun h=>z00 (z02 [0] fun q hq=>⟨?_,hq⟩))
  rw [h]
  simp [hr]
 subst hc
 dsimp only [sel,rem,nth,del,cat,upd]
 refine z04 (by simp) ?_
 refine z01 [] (zfu hg hN) fun r8=>z03 fun h8=>z00 ?_
 dsimp only [sel,rem,nth,del,cat,upd]
 have loop:∀(K j:Nat) (b:Sl) (bs:List UInt8) (D:DskS),g.all - j<K→j≤g.all→bs=(if j=0 then superB g else zeros64)→b.len=64→D.dead=false→D.fuse = -1→D.done=j→D.waits.length=j →
   D.secs=(if j=0 then List.replicate g.all zsec else (List.replicate g.all zsec).set 0 (superS g)) →
   Tri (stars [OwnA b 1 (bytesOf bs),DiskA d D]) (iter K (F_49 N (some ⟨d,0⟩) (g.lay,0)) (b,(j:Int))) fun r=>exA fun D'=>pu (r=.inl ()∧D'.dead=false∧D'.fuse = -1∧D'.done=(g.all:Int)∧D'.secs=(List.replicate g.all zsec).set 0 (superS g)) (stars [DiskA d D']):=by
  intro K
  induction K with
  | zero=>intro j b bs D h;omega
  | succ K ih=>
   intro j b bs D h hj hbs hb h1 h2 h3 h4 h5
   rw [z0q]
   unfold F_49
   by_cases hjk:j<g.all
   ·refine z08 (by simp [Geo.lay];omega) ?_
    have h64:bs.length=64:=by
     rw [hbs]
     split
     ·exact z5l g
     ·simp [zeros64]
    have hjl:j<D.secs.length:=by
     rw [h5]
     split<;>simp<;>omega
    obtain ⟨e1,e2⟩:=zdj h1 h2 hjl h64 0
    refine z01 [1,0] (zm2 (N:=N) (j:Int) 0 (by omega) (by omega) (by omega) (by omega)) fun r=>z03 fun hr'=>z00 ?_
    dsimp only [sel,rem,nth,del,cat,upd]
    rw [e1] at hr'
    rw [e2]
    refine z04 (by simp [hr']) ?_
    refine z3m 64 (by omega) fun sb=>?_
    refine z3u 0 (B:=OwnA ⟨some ⟨sb,0⟩,64⟩ 1 (bytesOf zeros64)) rfl (fun q hq =>.mk (by rw [z0b];simp [zeros64]) hq) ?_
    dsimp only [sel,rem,nth,del,cat,upd]
    rw [wr64 (by omega) (by omega)]
    refine z16 [0,0] (ih (j+1) ⟨some ⟨sb,0⟩,64⟩ zeros64 _ (by omega) (by omega) (by rw [if_neg (by omega)]) rfl h1 h2 (by dsimp only;omega) (by dsimp only;rw [List.length_append,h4];rfl) ?_)
    dsimp only
    rw [if_neg (by omega),h5]
    by_cases hj0:j=0
    ·subst hj0
     rw [if_pos rfl] at hbs ⊢
     rw [hbs]
     rfl
    ·rw [if_neg hj0] at hbs ⊢
     rw [hbs]
     apply List.ext_getElem (by simp)
     intro i hi1 hi2
     rw [List.getElem_set]
     split
     ·rename_i hji
      subst hji
      rw [List.getElem_set_ne (by omega),List.getElem_replicate]
      rfl
     ·rfl
   ·obtain rfl:j=g.all:=by omega
    refine z04 (by simp [Geo.lay]) (z02 [1] fun q hq=>⟨D,⟨rfl,h1,h2,h3,?_⟩,hq⟩)
    rw [h5,if_neg (by omega)]
 refine z0a 0 rfl fun h0=>?_
 rw [z0b,z5l] at h0
 refine z01 [0,0] (loop N 0 r8.1 (superB g) (newD g.all) (by omega) (by omega) (by rw [if_pos rfl]) (by omega) rfl rfl rfl rfl (by rw [if_pos rfl];rfl)) fun r=>z10 fun D'=>z03 fun ⟨k1,k2,k3,k4,k5⟩=>z00 ?_
 subst k1
 dsimp only [sel,rem,nth,del,cat,upd]
 obtain ⟨e1,e2⟩:=zdk k2 k3
 refine z01 [0] (zdn (N:=N) (by omega) (by omega)) fun r=>z03 fun hr'=>z00 (z02 [0] fun q hq=>⟨by rw [hr',e1],?_⟩)
 rw [e2] at hq
 have:({D' with waits:=[],done:=D'.done+1}:DskS)=fmtD g:=by
  unfold fmtD
  rw [←k5,←k2,←k3,k4]
 rw [this] at hq
 exact hq
def headB (seq cnt:Nat):List UInt8:=sealed (filled (le 8 seq++le 2 cnt) 60)
theorem z56 (seq cnt:Nat):(headB seq cnt).length=64:=by
 unfold headB
 rw [z4l,z1d (by rw [List.length_append,z19,z19];omega)]
theorem lays1 (k n:Nat):lays k [n]=le k n:=by simp [lays]
theorem za4 {j:Nat} {seq cnt:Nat} {sq:Nat} (h1:seq<2^64) (h2:cnt<65536) (hN:5000<N):Tri (stars [pts j (.cells (jrnC d g sq) false)]) (F_0f N (some ⟨j,0⟩) (seq:Int) (cnt:Int)) fun r=>pu (r.1=1∧r.2.2=0) (stars [OwnA r.2.1 1 (bytesOf (headB seq cnt)),pts j (.cells (jrnC d g sq) false)]):=by
 unfold F_0f
 refine z0m fun b=>?_
 refine z01 [0] (z4v (size:=8) (ns:=[seq]) (T:=pts b (.cells [.int .u64 seq] false)) (by omega) (by omega) (z18 (by simp)) (by
  intro n hn
  simp at hn
  subst hn
  exact h1) (by simp) hN) fun r5=>z03 fun h5=>z00 ?_
 dsimp only [sel,rem,nth,del,cat,upd]
 rw [wrU64 (by omega) (by omega)]
 refine z0m fun b6=>?_
 refine z01 [0] (z4v (size:=2) (ns:=[cnt]) (T:=pts b6 (.cells [.int .u64 cnt] false)) (by omega) (by omega) (z18 (by simp)) (by
  intro n hn
  simp at hn
  subst hn
  exact h2) (by simp) hN) fun r7=>z03 fun h7=>z00 ?_
 dsimp only [sel,rem,nth,del,cat,upd]
 rw [lays1,lays1]
 refine z0a 0 rfl fun l7=>z0a 2 rfl fun l5=>?_
 have hm:most=70368744177664:=rfl
 rw [z0b,z19] at l7 l5
 refine z01 [2,0] (z1u (z0e (by rw [z0b,z19];omega)) (by omega) (z2l _) (by omega)) fun r8=>z00 ?_
 dsimp only [sel,rem,nth,del,cat,upd]
 rw [←z4o]
 refine z0a 0 rfl fun l8=>?_
 refine z01 [0] (z7m (n:=60) (z0e l8) (by rw [List.length_append,z19,z19];omega) (by omega)) fun r9=>z03 fun h9=>z00 ?_
 dsimp only [sel,rem,nth,del,cat,upd]
 refine z4m 5 rfl (v:=1) rfl ?_
 refine z0a 0 rfl fun l9=>?_
 refine z01 [0] (zbh (φ:=fun _=>True) (R:=fun r=>OwnA r 1 (bytesOf (headB seq cnt))) zoy ((zft (z0e l9) (by rw [z1d (by rw [List.length_append,z19,z19];omega)];omega) hN).post fun r q hq=>⟨trivial,hq⟩)) fun r13=>z03 fun _=>z00 ?_
 dsimp only [sel,rem,nth,del,cat,upd]
 exact z02 [0,5] fun q hq=>⟨⟨rfl,rfl⟩,hq⟩
def IsHead (b:List UInt8) (seq:Nat):Prop:=(b=zeros64∧seq=0)∨(b=headB seq 0∧seq<2^64)
theorem IsHead.len {b:List UInt8} {seq:Nat} (h:IsHead b seq):b.length=64:=by
 rcases h with ⟨rfl,_⟩ | ⟨rfl,_⟩
 ·simp [zeros64]
 ·exact z56 _ _
theorem zkq (p:Option MA):RO (F_0a N p):=by
 unfold F_0a
 split
 ·exact z2s _
 ·exact ro_bd (z7k _) fun _=>ro_bd (za7 _ _) fun _=>ro_bd (zom _ _) fun _=>z2s _
def roomN (n:Nat):Nat:=(n - 1) - (n - 1+15) / 16
theorem za5 {j sq:Nat} (hg:g.ok):Tri (stars [pts j (.cells (jrnC d g sq) false)]) (F_0a N (some ⟨j,0⟩)) fun r=>pu (r=(roomN g.J:Nat)) (stars [pts j (.cells (jrnC d g sq) false)]):=by
 have h1:=hg.j1
 have h2:=hg.j2
 unfold F_0a
 refine z04 (by simp) (z4m 0 rfl (v:=g.J) rfl (z02 [0] fun q hq=>⟨?_,hq⟩))
 have e1:wr .i64 ((g.J:Int) - 1)=((g.J - 1:Nat):Int):=by rw [wr64 (by omega) (by omega)];omega
 have e2:wr .i64 (((g.J - 1:Nat):Int)+15)=((g.J - 1+15:Nat):Int):=by rw [wr64 (by omega) (by omega)];omega
 have e3:((g.J - 1+15:Nat):Int).tdiv 16=(((g.J - 1+15) / 16:Nat):Int):=rfl
 rw [e1,e2,e3,wr64 (n:=(((g.J - 1+15) / 16:Nat):Int)) (by omega) (by omega),wr64 (by omega) (by omega)]
 unfold roomN
 omega
theorem zm1 {j:Nat} (hg:g.ok) {s:Sl} {bs:List UInt8} {seq:Nat} (h:IsHead bs seq) (hr:RdC T s 1 (bytesOf bs)) (hN:5000<N) :
  Tri (stars [pts j (.cells (jrnC d g 0) false),T]) (F_24 N (some ⟨j,0⟩) s) fun r=>pu (r=(0,true)) (stars [pts j (.cells (jrnC d g seq) false),T]):=by
 unfold F_24
 refine tri_rStr 1 rfl hr ?_
 refine z3m 64 (by omega) fun zb=>?_
 refine tri_rStr 0 rfl (bs:=zeros64) (z18 (by rw [z0b];simp [zeros64])) ?_
 by_cases hz:bs=zeros64
 ·have hs:seq=0:=by
   rcases h with ⟨_,h2⟩ | ⟨h1,_⟩
   ·exact h2
   ·exfalso
    have h4:leN ((headB seq 0).drop 60)=leN (zeros64.drop 60):=by rw [h1.symm.trans hz]
    have e:leN ((headB seq 0).drop 60)=(sumI (filled (le 8 seq++le 2 0) 60)).toNat:=by
     unfold headB sealed
     rw [List.drop_left' (by rw [z1d (by rw [List.length_append,z19,z19];omega)]),z7c,Nat.mod_eq_of_lt]
     have:=zet (filled (le 8 seq++le 2 0) 60)
     omega
    rw [e] at h4
    have h5:leN (zeros64.drop 60)=0:=by decide
    have:=ztm (bs:=filled (le 8 seq++le 2 0) 60) (by rw [z1d (by rw [List.length_append,z19,z19];omega)];omega)
    omega
  subst hs
  exact z08 (by simp [hz]) (z02 [1,1] fun q hq=>⟨rfl,hq⟩)
 ·rcases h with ⟨h1,_⟩ | ⟨h1,h64⟩
  ·exact absurd h1 hz
  subst h1
  refine z04 (by simpa using hz) ?_
  have hL:(le 8 seq++le 2 0).length=10:=by rw [List.length_append,z19,z19]
  refine z01 [2] (zp5 (bs:=filled (le 8 seq++le 2 0) 60) hr (by rw [z1d (by omega)];omega) hN) fun r6=>z03 fun h6=>z00 ?_
  dsimp only [sel,rem,nth,del,cat,upd]
  refine z04 (by simp [h6]) ?_
  refine z0a 0 rfl fun l6=>?_
  have hf:filled (le 8 seq++le 2 0) 60=le 8 seq++(le 2 0++List.replicate 50 0):=by
   unfold filled
   rw [hL,List.append_assoc]
  refine z01 [0] (z97 (a:=0) (z:=8) (z0e l6) (by omega) (by omega) (by rw [z1d (by omega)];omega) (by rw [z1d (by omega)];omega) (by omega)) fun r7=>z03 fun h7=>z00 ?_
  dsimp only [sel,rem,nth,del,cat,upd]
  refine z01 [0] (z97 (a:=8) (z:=2) (z0e l6) (by omega) (by omega) (by rw [z1d (by omega)];omega) (by rw [z1d (by omega)];omega) (by omega)) fun r8=>z03 fun h8=>z00 ?_
  dsimp only [sel,rem,nth,del,cat,upd]
  have e7:leN (((filled (le 8 seq++le 2 0) 60).drop 0).take 8)=seq:=by
   rw [List.drop_zero,hf,List.take_left' (z19 _ _),z7c,Nat.mod_eq_of_lt (by simpa using h64)]
  have e8:leN (((filled (le 8 seq++le 2 0) 60).drop 8).take 2)=0:=by
   rw [hf,List.drop_left' (z19 _ _),List.take_left' (z19 _ _),z7c]
  rw [e7] at h7
  rw [e8] at h8
  subst h7 h8
  refine z6m 3 rfl ?_
  dsimp only [sel,rem,nth,del,cat,upd]
  have e9:(jrnC d g 0).set 3 (.int .u64 (seq:Int))=jrnC d g seq:=rfl
  rw [e9]
  have e10:wr .i64 ((0:Nat):Int)=((0:Nat):Int):=by decide
  rw [e10]
  have hh:=zbh (R:=fun (r:Int×Sl×Int)=>OwnA r.2.1 1 (bytesOf (headB seq 0))) (φ:=fun (r:Int×Sl×Int)=>r.1=1∧r.2.2=0) (zfq j (.cells (jrnC d g seq) false)) (za4 (N:=N) (cnt:=0) h64 (by omega) hN)
  refine z01 [3] hh fun r11=>z03 fun _=>z00 ?_
  dsimp only [sel,rem,nth,del,cat,upd]
  refine z0a 0 rfl fun l11=>?_
  refine tri_rStr 0 rfl (z0e l11) ?_
  refine tri_rStr 3 rfl hr ?_
  refine z01 [1,2] (Q:=fun c=>pu (c=true) (stars [pts j (.cells (jrnC d g seq) false),T])) ?_ fun c=>z03 fun hc=>z00 ?_
  ·refine z08 (by simp [headB]) ?_
   rw [z5h (zkq _)]
   refine z01 [0] (za5 hg) fun r14=>z03 fun h14=>z00 (z02 [0,0] fun q hq=>⟨?_,hq⟩)
   rw [h14]
   simp
  ·subst hc
   exact z02 [0,0] fun q hq=>⟨rfl,hq⟩
end
end Go.Moat

/- Layers 7 and 15: a disk that is mounted. -/
namespace Go.Mini
section
variable {β:Type} {l:List HA} {S:β→HA} {m:M β}
theorem z4f (n:Nat) {l1:List HA} (hl:l[n]? = some (stars l1)) (k:Tri (stars (cat l1 (del l n))) m S):Tri (stars l) m S:=by
 rw [zab,zig,stars_append] at k
 rw [z1y n l hl]
 exact k
end
end Go.Mini
namespace Go.Moat
open Go.Mini
section
variable {N:Nat} {β:Type} {l:List HA} {S:β→HA} {v d:Nat} {g:Geo} {V:VolS} {m:M β} {T:HA} {D:DskS}
theorem z62 (hd:D.dead=false) {i:Nat} (hi:i<D.secs.length):getE D i=0:=by
 unfold getE
 rw [if_pos ⟨by omega,by omega⟩,hd]
 rfl
theorem z9e (hd:D.dead=false) {i:Nat} (hi:i<D.secs.length):Tri (stars [DiskA d D]) (F_09 N (some ⟨d,0⟩) (i:Int)) fun r=>pu (r.2=0) (stars [DiskA d D,OwnA r.1 1 (bytesOf (getS D i).b)]):=
 (zor (i:Int)).post fun r q hq=>by
  obtain ⟨⟨h1,h2⟩,h3⟩:=hq
  rw [z62 hd hi] at h1 h3
  exact ⟨h1,by simpa using h3⟩
theorem zme (hg:g.ok) (hd:D.dead=false) (hl:1+g.J≤D.secs.length) {seq:Nat} (hh:IsHead (getS D 1).b seq) (hN:5000<N) :
  Tri (stars [DiskA d D]) (F_25 N (some ⟨d,0⟩) 1 (g.J:Int)) fun r=>exA fun j=>pu (r=(some ⟨j,0⟩,0,0)) (stars [pts j (.cells (jrnC d g seq) false),DiskA d D]):=by
 have h1:=hg.j1
 have h2:=hg.j2
 unfold F_25
 refine z04 (by simp) ?_
 refine z4b 0 (φ:=D.secs.length≤4096) rfl (fun q ⟨x,h,_⟩=>h.many) fun h4096=>?_
 refine z01 [0] (Q:=fun c=>pu (c=false) (stars [DiskA d D])) ?_ fun c=>z03 fun hc=>z00 ?_
 ·refine z08 (by simp;omega) (z01 [0] z5u fun r=>z03 fun h=>z00 (z02 [0] fun q hq=>⟨by rw [h];simp;omega,hq⟩))
 subst hc
 dsimp only [sel,rem,nth,del,cat,upd]
 refine z01 [0] (Q:=fun c=>pu (c=false) (stars [DiskA d D])) ?_ fun c=>z03 fun hc=>z00 ?_
 ·refine z08 rfl (z01 [0] z5u fun r=>z03 fun h=>z00 (z02 [0] fun q hq=>⟨?_,hq⟩))
  rw [h,wr64 (by omega) (by omega)]
  simp
  omega
 subst hc
 dsimp only [sel,rem,nth,del,cat,upd]
 refine z04 (by simp) ?_
 refine z0m fun j=>?_
 refine z01 [1] (z9e (N:=N) (i:=1) hd (by omega)) fun r9=>z03 fun h9=>z00 ?_
 dsimp only [sel,rem,nth,del,cat,upd]
 refine z04 (by simp [h9]) ?_
 refine z0a 1 rfl fun l9=>?_
 refine z01 [2,1] (zm1 (T:=OwnA r9.1 1 (bytesOf (getS D 1).b)) (d:=d) hg hh (z0e l9) hN) fun r10=>z03 fun h10=>z00 ?_
 subst h10
 dsimp only [sel,rem,nth,del,cat,upd]
 refine z04 (by simp) (z08 (by simp) ?_)
 exact z02 [0,1] fun q hq=>⟨j,rfl,hq⟩
theorem zit {cs:List MV} {rows own used ino:Sl} {M:MetaS} (hg:g.ok) (ok:MetaOk g M) (rf:RefOk M) (gr:GrpOk g M)
  (c0:cs[0]? = some (.sl rows.p rows.len 2)) (c1:cs[1]? = some (.sl own.p own.len 1)) (c2:cs[2]? = some (.sl used.p used.len 1)) (c3:cs[3]? = some (.sl ino.p ino.len 14)) (c9:cs[9]? = some (.int .i64 g.P)) (hN:5000<N) :
  Tri (stars [pts v (.cells cs false),OwnA rows 2 (rowsC M.rows),OwnA own 1 (ownC M.own),OwnA used 1 (bytesOf M.used),OwnA ino 14 (inosC M.ino)]) (F_2c N (some ⟨v,0⟩)) fun r=>pu (r=true) (stars [pts v (.cells cs false),OwnA rows 2 (rowsC M.rows),OwnA own 1 (ownC M.own),OwnA used 1 (bytesOf M.used),OwnA ino 14 (inosC M.ino)]):=by
 have hgp:=hg.gp
 have hpp:=hg.pp
 have hG:=hg.g2
 have hI:=hg.i2
 have hp1:=hg.p1
 have hol:=ok.ownl
 have hil:=ok.inol
 have hul:=ok.usedl
 have h16:=ok.rows.len
 let L:=[pts v (.cells cs false),OwnA rows 2 (rowsC M.rows),OwnA own 1 (ownC M.own),OwnA used 1 (bytesOf M.used),OwnA ino 14 (inosC M.ino)]
 unfold F_2c
 refine z0g (z05 (z05 (z05 (z0o 0 rfl c1 ?_))))
 refine z0a 1 rfl fun l1=>z0a 2 rfl fun l2=>z0a 3 rfl fun l3=>z0a 4 rfl fun l4=>?_
 rw [z0i z0r] at l1
 rw [z1i] at l2
 have l4':=l4
 rw [z0i z0c] at l4'
 have taken:∀(r:Nat),r<16→0<(rowN M.rows r).2→Tri (stars L) (F_19 N (some ⟨v,0⟩) (r:Int)) fun c=>pu (c=true) (stars L):=by
  intro r hr h0
  have hrl:r<M.rows.length:=by omega
  unfold F_19
  refine z0g (z05 (z05 (z05 (z0o 0 rfl c0 ?_))))
  refine z13 1 rfl (z0e (by rw [z0i z0r];omega)) (i:=r) (o:=1) (by dsimp only;omega) (by omega) (v:=(M.rows[r].2:Nat)) (by rw [z1q z0r hrl (by omega)];rfl) ?_
  refine z02 [0,0,0,0,0] fun q hq=>⟨?_,hq⟩
  have:rowN M.rows r=M.rows[r]:=by simp [rowN,hrl]
  rw [this] at h0
  simp
  omega
 have loop1:∀(K k:Nat),g.G - k<K→k≤g.G→Tri (stars L) (iter K (F_4m N (some ⟨v,0⟩) ⟨own.p,own.len⟩) (k:Int)) fun r=>pu (r=.inl ()) (stars L):=by
  intro K
  induction K with
  | zero=>intro k h;omega
  | succ K ih=>
   intro k h hk
   rw [z0q]
   unfold F_4m
   by_cases hkG:k<g.G
   ·have hkl:k<M.own.length:=by omega
    refine z08 (by simp;omega) ?_
    refine z1t 2 rfl (z0e (by rw [z1i];exact l2)) (i:=k) (k :=.i64) (v:=(M.own[k]:Nat)) (by simp [i64s,hkl]) ?_
    have ho:=ok.own16 _ (List.getElem_mem hkl)
    have hrf:=rf.own _ (List.getElem_mem hkl)
    have hb2:(k+1) * g.P≤g.G * g.P:=Nat.mul_le_mul_right _ hkG
    have hb1:k * g.P≤(k+1) * g.P:=Nat.mul_le_mul_right _ (by omega)
    have hzero:M.own[k]=0→cntB M.used (k * g.P) ((k+1) * g.P)=0:=by
     intro hz
     unfold cntB
     rw [List.length_eq_zero_iff,List.filter_eq_nil_iff]
     intro i hi
     rw [List.mem_range'_1] at hi
     intro hb
     have hd:i / g.P=k:=by
      rw [Nat.div_eq_iff (by omega)]
      have:(k+1) * g.P=k * g.P+g.P:=by rw [Nat.add_mul,Nat.one_mul]
      omega
     have:=gr i (by unfold Geo.B;omega) hb
     rw [hd,List.getElem?_eq_getElem hkl,Option.getD_some,hz] at this
     omega
    refine z01 [0,0,0,0,0] (Q:=fun c=>pu (c=false) (stars L)) ?_ fun c=>z03 fun hc=>z00 ?_
    ·by_cases hz:M.own[k]=0
     ·exact z04 (by simp [hz]) (z02 [0,0,0,0,0] fun q hq=>⟨rfl,hq⟩)
     ·refine z08 (by simp;omega) ?_
      have e:wr .i64 (((M.own[k]:Nat):Int) - 1)=((M.own[k] - 1:Nat):Int):=by rw [wr64 (by omega) (by omega)];omega
      rw [e]
      refine z01 [0,0,0,0,0] (taken (M.own[k] - 1) (by omega) (hrf (by omega))) fun c=>z03 fun hc=>z00 (z02 [0,0,0,0,0] fun q hq=>⟨by rw [hc];rfl,hq⟩)
    subst hc
    refine z01 [0,0,0,0,0] (Q:=fun c=>pu (c=false) (stars L)) ?_ fun c=>z03 fun hc=>z00 ?_
    ·refine z08 rfl ?_
     refine z01 [0,0,0,0,0] (Q:=fun c=>pu (c=false) (stars L)) ?_ fun c=>z03 fun hc=>z00 (z02 [0,0,0,0,0] fun q hq=>⟨hc,hq⟩)
     by_cases hz:M.own[k]=0
     ·refine z08 (by simp [hz]) ?_
      unfold F_0n
      refine z01 [0,0,0,0,0] (Q:=fun r=>pu (r=0) (stars L)) ?_ fun r=>z03 fun hr=>z00 (z02 [0,0,0,0,0] fun q hq=>⟨by rw [hr];rfl,hq⟩)
      refine z0g (z05 (z05 (z05 (z0o 0 rfl c2 ?_))))
      refine z0g (z05 (z05 (z1c 0 rfl c9 ?_)))
      refine z0g (z05 (z05 (z1c 0 rfl c9 ?_)))
      have e1:(k:Int) * (g.P:Int)=((k * g.P:Nat):Int):=by simp
      have e2:wr .i64 ((k:Int)+1)=((k+1:Nat):Int):=by rw [wr64 (by omega) (by omega)];simp
      have e3:((k+1:Nat):Int) * (g.P:Int)=(((k+1) * g.P:Nat):Int):=by simp
      rw [e1,e2,e3,wr64 (by omega) (by omega),wr64 (by omega) (by omega)]
      refine z01 [3] (z95 (z0e l3) (by omega) hb1 (by omega) hN) fun r=>z03 fun hr=>z00 ?_
      refine z02 [1,1,1,0,0] fun q hq=>⟨?_,hq⟩
      rw [hr,hzero hz]
      rfl
     ·exact z04 (by simp;omega) (z02 [0,0,0,0,0] fun q hq=>⟨rfl,hq⟩)
    subst hc
    refine z04 (by simp) ?_
    rw [wr64 (by omega) (by omega)]
    exact ih (k+1) (by omega) (by omega)
   ·obtain rfl:k=g.G:=by omega
    exact z04 (by simp;omega) (z0y fun q hq=>⟨rfl,hq⟩)
 have loop2:∀(K k:Nat),M.ino.length - k<K→k≤M.ino.length→Tri (stars L) (iter K (F_4n N (some ⟨v,0⟩) ⟨ino.p,ino.len⟩) (k:Int)) fun r=>pu (r=.inl ()) (stars L):=by
  intro K
  induction K with
  | zero=>intro k h;omega
  | succ K ih=>
   intro k h hk
   rw [z0q]
   unfold F_4n
   by_cases hkG:k<M.ino.length
   ·refine z08 (by simp;omega) ?_
    refine z3v 4 rfl (s:=⟨ino.p,ino.len⟩) (z0e l4) hkG ?_
    rw [zino_c]
    refine z59 ?_
    rw [z7b,inoC0,inoC1]
    refine z0n (z12 ?_)
    have hm:=List.getElem_mem hkG
    have hr:=(ok.inok _ hm).r
    refine z01 [0,0,0,0,0] (Q:=fun c=>pu (c=false) (stars L)) ?_ fun c=>z03 fun hc=>z00 ?_
    ·by_cases hz:M.ino[k].k=0
     ·exact z04 (by simp [hz]) (z02 [0,0,0,0,0] fun q hq=>⟨rfl,hq⟩)
     ·refine z08 (by simp;omega) (z0n (z12 ?_))
      rw [wr64 (by omega) (by omega)]
      refine z01 [0,0,0,0,0] (taken _ hr (rf.ino _ hm hz)) fun c=>z03 fun hc=>z00 (z02 [0,0,0,0,0] fun q hq=>⟨by rw [hc];rfl,hq⟩)
    subst hc
    refine z04 (by simp) ?_
    rw [wr64 (by omega) (by omega)]
    exact ih (k+1) (by omega) (by omega)
   ·obtain rfl:k=M.ino.length:=by omega
    exact z04 (by simp;omega) (z0y fun q hq=>⟨rfl,hq⟩)
 refine z01 [0,0,0,0,0] (loop1 N 0 (by omega) (by omega)) fun r=>z03 fun hr=>z00 ?_
 subst hr
 dsimp only [sel,rem,nth,del,cat,upd]
 refine z0g (z05 (z05 (z05 (z0o 0 rfl c3 ?_))))
 refine z01 [0,0,0,0,0] (loop2 N 0 (by omega) (by omega)) fun r=>z03 fun hr=>z00 ?_
 subst hr
 exact z02 [0,0,0,0,0] fun q hq=>⟨rfl,hq⟩
structure Clean (g:Geo) (D:DskS) (M:MetaS) (seq:Nat):Prop where
 dead:D.dead=false
 len:g.all≤D.secs.length
 sup:(getS D 0).b=superB g
 head:IsHead (getS D 1).b seq
 known:∀i:Nat,i<g.M→some (getS D ((g.lab+i:Nat):Int)).b=(metaB M)[i]?
def mounted (M:MetaS) (D:DskS) (seq:Nat):VolS:=⟨⟨M,[]⟩,D,seq,metaB M,none,false⟩
theorem zmf (hg:g.ok) (hr:g.roomy) {M:MetaS} {seq:Nat} (ok:MetaOk g M) (rf:RefOk M) (gr:GrpOk g M) (cl:Clean g D M seq) (hN:5000<N) :
  Tri (stars [DiskA d D]) (F_2d N (some ⟨d,0⟩)) fun r=>exA fun v=>pu (r=(some ⟨v,0⟩,0)) (stars [VolA v d g (mounted M D seq)]):=by
 have hall:=hg.all_le
 have hcl:=cl.len
 have hgM:g.M=3+g.I / 2:=rfl
 have hlab:g.lab=1+g.J:=rfl
 have hblk:g.blk=4+g.J+g.I / 2:=rfl
 have hga:g.all=g.blk+g.B:=rfl
 have hI:=hg.i2
 have hi3:=hg.i3
 have hmB:(metaB M).length=g.M:=by
  simp only [metaB,List.length_cons,z2t,ok.inol]
  omega
 unfold F_2d
 refine z04 (by simp) ?_
 refine z01 [0] (z9e (N:=N) (i:=0) cl.dead (by omega)) fun r2=>z03 fun h2=>z00 ?_
 dsimp only [sel,rem,nth,del,cat,upd]
 refine z04 (by simp [h2]) (z04 (by simp [h2]) ?_)
 have e0:(getS D ((0:Nat):Int)).b=superB g:=cl.sup
 rw [e0]
 refine z0a 1 rfl fun l2=>?_
 refine z01 [1] (zma hg (z0e l2) hN) fun r3=>z03 fun h3=>z00 ?_
 subst h3
 dsimp only [sel,rem,nth,del,cat,upd]
 refine z01 [] (zal hg) fun r4=>z03 fun h4=>z00 ?_
 subst h4
 dsimp only [sel,rem,nth,del,cat,upd]
 rw [z5h (zia _)]
 refine z01 [1] (Q:=fun c=>pu (c=false) (stars [DiskA d D])) ?_ fun c=>z03 fun hc=>z00 ?_
 ·refine z08 (by simp) (z01 [0] z5u fun r=>z03 fun h=>z00 (z02 [0] fun q hq=>⟨?_,hq⟩))
  rw [h]
  simp [Geo.lay]
  omega
 subst hc
 dsimp only [sel,rem,nth,del,cat,upd]
 have e2:frz (F_01 N (g.t.1,g.t.2.1,g.t.2.2.1,g.t.2.2.2))=F_01 N g.t:=z5h (zi4 hg)
 rw [e2]
 refine z01 [0] (Q:=fun c=>pu (c=false) (stars [DiskA d D])) ?_ fun c=>z03 fun hc=>z00 ?_
 ·refine z08 rfl (z01 [0] (zdy hg) fun r=>z03 fun h=>z00 (z02 [0] fun q hq=>⟨?_,hq⟩))
  rw [h]
  simp [hr]
 subst hc
 dsimp only [sel,rem,nth,del,cat,upd]
 refine z04 (by simp) ?_
 refine z01 [0] (zme (seq:=seq) (d:=d) hg cl.dead (by omega) cl.head hN) fun r9=>z10 fun j=>z03 fun h9=>z00 ?_
 subst h9
 dsimp only [sel,rem,nth,del,cat,upd]
 refine z04 (by simp) ?_
 refine z0m fun v=>?_
 have em:=z8f (N:=N) hg
 have em2:F_03 N (g.t.1,g.t.2.1,g.t.2.2.1,g.t.2.2.2)=ret (g.M:Int):=em
 rw [em2]
 refine z0j ?_
 let mC:Sl→Sl→Sl→Sl→Sl→Option Nat→List MV:=fun rows own used ino sf mp=>[.sl rows.p rows.len 2,.sl own.p own.len 1,.sl used.p used.len 1,.sl ino.p ino.len 14,.map mp,.ptr (some ⟨d,0⟩),
  .int .i64 g.J,.int .i64 g.I,.int .i64 g.G,.int .i64 g.P,.int .i64 1,.int .i64 g.lab,.int .i64 (2+g.J:Nat),.int .i64 (3+g.J:Nat),.int .i64 (4+g.J:Nat),.int .i64 g.blk,.int .i64 g.all,
  .ptr (some ⟨j,0⟩),.sl sf.p sf.len 1,.ptr none,.bool false]
 have loop:∀(K k:Nat) (sf:Sl) (L:List (Sl×List UInt8)),g.M - k<K→k≤g.M→L.map (·.2)=(metaB M).take k→(∀e∈L,e.1.len=64∧e.2.length=64) →
   Tri (stars [pts v (.cells (mC ⟨none,0⟩ ⟨none,0⟩ ⟨none,0⟩ ⟨none,0⟩ sf none) false),OwnA sf 1 (slsC L),PoolA L,DiskA d D]) (iter K (F_4o N (some ⟨d,0⟩) (g.lay,0) (some ⟨v,0⟩) (g.M:Int)) (k:Int))
   fun _=>exA fun x:Sl×List (Sl×List UInt8)=>pu (x.2.map (·.2)=metaB M∧∀e∈x.2,e.1.len=64∧e.2.length=64) (stars [pts v (.cells (mC ⟨none,0⟩ ⟨none,0⟩ ⟨none,0⟩ ⟨none,0⟩ x.1 none) false),OwnA x.1 1 (slsC x.2),PoolA x.2,DiskA d D]):=by
  intro K
  induction K with
  | zero=>intro k sf L h;omega
  | succ K ih=>
   intro k sf L h hk hL h64
   rw [z0q]
   unfold F_4o
   by_cases hkM:k<g.M
   ·refine z08 (by simp;omega) ?_
    have e1:wr .i64 ((g.lay,(0:Int)).1.2.1+(k:Int))=((g.lab+k:Nat):Int):=by
     show wr .i64 ((g.lab:Int)+(k:Int))=_
     rw [wr64 (by omega) (by omega)]
     omega
    rw [e1]
    refine z01 [3] (z9e (N:=N) (i:=g.lab+k) cl.dead (by omega)) fun r14=>z03 fun h14=>z00 ?_
    dsimp only [sel,rem,nth,del,cat,upd]
    have hkn:=cl.known k hkM
    generalize (getS D ((g.lab+k:Nat):Int)).b=bs at hkn
    have hb64:bs.length=64:=by
     have:=List.mem_of_getElem? hkn.symm
     have rB:(rowsB M.rows).length=64:=by rw [rowsB,z1e,z2x,ok.rows.len]
     have oB:(ownB M.own).length=64:=z1d (by rw [List.length_map,ok.ownl];have:=hg.g2;omega)
     unfold metaB at this
     rcases List.mem_cons.1 this with h | h
     ·rw [h];exact rB
     ·rcases List.mem_cons.1 h with h | h
      ·rw [h];exact oB
      ·rcases List.mem_cons.1 h with h | h
       ·rw [h];exact ok.usedl
       ·obtain ⟨i,hi,hx⟩:=List.mem_iff_getElem.1 h
        rw [z2t] at hi
        have h1:=z5k (l:=M.ino) (i:=i) (by omega)
        rw [List.getElem?_eq_getElem (by rw [z2t];exact hi),hx] at h1
        rw [Option.some.inj h1,List.length_append,z1j,z1j]
    refine z0a 1 rfl fun l14=>?_
    rw [z0b] at l14
    refine z4n 2 rfl (o:=18) (p:=sf.p) (ln:=sf.len) rfl ?_
    refine z0m fun b18=>?_
    refine z0a 4 rfl fun lsf=>?_
    have hLl:L.length=k:=by
     have:=congrArg List.length hL
     rw [List.length_map,List.length_take,hmB] at this
     omega
    rw [z94] at lsf
    refine z01 [4,0] (z1u (s:=⟨sf.p,sf.len⟩) (T:=pts b18 (.cells [.sl r14.1.p r14.1.len 1] false)) (z18 (by simp)) (by omega) rfl (by
     have:most=70368744177664:=rfl
     dsimp only
     omega)) fun l19=>z00 ?_
    dsimp only [sel,rem,nth,del,cat,upd]
    refine z6m 4 rfl ?_
    dsimp only [sel,rem,nth,del,cat,upd]
    rw [wr64 (by omega) (by omega)]
    have ec:(mC ⟨none,0⟩ ⟨none,0⟩ ⟨none,0⟩ ⟨none,0⟩ sf none).set 18 (.sl l19.p l19.len 1)=mC ⟨none,0⟩ ⟨none,0⟩ ⟨none,0⟩ ⟨none,0⟩ l19 none:=rfl
    rw [ec]
    have es:slsC L++[.sl r14.1.p r14.1.len 1]=slsC (L++[(r14.1,bs)]):=by simp [slsC]
    rw [es]
    have hn:=ih (k+1) l19 (L++[(r14.1,bs)]) (by omega) (by omega) (by
     rw [List.map_append,hL,List.take_add_one,←hkn]
     rfl) (by
     intro e he
     rcases List.mem_append.1 he with he | he
     ·exact h64 e he
     ·simp at he
      subst he
      dsimp only
      omega)
    refine z16 [4,0,3,1,1] (hn.pre fun q hq=>?_)
    refine z0s (fun q=>z0s (fun q hq=>?_)) hq
    have ep:PoolA (L++[(r14.1,bs)])=star (PoolA L) (OwnA r14.1 1 (bytesOf bs)):=by
     unfold PoolA
     rw [List.map_append,stars_append,List.map_cons,List.map_nil,z0k]
    show star (PoolA (L++[(r14.1,bs)])) (star (DiskA d D) emp) q
    have hq':star (PoolA L) (star (DiskA d D) (star (OwnA r14.1 1 (bytesOf bs)) emp)) q:=hq
    rw [ep,z2d]
    rw [z7l (DiskA d D) (OwnA r14.1 1 (bytesOf bs)) emp] at hq'
    exact hq'
   ·obtain rfl:k=g.M:=by omega
    refine z04 (by simp) (z0y fun q hq=>⟨(sf,L),⟨?_,h64⟩,hq⟩)
    rw [hL,List.take_of_length_le (by omega)]
 refine z16 [0,1,0] (Tri.pre (B:=stars [pts v (.cells (mC ⟨none,0⟩ ⟨none,0⟩ ⟨none,0⟩ ⟨none,0⟩ ⟨none,0⟩ none) false),OwnA ⟨none,0⟩ 1 (slsC []),PoolA [],DiskA d D,pts j (.cells (jrnC d g seq) false)]) ?_ fun q hq=>?_)
 case refine_2=>
  have h1:stars [pts v (.cells (mC ⟨none,0⟩ ⟨none,0⟩ ⟨none,0⟩ ⟨none,0⟩ ⟨none,0⟩ none) false),DiskA d D,pts j (.cells (jrnC d g seq) false)] q:=hq
  refine z0s (fun q hq=>?_) h1
  exact z1w (fun q h =>.nil 1 h) (z1w (fun q h=>h) hq)
 refine z01 [0,0,0,0] (loop N 0 ⟨none,0⟩ [] (by omega) (by omega) rfl (by simp)) fun _=>z10 fun x=>z03 fun ⟨hx1,hx2⟩=>z00 ?_
 obtain ⟨sf,L⟩:=x
 dsimp only at hx1 hx2
 dsimp only [sel,rem,nth,del,cat,upd]
 refine z4n 0 rfl (o:=18) (p:=sf.p) (ln:=sf.len) rfl ?_
 refine z0a 1 rfl fun lsf=>?_
 have hRd:RdL (stars [OwnA sf 1 (slsC L),PoolA L]) ⟨sf.p,sf.len⟩ L:=by
  refine ⟨(z0e lsf).at 0 rfl,fun e he=>?_⟩
  have:=hx2 e he
  exact (z70 (P:=L) (s:=e.1) (bs:=e.2) he (by omega)).at 1 rfl
 refine z01 [1,1] (zm5 (T:=stars [OwnA sf 1 (slsC L),PoolA L]) hg ok hRd hx1 hN |>.pre fun q hq=>by rw [z0k];exact hq) fun r26=>z03 fun h26=>z00 ?_
 dsimp only [sel,rem,nth,del,cat,upd]
 refine z4f 4 rfl ?_
 dsimp only [sel,rem,nth,del,cat,upd]
 refine z0g (z05 (z05 ?_))
 refine z2z 6 rfl rfl (by simp [mC]) rfl ?_
 have ec:over (mC ⟨none,0⟩ ⟨none,0⟩ ⟨none,0⟩ ⟨none,0⟩ sf none) (0+0+0) [.sl r26.1.1.p r26.1.1.len 2,.sl r26.1.2.1.p r26.1.2.1.len 1,.sl r26.1.2.2.1.p r26.1.2.2.1.len 1,.sl r26.1.2.2.2.p r26.1.2.2.2.len 14]=mC r26.1.1 r26.1.2.1 r26.1.2.2.1 r26.1.2.2.2 sf none:=rfl
 rw [ec]
 dsimp only [sel,rem,nth,del,cat,upd]
 refine z01 [6,2,2,2,2] (Q:=fun c=>pu (c=false) (stars [pts v (.cells (mC r26.1.1 r26.1.2.1 r26.1.2.2.1 r26.1.2.2.2 sf none) false),OwnA r26.1.1 2 (rowsC M.rows),OwnA r26.1.2.1 1 (ownC M.own),OwnA r26.1.2.2.1 1 (bytesOf M.used),OwnA r26.1.2.2.2 14 (inosC M.ino)])) ?_ fun c=>z03 fun hc=>z00 ?_
 ·refine z08 (by simp [h26]) ?_
  refine z01 [0,0,0,0,0] (zit hg ok rf gr rfl rfl rfl rfl rfl hN) fun r=>z03 fun h=>z00 (z02 [0,0,0,0,0] fun q hq=>⟨by rw [h];rfl,hq⟩)
 subst hc
 dsimp only [sel,rem,nth,del,cat,upd]
 refine z04 (by simp) ?_
 refine zie .i64 fun mb=>?_
 refine z0g (z05 (z05 (z14 1 rfl (by simp [mC]) rfl ?_)))
 dsimp only [sel,rem,nth,del,cat,upd]
 refine z02 [1,1,1,1,1,0,1,1,1,0] fun q hq=>⟨v,rfl,?_⟩
 have hq2:stars (volL v d g (mounted M D seq) ⟨⟨r26.1.1,r26.1.2.1,r26.1.2.2.1,r26.1.2.2.2,mb,d,j,sf,none,false⟩,[],L,L⟩) q:=by
  have h1:=hq
  dsimp only [sel,rem,nth,del,cat,upd] at h1
  refine z0s (fun q=>z0s (fun q=>z0s (fun q=>z0s (fun q=>z0s (fun q=>z0s (fun q=>z0s (fun q=>z0s (fun q=>z0s fun q hq=>?_)))))))) h1
  have h2:star (OwnA sf 1 (slsC L)) emp q:=hq
  show star (OwnA sf 1 (slsC L)) (star emp emp) q
  rw [z2a emp]
  exact h2
 exact z11 ⟨rfl,⟨by simp,by simp,by simp⟩,hx1,fun e he=>⟨he,hx2 e he⟩,rfl⟩ rfl hq2
end
end Go.Moat
