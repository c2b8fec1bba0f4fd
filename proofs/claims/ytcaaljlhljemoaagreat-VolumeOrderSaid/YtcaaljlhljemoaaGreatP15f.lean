/- Layer 5, the disk: what its functions come to, over what a disk is. -/
import Derived.Test.YtcaaljlhljemoaaGreatMSLM
import Derived.Test.YtcaaljlhljemoaaGreatD15
import Derived.Test.YtcaaljlhljemoaaGreatP15e
namespace Go.Moat
open Go.Mini
structure SecS where
 b:List UInt8
 t:Int
def SecS.c (s:SecS):List MV:=bytesOf s.b++[.int .u16 s.t]
def SecS.ok (s:SecS):Prop:=s.b.length=64
def zsec:SecS:=⟨List.replicate 64 0,0⟩
structure WaitS where
 at':Nat
 was:SecS
 now:SecS
def WaitS.c (w:WaitS):List MV :=.int .i64 w.at'::(w.was.c++w.now.c)
structure DskS where
 secs:List SecS
 waits:List WaitS
 dead:Bool
 fuse:Int
 done:Int
def secsC (l:List SecS):List MV:=(l.map SecS.c).flatten
def waitsC (l:List WaitS):List MV:=(l.map WaitS.c).flatten
structure DskS.ok (D:DskS):Prop where
 secs:∀s∈D.secs,s.ok
 waits:∀w∈D.waits,w.was.ok∧w.now.ok∧w.at'<D.secs.length
 many:D.secs.length≤4096
 fuse : -1≤D.fuse∧D.fuse≤9223372036854775807
theorem SecS.len {s:SecS} (h:s.ok):s.c.length=65:=by
 unfold SecS.c
 rw [List.length_append,z0b,h]
 rfl
theorem SecS.cell (s:SecS):s.c.all isCell=true:=by
 unfold SecS.c
 rw [List.all_append,z2l]
 rfl
theorem WaitS.len {w:WaitS} (h:w.was.ok) (h2:w.now.ok):w.c.length=131:=by
 unfold WaitS.c
 rw [List.length_cons,List.length_append,SecS.len h,SecS.len h2]
theorem WaitS.cell (w:WaitS):w.c.all isCell=true:=by
 unfold WaitS.c
 rw [List.all_cons,List.all_append,w.was.cell,w.now.cell]
 rfl
theorem z43:zsec.ok:=by simp [zsec,SecS.ok]
theorem z78:reps 64 [MV.int .u8 (0:Int)]++[MV.int .u16 (0:Int)]=zsec.c:=by
 rw [z5x]
 simp [zsec,SecS.c,bytesOf]
theorem rows65 {l:List SecS} (h:∀s∈l,s.ok):∀r∈l.map SecS.c,r.length=65:=by
 intro r hr
 obtain ⟨s,hs,rfl⟩:=List.mem_map.1 hr
 exact SecS.len (h s hs)
theorem rows131 {l:List WaitS} (h:∀w∈l,w.was.ok∧w.now.ok):∀r∈l.map WaitS.c,r.length=131:=by
 intro r hr
 obtain ⟨s,hs,rfl⟩:=List.mem_map.1 hr
 exact WaitS.len (h s hs).1 (h s hs).2
theorem z6l {l:List SecS} (h:∀s∈l,s.ok):(secsC l).length=l.length * 65:=by
 rw [secsC,z93 (rows65 h),List.length_map]
theorem zaa {l:List SecS} (h:∀s∈l,s.ok) {i:Nat} (hi:i<l.length):((secsC l).drop (i * 65)).take 65=l[i].c:=by
 rw [secsC,zcb (rows65 h) i (by simpa using hi)]
 simp
theorem zdl {l:List SecS} (h:∀s∈l,s.ok) {s:SecS} (hs:s.ok) {i:Nat} (hi:i<l.length):over (secsC l) (i * 65) s.c=secsC (l.set i s):=by
 rw [secsC,zaf (SecS.len hs) (rows65 h) i (by simpa using hi),secsC,List.map_set]
theorem zdm {l:List WaitS} (h:∀w∈l,w.was.ok∧w.now.ok):(waitsC l).length=l.length * 131:=by
 rw [waitsC,z93 (rows131 h),List.length_map]
def DiskA (d:Nat) (D:DskS):HA:=exA fun x:Nat×Sl=>pu D.ok (stars [pts d (.cells [.sl (some ⟨x.1,0⟩) D.secs.length 65,.sl x.2.p x.2.len 131,.bool D.dead,.int .i64 D.fuse,.int .i64 D.done] false),pts x.1 (.cells (secsC D.secs) false),OwnA x.2 131 (waitsC D.waits)])
section
variable {d:Nat} {D:DskS} {β:Type} {l:List HA} {m:M β} {S:β→HA}
theorem z4t (n:Nat) (hl:l[n]? = some (DiskA d D)) (k:∀bs (ws:Sl),D.ok→Tri (stars (pts d (.cells [.sl (some ⟨bs,0⟩) D.secs.length 65,.sl ws.p ws.len 131,.bool D.dead,.int .i64 D.fuse,.int .i64 D.done] false)::pts bs (.cells (secsC D.secs) false)::OwnA ws 131 (waitsC D.waits)::del l n)) m S):Tri (stars l) m S:=
 z92 (γ:=Nat×Sl) (φ:=fun _=>D.ok) n hl (fun _ ⟨x,h1,h2⟩=>⟨x,h1,h2⟩) fun x h=>k x.1 x.2 h
theorem z3a {bs:Nat} {ws:Sl} {q:PH} (hD:D.ok) (h:stars [pts d (.cells [.sl (some ⟨bs,0⟩) D.secs.length 65,.sl ws.p ws.len 131,.bool D.dead,.int .i64 D.fuse,.int .i64 D.done] false),pts bs (.cells (secsC D.secs) false),OwnA ws 131 (waitsC D.waits)] q):stars [DiskA d D] q:=by
 rw [z0k]
 exact ⟨(bs,ws),hD,h⟩
def newD (n:Nat):DskS:=⟨List.replicate n zsec,[],false,-1,0⟩
theorem zto {n:Nat} (h:n≤4096):(newD n).ok:=
 ⟨fun s hs=>(by rw [(List.mem_replicate.1 hs).2];exact z43),fun w hw=>(by cases hw),by simpa [newD] using h,by simp [newD]⟩
variable {N:Nat}
theorem zrf {n:Nat} (h:n≤4096):Tri (stars []) (F_1v N (n:Int)) fun r=>exA fun d=>pu (r=(some ⟨d,0⟩,0)) (stars [DiskA d (newD n)]):=by
 unfold F_1v
 rw [if_neg (by simp;omega)]
 refine z4k (l:=[]) (g:=fun b=>⟨some ⟨b,0⟩,n⟩) (x :=.cells (secsC (newD n).secs) false) (fun h'=>?_) fun bs=>?_
 ·unfold mkSl
  rw [if_pos ⟨by omega,by omega,by have:most=70368744177664:=rfl;omega,by rw [z78];exact SecS.len z43⟩,z78]
  simp [newD,secsC,zkv]
 ·refine z0m fun d=>?_
  refine z02 [0,0] fun q hq=>⟨d,rfl,?_⟩
  refine z3a (bs:=bs) (ws:=⟨none,0⟩) (zto h) ?_
  have:(newD n).secs.length=n:=by simp [newD]
  rw [this]
  obtain ⟨q1,q2,h1,⟨q3,q4,h2,h3,d2,e2⟩,d1,e1⟩:=hq
  exact ⟨q1,q2,h1,⟨q3,q4,h2,by rw [z0k];exact .nil _ h3,d2,e2⟩,d1,e1⟩
theorem z5u:Tri (stars [DiskA d D]) (F_00 N (some ⟨d,0⟩)) fun r=>pu (r=D.secs.length) (stars [DiskA d D]):=by
 unfold F_00
 refine z4t 0 rfl fun bs ws hD=>?_
 exact z4n 0 rfl rfl (z02 [0,0,0] fun q hq=>⟨rfl,z3a hD hq⟩)
theorem z8y (i:Int):Tri (stars [DiskA d D]) (F_10 N (some ⟨d,0⟩) i) fun r=>pu (r=decide (0≤i∧i<D.secs.length)) (stars [DiskA d D]):=by
 unfold F_10
 by_cases h:0≤i
 ·rw [if_pos (by simpa using h)]
  refine z01 (f:=fun c=>ret c) [0] (Q:=fun r=>pu (r=decide (i<D.secs.length)) (stars [DiskA d D])) ?_ fun r=>z03 fun hr=>z00 (z02 [0] fun q hq=>⟨by rw [hr];simp [h],hq⟩)
  exact z01 [0] z5u fun r=>z03 fun hr=>z00 (z02 [0] fun q hq=>⟨by rw [hr],hq⟩)
 ·rw [if_neg (by simpa using h)]
  exact z02 [0] fun q hq=>⟨by simp [h],hq⟩
def powerE (D:DskS):Int:=if D.dead then 6 else if D.fuse=0 then 6 else 0
def powerD (D:DskS):DskS:=if D.dead then D else if D.fuse=0 then {D with dead:=true} else {D with fuse:=if 0<D.fuse then D.fuse - 1 else D.fuse,done:=D.done+1}
theorem z8z (hd:0≤D.done) (hd2:D.done<9223372036854775807):Tri (stars [DiskA d D]) (F_11 N (some ⟨d,0⟩)) fun r=>pu (r=powerE D) (stars [DiskA d (powerD D)]):=by
 unfold F_11
 refine z4t 0 rfl fun bs ws hD=>?_
 refine zox 0 rfl rfl ?_
 by_cases h1:D.dead=true
 ·rw [if_pos h1]
  refine z02 [0,0,0] fun q hq=>⟨by unfold powerE;rw [if_pos h1],?_⟩
  unfold powerD
  rw [if_pos h1]
  exact z3a hD hq
 ·rw [if_neg h1]
  refine z4m 0 rfl rfl ?_
  by_cases h2:D.fuse=0
  ·rw [if_pos (by simpa using h2)]
   refine z6m 0 rfl ?_
   refine z02 [0,0,0] fun q hq=>⟨by unfold powerE;rw [if_neg h1,if_pos h2],?_⟩
   unfold powerD
   rw [if_neg h1,if_pos h2]
   exact z3a ⟨hD.1,hD.2,hD.3,hD.4⟩ hq
  ·rw [if_neg (by simpa using h2)]
   refine z4m 0 rfl rfl ?_
   have fin:∀fz,fz=(if 0<D.fuse then D.fuse - 1 else D.fuse)→Tri (stars [pts d (.cells [.sl (some ⟨bs,0⟩) D.secs.length 65,.sl ws.p ws.len 131,.bool D.dead,.int .i64 fz,.int .i64 D.done] false),pts bs (.cells (secsC D.secs) false),OwnA ws 131 (waitsC D.waits)])
     (bd (nonNil (some ⟨d,0⟩)) fun q_19=>bd (fld q_19 4) fun q_20=>bd (ldI .i64 q_20) fun (y_21:Int)=>bd (nonNil (some ⟨d,0⟩)) fun q_22=>bd (fld q_22 4) fun q_23=>bd (stc q_23 (MV.int .i64 (wr .i64 (y_21+(1:Int))))) fun _=>ret (0:Int)) fun r=>pu (r=powerE D) (stars [DiskA d (powerD D)]):=by
    intro fz hf
    refine z4m 0 rfl rfl (z6m 0 rfl ?_)
    refine z02 [0,0,0] fun q hq=>⟨by unfold powerE;rw [if_neg h1,if_neg h2],?_⟩
    unfold powerD
    rw [if_neg h1,if_neg h2]
    rw [wr64 (by omega) (by omega)] at hq
    refine z3a (bs:=bs) (ws:=ws) ⟨hD.1,hD.2,hD.3,?_⟩ ?_
    ·have:=hD.fuse
     dsimp only
     split<;>omega
    ·rw [←hf]
     exact hq
   by_cases h3:0<D.fuse
   ·refine Tri.bd (Q:=fun _=>stars [pts d (.cells [.sl (some ⟨bs,0⟩) D.secs.length 65,.sl ws.p ws.len 131,.bool D.dead,.int .i64 (D.fuse - 1),.int .i64 D.done] false),pts bs (.cells (secsC D.secs) false),OwnA ws 131 (waitsC D.waits)]) ?_ fun _=>fin _ (by rw [if_pos h3])
    rw [if_pos (by simpa using h3)]
    refine z4m 0 rfl rfl (z6m 0 rfl (z0y fun q hq=>?_))
    have:=hD.fuse
    rw [wr64 (by omega) (by omega)] at hq
    exact hq
   ·refine Tri.bd (Q:=fun _=>stars [pts d (.cells [.sl (some ⟨bs,0⟩) D.secs.length 65,.sl ws.p ws.len 131,.bool D.dead,.int .i64 D.fuse,.int .i64 D.done] false),pts bs (.cells (secsC D.secs) false),OwnA ws 131 (waitsC D.waits)]) ?_ fun _=>fin _ (by rw [if_neg h3])
    rw [if_neg (by simpa using h3)]
    exact z0y fun q hq=>hq
theorem z2w:(powerD D).secs=D.secs:=by
 unfold powerD
 split
 ·rfl
 ·split<;>rfl
theorem z5i:(powerD D).waits=D.waits:=by
 unfold powerD
 split
 ·rfl
 ·split<;>rfl
def flushD (D:DskS):DskS:=if powerE D=0 then {powerD D with waits:=[]} else powerD D
theorem zdn (hd:0≤D.done) (hd2:D.done<9223372036854775807):Tri (stars [DiskA d D]) (F_12 N (some ⟨d,0⟩)) fun r=>pu (r=powerE D) (stars [DiskA d (flushD D)]):=by
 unfold F_12
 refine z01 [0] (z8z hd hd2) fun r=>z03 fun hr=>z00 ?_
 by_cases h:powerE D=0
 ·rw [if_neg (by simp [hr,h])]
  refine z4t 0 rfl fun bs ws hD=>?_
  refine z6m 0 rfl ?_
  refine z02 [0,0] fun q hq=>⟨h.symm,?_⟩
  unfold flushD
  rw [if_pos h]
  refine z3a (bs:=bs) (ws:=⟨none,0⟩) ⟨hD.1,fun w hw=>(by cases hw),hD.3,hD.4⟩ ?_
  obtain ⟨q1,q2,h1,⟨q3,q4,h2,h3,d2,e2⟩,d1,e1⟩:=hq
  exact ⟨q1,q2,h1,⟨q3,q4,h2,by rw [z0k];exact .nil _ h3,d2,e2⟩,d1,e1⟩
 ·rw [if_pos (by simp [hr,h])]
  refine z02 [0] fun q hq=>⟨hr,?_⟩
  unfold flushD
  rw [if_neg h]
  exact hq
theorem z4u {cs vs:List MV} (h:vs.length=cs.length):over cs 0 vs=vs:=by
 unfold over
 simp [h]
def getE (D:DskS) (i:Int):Int:=if 0≤i∧i<D.secs.length then (if D.dead then 6 else 0) else 1
def getS (D:DskS) (i:Int):SecS:=if getE D i=0 then (D.secs[i.toNat]?).getD zsec else zsec
theorem zkr (hD:D.ok) (i:Int):(getS D i).ok:=by
 unfold getS
 split
 ·cases h:D.secs[i.toNat]? with
  | none=>exact z43
  | some s=>exact hD.secs s (List.mem_of_getElem? h)
 ·exact z43
theorem zrg (i:Int):Tri (stars [DiskA d D]) (F_20 N (some ⟨d,0⟩) i) fun r=>pu (r=((getS D i).c,getE D i)∧D.ok) (stars [DiskA d D]):=by
 unfold F_20
 rw [if_neg (by simp)]
 rw [z78]
 have hz:zsec.c.length=65:=SecS.len z43
 refine z01 [0] (z8y i) fun r=>z03 fun hr=>z00 ?_
 have e0:over zsec.c 0 zsec.c=zsec.c:=z4u rfl
 by_cases h:0≤i∧i<D.secs.length
 ·rw [if_neg (by simp [hr,h])]
  refine z4t 0 rfl fun bs ws hD=>?_
  refine zox 0 rfl rfl ?_
  by_cases h1:D.dead=true
  ·rw [if_pos h1,if_pos ⟨hz,by omega,zsec.cell⟩]
   refine z0j ?_
   rw [e0,if_pos (by omega)]
   refine z0j ?_
   refine z02 [0,0,0] fun q hq=>⟨⟨?_,hD⟩,z3a hD hq⟩
   have:getE D i=6:=by unfold getE;rw [if_pos h,if_pos h1]
   rw [this]
   unfold getS
   rw [this,if_neg (by decide),List.drop_zero,List.take_of_length_le (by omega)]
  ·rw [if_neg h1]
   refine z4n 0 rfl rfl ?_
   obtain ⟨k,rfl⟩:∃k:Nat,i=k:=⟨i.toNat,by omega⟩
   have hk:k<D.secs.length:=by omega
   refine z15 hk (tri_ldn 1 rfl (by rw [z6l hD.secs];have:=z1p (e:=65) hk;omega) ?_)
   rw [Nat.zero_add,zaa hD.secs hk]
   have hl:=SecS.len (hD.secs _ (List.getElem_mem hk))
   rw [if_pos ⟨hl,by omega,D.secs[k].cell⟩]
   refine z0j ?_
   rw [z4u (by omega),if_pos (by omega)]
   refine z0j ?_
   refine z02 [0,0,0] fun q hq=>⟨⟨?_,hD⟩,z3a hD hq⟩
   have:getE D k=0:=by unfold getE;rw [if_pos h,if_neg h1]
   rw [this]
   unfold getS
   rw [this,if_pos rfl,List.drop_zero,List.take_of_length_le (by omega),Int.toNat_natCast,List.getElem?_eq_getElem hk]
   rfl
 ·rw [if_pos (by simp [hr,h]),if_pos ⟨hz,by omega,zsec.cell⟩]
  refine z0j ?_
  rw [e0,if_pos (by omega)]
  refine z0j ?_
  refine z4t 0 rfl fun bs ws hD=>?_
  refine z02 [0,0,0] fun q hq=>⟨⟨?_,hD⟩,z3a hD hq⟩
  have:getE D i=1:=by unfold getE;rw [if_neg h]
  rw [this]
  unfold getS
  rw [this,if_neg (by decide),List.drop_zero,List.take_of_length_le (by omega)]
theorem zor (i:Int):Tri (stars [DiskA d D]) (F_09 N (some ⟨d,0⟩) i) fun r=>pu (r.2=getE D i∧(getE D i≠0→r.1=⟨none,0⟩)) (stars [DiskA d D,if getE D i=0 then OwnA r.1 1 (bytesOf (getS D i).b) else emp]):=by
 unfold F_09
 refine z01 [0] (zrg i) fun r=>z03 fun ⟨hr,hD⟩=>z00 ?_
 subst hr
 rw [z78]
 have hz:zsec.c.length=65:=SecS.len z43
 have hg:=SecS.len (zkr hD i)
 refine z0m fun v=>?_
 refine z2z 0 rfl hg (by omega) (SecS.cell _) ?_
 rw [z4u (by omega)]
 by_cases h:getE D i=0
 ·rw [if_neg (by simp [h])]
  refine z05 ?_
  refine z1z 0 rfl (fun _ hg'=>ztp hg' (by omega) (by omega) (by omega) (by omega)) ?_
  refine z01 [0] (zoz (k:=64) (cs:=(getS D i).c) (ro:=false) (e:=1) (by':=1) (by omega) (by omega) (by
   rw [List.all_eq_true]
   exact fun x hx=>List.all_eq_true.1 (SecS.cell _) x (List.mem_of_mem_take hx)) (by decide)) fun r=>z00 ?_
  refine z02 [2,0] fun q hq=>?_
  rw [if_pos h]
  refine ⟨⟨h.symm,fun c=>absurd h c⟩,?_⟩
  have e:(getS D i).c.take (64 * 1)=bytesOf (getS D i).b:=by
   unfold SecS.c
   rw [List.take_left' (by rw [z0b];exact zkr hD i)]
  rw [e] at hq
  exact hq
 ·rw [if_pos (by simp [h])]
  refine z02 [1] fun q hq=>?_
  rw [if_neg h]
  refine ⟨⟨rfl,fun _=>rfl⟩,?_⟩
  show star _ (star emp emp) q
  rw [z2a]
  exact hq
def writeE (D:DskS) (i:Int) (bs:List UInt8):Int:=if 0≤i∧i<D.secs.length∧bs.length=64 then powerE D else 1
def writeD (D:DskS) (i:Int) (bs:List UInt8) (t:Int):DskS:=if 0≤i∧i<D.secs.length∧bs.length=64 then
  (if powerE D=0 then {powerD D with secs:=D.secs.set i.toNat ⟨bs,t⟩,waits:=D.waits++[⟨i.toNat,(D.secs[i.toNat]?).getD zsec,⟨bs,t⟩⟩]} else powerD D) else D
theorem zic {bs:List UInt8} {t:Int} (h:bs.length=64):fillV zsec.c [(0,some 64,.agg (bytesOf bs)),(64,none,.int .u16 t)]=some (SecS.c ⟨bs,t⟩):=by
 have hz:zsec.c.length=65:=SecS.len z43
 have hb:(bytesOf bs).length=64:=by rw [z0b,h]
 unfold fillV
 rw [if_pos ⟨hb,by omega⟩]
 unfold fillV
 have e1:over zsec.c 0 (bytesOf bs)=bytesOf bs++[.int .u16 0]:=by
  unfold over
  rw [List.take_zero,List.nil_append,hb]
  congr 1
 rw [e1,if_pos ⟨by rw [List.length_append,hb];decide,rfl⟩]
 unfold fillV
 rw [List.set_append_right _ _ (by omega),hb]
 rfl
theorem zfn {i:Nat} {x y:SecS} (hx:x.ok) (hy:y.ok):fillV ([MV.int .i64 (0:Int)]++reps 64 [MV.int .u8 (0:Int)]++[MV.int .u16 (0:Int)]++reps 64 [MV.int .u8 (0:Int)]++[MV.int .u16 (0:Int)]) [(0,none,.int .i64 i),(1,some 65,.agg x.c),(66,some 65,.agg y.c)]=some (WaitS.c ⟨i,x,y⟩):=by
 have hz:zsec.c.length=65:=SecS.len z43
 have h1:x.c.length=65:=SecS.len hx
 have h2:y.c.length=65:=SecS.len hy
 have e0:[MV.int .i64 (0:Int)]++reps 64 [MV.int .u8 (0:Int)]++[MV.int .u16 (0:Int)]++reps 64 [MV.int .u8 (0:Int)]++[MV.int .u16 (0:Int)]=MV.int .i64 0::(zsec.c++zsec.c):=by
  rw [←z78]
  simp only [List.append_assoc,List.singleton_append,List.cons_append,List.nil_append]
 rw [e0]
 unfold fillV
 rw [if_pos ⟨by simp,rfl⟩]
 unfold fillV
 rw [List.set_cons_zero,if_pos ⟨h1,by simp [hz]⟩]
 have e1:over (MV.int .i64 i::(zsec.c++zsec.c)) 1 x.c=MV.int .i64 i::(x.c++zsec.c):=by
  unfold over
  rw [h1]
  simp only [List.take_succ_cons,List.take_zero,List.cons_append,List.nil_append,List.drop_succ_cons,Nat.reduceAdd]
  rw [List.drop_left' hz]
 rw [e1]
 unfold fillV
 rw [if_pos ⟨h2,by simp [hz,h1]⟩]
 unfold fillV over
 rw [h2]
 simp only [List.take_succ_cons,List.drop_succ_cons,Nat.reduceAdd,List.cons_append]
 rw [List.take_left' h1,List.drop_of_length_le (by simp [h1,hz])]
 simp [WaitS.c]
theorem zfo {cs zs:List MV} {n:Nat} (h:cs.length=n) (h2:zs.length=n):fillV zs [(0,some n,.agg cs)]=some cs:=by
 unfold fillV
 rw [if_pos ⟨h,by omega⟩]
 unfold fillV
 rw [z4u (by omega)]
theorem zm2 (i:Int) {s:Sl} {bs:List UInt8} (t:Int) (hs:s.len=bs.length) (hd:0≤D.done) (hd2:D.done<9223372036854775807) (hw:D.waits.length<400000000000) :
  Tri (stars [DiskA d D,OwnA s 1 (bytesOf bs)]) (F_0c N (some ⟨d,0⟩) (i,s,t)) fun r=>pu (r=writeE D i bs) (stars [DiskA d (writeD D i bs t),OwnA s 1 (bytesOf bs)]):=by
 unfold F_0c
 rw [if_neg (by simp)]
 refine z01 [0] (z8y i) fun r=>z03 fun hr=>z00 ?_
 by_cases h:0≤i∧i<D.secs.length∧bs.length=64
 case neg=>
  refine z08 (by
   rw [hr]
   dsimp only
   rw [hs]
   simp
   omega) ?_
  refine z02 [0,0] fun q hq=>⟨by unfold writeE;rw [if_neg h],?_⟩
  unfold writeD
  rw [if_neg h]
  exact hq
 have hcan:=h
 obtain ⟨h1,h2,h3⟩:=h
 refine z04 (by
  rw [hr]
  dsimp only
  rw [hs]
  simp [h1,h2,h3]) ?_
 refine z01 [0] (z8z hd hd2) fun r=>z03 fun hr=>z00 ?_
 subst hr
 unfold writeE writeD
 rw [if_pos hcan,if_pos hcan]
 by_cases hp:powerE D=0
 case neg=>
  refine z08 (by simp [hp]) ?_
  rw [if_neg hp]
  exact z02 [0,0] fun q hq=>⟨rfl,hq⟩
 refine z04 (by simp [hp]) ?_
 rw [if_pos hp]
 obtain ⟨k,rfl⟩:∃k:Nat,i=k:=⟨i.toNat,by omega⟩
 have hk:k<D.secs.length:=by omega
 refine z3k 1 rfl (fun e1 e2=>?_) fun sb ln e1 e2=>?_
 ·exfalso
  subst e1
  dsimp only at hs
  omega
 subst e1
 dsimp only at hs ⊢
 subst hs
 refine zdp (a:=some ⟨sb,0⟩) (fun _=>by unfold arrAt;rw [if_pos ⟨by omega,by dsimp only;omega⟩];rfl) ?_
 refine tri_ldn 1 rfl (by rw [z0b];omega) ?_
 rw [List.drop_zero,List.take_of_length_le (by rw [z0b];omega),z78,zic h3]
 have hz:zsec.c.length=65:=SecS.len z43
 have hnow:SecS.ok ⟨bs,t⟩:=h3
 have hnl:=SecS.len hnow
 refine z5j (z0m fun nw=>?_)
 dsimp only [sel,rem,nth,del,cat,upd]
 refine z2z 0 rfl hnl (by omega) (SecS.cell _) ?_
 rw [z4u (by omega)]
 refine z4t 1 rfl fun bs' ws hD=>?_
 rw [z2w,z5i]
 dsimp only [sel,rem,nth,del,cat,upd]
 have hsk:∀s∈D.secs,s.ok:=by rw [←z2w (D:=D)];exact hD.secs
 have hwk:∀w∈D.waits,w.was.ok∧w.now.ok∧w.at'<D.secs.length:=by
  have:=hD.waits
  rwa [z5i,z2w] at this
 refine z4n 0 rfl rfl (z4n 0 rfl rfl ?_)
 refine z15 hk (tri_ldn 1 rfl (by rw [z6l hsk];have:=z1p (e:=65) hk;omega) ?_)
 rw [Nat.zero_add,zaa hsk hk]
 refine tri_ldn 3 rfl (by omega) ?_
 rw [List.drop_zero,List.take_of_length_le (by omega)]
 have hwas:=hsk _ (List.getElem_mem hk)
 rw [zfn hwas hnow]
 have hwl:(WaitS.c ⟨k,D.secs[k],⟨bs,t⟩⟩).length=131:=WaitS.len hwas hnow
 refine z5j ?_
 rw [zfo hwl (by simp [z5x])]
 refine z5j (z0m fun wb=>?_)
 refine z4b 3 rfl (fun q hq=>OwnA.len hq) fun hwsl=>?_
 rw [zdm fun w hw=>⟨(hwk w hw).1,(hwk w hw).2.1⟩] at hwsl
 refine z01 [3,0] (zes (k:=1) (e:=131) (by':=144) (by omega) (by omega) (by
  rw [List.take_of_length_le (by omega)]
  exact WaitS.cell _) (by have:most=70368744177664:=rfl;omega)) fun r=>?_
 refine z00 ?_
 dsimp only [sel,rem,nth,del,cat,upd]
 refine z6m 2 rfl ?_
 dsimp only [sel,rem,nth,del,cat,upd]
 refine z4n 2 rfl rfl ?_
 refine tri_ldn 4 rfl (by omega) ?_
 rw [List.drop_zero,List.take_of_length_le (l:=SecS.c _) (by omega)]
 refine z15 hk (z2z 3 rfl hnl (by rw [z6l hsk,hnl];have:=z1p (e:=65) hk;omega) (SecS.cell _) ?_)
 rw [Nat.zero_add,zdl hsk hnow hk,List.take_of_length_le (by omega)]
 dsimp only [sel,rem,nth,del,cat,upd]
 refine z02 [2,2,0,2] fun q hq=>⟨hp.symm,?_⟩
 rw [Int.toNat_natCast,List.getElem?_eq_getElem hk]
 have hwc:waitsC D.waits++WaitS.c ⟨k,D.secs[k],⟨bs,t⟩⟩=waitsC (D.waits++[⟨k,D.secs[k],⟨bs,t⟩⟩]):=by
  simp [waitsC]
 rw [hwc] at hq
 dsimp only [sel,rem,nth,del,cat,upd] at hq
 refine z5w (l:=[OwnA ⟨some ⟨sb,0⟩,bs.length⟩ 1 (bytesOf bs)]) [_,_,_] (fun q h=>?_) (z0s (fun q=>z0s (fun q=>z0s fun q=>z2b fun q h =>.mk e2 h)) hq)
 refine ⟨(bs',r),⟨?_,?_,?_,hD.4⟩,?_⟩
 ·intro s hs
  rcases List.mem_or_eq_of_mem_set hs with hs | rfl
  ·exact hsk s hs
  ·exact hnow
 ·intro w hw
  rw [List.length_set]
  rcases List.mem_append.1 hw with hw | hw
  ·exact hwk w hw
  ·simp at hw
   subst hw
   exact ⟨hwas,hnow,hk⟩
 ·have:=hD.many
  rw [z2w] at this
  rw [List.length_set]
  exact this
 ·dsimp only
  rw [List.length_set]
  exact h
end
end Go.Moat
