/- Layer 5, the disk: what its functions come to, over what a disk is. -/
import Derived.Test.YtcaaljlhljemoaaGreatMLW
import Derived.Test.YtcaaljlhljemoaaGreatD15
import Derived.Test.YtcaaljlhljemoaaGreatP15e
namespace Go.Moat
open Go.Mini
structure SecS where
 b:List UInt8
 t:Int
def SecS.c(s:SecS):List MV:=bytesOf s.b++[.int .u16 s.t]
def SecS.ok(s:SecS):Prop:=s.b.length=64
def z3w:SecS:=⟨List.replicate 64 0,0⟩
structure WaitS where
 at':Nat
 was:SecS
 now:SecS
def WaitS.c(w:WaitS):List MV :=.int .i64 w.at'::(w.was.c++w.now.c)
structure DskS where
 secs:List SecS
 waits:List WaitS
 dead:Bool
 fuse:Int
 done:Int
def z6i(l:List SecS):List MV:=(l.map SecS.c).flatten
def z67(l:List WaitS):List MV:=(l.map WaitS.c).flatten
structure DskS.ok(D:DskS):Prop where
 secs:∀s∈D.secs,s.ok
 waits:∀w∈D.waits,w.was.ok∧w.now.ok∧w.at'<D.secs.length
 many:D.secs.length≤4096
 fuse : -1≤D.fuse∧D.fuse≤9223372036854775807
theorem SecS.len{s:SecS}(h:s.ok):s.c.length=65:=by
 unfold SecS.c;rw[List.length_append,z0e,h];rfl
theorem SecS.cell(s:SecS):s.c.all z0v=true:=by
 unfold SecS.c;rw[List.all_append,z4z];rfl
theorem WaitS.len{w:WaitS}(h:w.was.ok)(h2:w.now.ok):w.c.length=131:=by
 unfold WaitS.c;rw[List.length_cons,List.length_append,SecS.len h,SecS.len h2]
theorem WaitS.cell(w:WaitS):w.c.all z0v=true:=by
 unfold WaitS.c;rw[List.all_cons,List.all_append,w.was.cell,w.now.cell];rfl
theorem z6s:z3w.ok:=by simp[z3w,SecS.ok]
theorem zbn:z0q 64 [MV.int .u8 (0:Int)]++[MV.int .u16 (0:Int)]=z3w.c:=by
 rw[zas];simp[z3w,SecS.c,bytesOf]
theorem zq7{l:List SecS}(h:∀s∈l,s.ok):∀r∈l.map SecS.c,r.length=65:=by
 intro r hr;obtain⟨s,hs,rfl⟩:=List.mem_map.1 hr;exact SecS.len (h s hs)
theorem z12z{l:List WaitS}(h:∀w∈l,w.was.ok∧w.now.ok):∀r∈l.map WaitS.c,r.length=131:=by
 intro r hr;obtain⟨s,hs,rfl⟩:=List.mem_map.1 hr;exact WaitS.len (h s hs).1 (h s hs).2
theorem zbo{l:List SecS}(h:∀s∈l,s.ok):(z6i l).length=l.length * 65:=by
 rw[z6i,zfa (zq7 h),List.length_map]
theorem zh0{l:List SecS}(h:∀s∈l,s.ok){i:Nat}(hi:i<l.length):((z6i l).drop (i * 65)).take 65=l[i].c:=by
 rw[z6i,zjb (zq7 h) i (by simpa using hi)];simp
theorem zkt{l:List SecS}(h:∀s∈l,s.ok){s:SecS}(hs:s.ok){i:Nat}(hi:i<l.length):z0w (z6i l) (i * 65) s.c=z6i (l.set i s):=by
 rw[z6i,zh6 (SecS.len hs) (zq7 h) i (by simpa using hi),z6i,List.map_set]
theorem zku{l:List WaitS}(h:∀w∈l,w.was.ok∧w.now.ok):(z67 l).length=l.length * 131:=by
 rw[z67,zfa (z12z h),List.length_map]
def z1b(d:Nat)(D:DskS):HA:=exA fun x:Nat×Sl=>pu D.ok (z00 [pts d (.cells [.sl (some ⟨x.1,0⟩) D.secs.length 65,.sl x.2.p x.2.len 131,.bool D.dead,.int .i64 D.fuse,.int .i64 D.done] false),pts x.1 (.cells (z6i D.secs) false),z08 x.2 131 (z67 D.waits)])
section
variable{d:Nat}{D:DskS}{β:Type}{l:List HA}{m:M β}{S:β→HA}
theorem z83(n:Nat)(hl:l[n]? = some (z1b d D))(k:∀bs(ws:Sl),D.ok→Tri (z00 (pts d (.cells [.sl (some ⟨bs,0⟩) D.secs.length 65,.sl ws.p ws.len 131,.bool D.dead,.int .i64 D.fuse,.int .i64 D.done] false)::pts bs (.cells (z6i D.secs) false)::z08 ws 131 (z67 D.waits)::del l n)) m S):Tri (z00 l) m S:=
 zf9 (γ:=Nat×Sl) (φ:=fun _=>D.ok) n hl (fun _ ⟨x,h1,h2⟩=>⟨x,h1,h2⟩) fun x h=>k x.1 x.2 h
theorem z5j{bs:Nat}{ws:Sl}{q:PH}(hD:D.ok)(h:z00 [pts d (.cells [.sl (some ⟨bs,0⟩) D.secs.length 65,.sl ws.p ws.len 131,.bool D.dead,.int .i64 D.fuse,.int .i64 D.done] false),pts bs (.cells (z6i D.secs) false),z08 ws 131 (z67 D.waits)] q):z00 [z1b d D] q:=by
 rw[z0y];exact⟨(bs,ws),hD,h⟩
def zap(n:Nat):DskS:=⟨List.replicate n z3w,[],false,-1,0⟩
theorem z130{n:Nat}(h:n≤4096):(zap n).ok:=
 ⟨fun s hs=>(by rw[(List.mem_replicate.1 hs).2];exact z6s),fun w hw=>(by cases hw),by simpa[zap]using h,by simp[zap]⟩
variable{N:Nat}
theorem z106{n:Nat}(h:n≤4096):Tri (z00 []) (F_21 N (n:Int)) fun r=>exA fun d=>pu (r=(some ⟨d,0⟩,0)) (z00 [z1b d (zap n)]):=by
 unfold F_21;rw[if_neg (by simp;omega)];refine z8m (l:=[]) (g:=fun b=>⟨some ⟨b,0⟩,n⟩) (x :=.cells (z6i (zap n).secs) false) (fun h'=>?_) fun bs=>?_
 ·unfold mkSl;rw[if_pos ⟨by omega,by omega,by have:most=70368744177664:=rfl;omega,by rw[zbn];exact SecS.len z6s⟩,zbn];simp[zap,z6i,zsz]
 ·refine z0z fun d=>?_;refine z03 [0,0] fun q hq=>⟨d,rfl,?_⟩;refine z5j (bs:=bs) (ws:=⟨none,0⟩) (z130 h) ?_;have:(zap n).secs.length=n:=by simp[zap]
  rw[this];obtain⟨q1,q2,h1,⟨q3,q4,h2,h3,d2,e2⟩,d1,e1⟩:=hq;exact⟨q1,q2,h1,⟨q3,q4,h2,by rw[z0y];exact .nil _ h3,d2,e2⟩,d1,e1⟩
theorem z93:Tri (z00 [z1b d D]) (F_00 N (some ⟨d,0⟩)) fun r=>pu (r=D.secs.length) (z00 [z1b d D]):=by
 unfold F_00;refine z83 0 rfl fun bs ws hD=>?_;exact z8u 0 rfl rfl (z03 [0,0,0] fun q hq=>⟨rfl,z5j hD hq⟩)
theorem zf6(i:Int):Tri (z00 [z1b d D]) (F_11 N (some ⟨d,0⟩) i) fun r=>pu (r=decide (0≤i∧i<D.secs.length)) (z00 [z1b d D]):=by
 unfold F_11;by_cases h:0≤i
 ·rw[if_pos (by simpa using h)];refine z02 (f:=fun c=>ret c) [0] (Q:=fun r=>pu (r=decide (i<D.secs.length)) (z00 [z1b d D])) ?_ fun r=>z04 fun hr=>z01 (z03 [0] fun q hq=>⟨by rw[hr];simp[h],hq⟩);exact z02 [0] z93 fun r=>z04 fun hr=>z01 (z03 [0] fun q hq=>⟨by rw[hr],hq⟩)
 ·rw[if_neg (by simpa using h)];exact z03 [0] fun q hq=>⟨by simp[h],hq⟩
def powerE(D:DskS):Int:=if D.dead then 6 else if D.fuse=0 then 6 else 0
def z45(D:DskS):DskS:=if D.dead then D else if D.fuse=0 then {D with dead:=true}else {D with fuse:=if 0<D.fuse then D.fuse - 1 else D.fuse,done:=D.done+1}
theorem zf7(hd:0≤D.done)(hd2:D.done<9223372036854775807):Tri (z00 [z1b d D]) (F_12 N (some ⟨d,0⟩)) fun r=>pu (r=powerE D) (z00 [z1b d (z45 D)]):=by
 unfold F_12;refine z83 0 rfl fun bs ws hD=>?_;refine zxf 0 rfl rfl ?_;by_cases h1:D.dead=true
 ·rw[if_pos h1];refine z03 [0,0,0] fun q hq=>⟨by unfold powerE;rw[if_pos h1],?_⟩;unfold z45;rw[if_pos h1];exact z5j hD hq
 ·rw[if_neg h1];refine z85 0 rfl rfl ?_;by_cases h2:D.fuse=0
  ·rw[if_pos (by simpa using h2)];refine zbp 0 rfl ?_;refine z03 [0,0,0] fun q hq=>⟨by unfold powerE;rw[if_neg h1,if_pos h2],?_⟩;unfold z45;rw[if_neg h1,if_pos h2];exact z5j ⟨hD.1,hD.2,hD.3,hD.4⟩ hq
  ·rw[if_neg (by simpa using h2)];refine z85 0 rfl rfl ?_;have fin:∀fz,fz=(if 0<D.fuse then D.fuse - 1 else D.fuse)→Tri (z00 [pts d (.cells [.sl (some ⟨bs,0⟩) D.secs.length 65,.sl ws.p ws.len 131,.bool D.dead,.int .i64 fz,.int .i64 D.done] false),pts bs (.cells (z6i D.secs) false),z08 ws 131 (z67 D.waits)])
     (bd (nonNil (some ⟨d,0⟩)) fun q_19=>bd (fld q_19 4) fun q_20=>bd (ldI .i64 q_20) fun(y_21:Int)=>bd (nonNil (some ⟨d,0⟩)) fun q_22=>bd (fld q_22 4) fun q_23=>bd (stc q_23 (MV.int .i64 (wr .i64 (y_21+(1:Int))))) fun _=>ret (0:Int)) fun r=>pu (r=powerE D) (z00 [z1b d (z45 D)]):=by
    intro fz hf;refine z85 0 rfl rfl (zbp 0 rfl ?_);refine z03 [0,0,0] fun q hq=>⟨by unfold powerE;rw[if_neg h1,if_neg h2],?_⟩;unfold z45;rw[if_neg h1,if_neg h2];rw[z0i (by omega) (by omega)]at hq;refine z5j (bs:=bs) (ws:=ws) ⟨hD.1,hD.2,hD.3,?_⟩ ?_
    ·have:=hD.fuse
     dsimp only;split<;>omega
    ·rw[←hf];exact hq
   by_cases h3:0<D.fuse
   ·refine Tri.bd (Q:=fun _=>z00 [pts d (.cells [.sl (some ⟨bs,0⟩) D.secs.length 65,.sl ws.p ws.len 131,.bool D.dead,.int .i64 (D.fuse - 1),.int .i64 D.done] false),pts bs (.cells (z6i D.secs) false),z08 ws 131 (z67 D.waits)]) ?_ fun _=>fin _ (by rw[if_pos h3]);rw[if_pos (by simpa using h3)];refine z85 0 rfl rfl (zbp 0 rfl (z1l fun q hq=>?_));have:=hD.fuse
    rw[z0i (by omega) (by omega)]at hq;exact hq
   ·refine Tri.bd (Q:=fun _=>z00 [pts d (.cells [.sl (some ⟨bs,0⟩) D.secs.length 65,.sl ws.p ws.len 131,.bool D.dead,.int .i64 D.fuse,.int .i64 D.done] false),pts bs (.cells (z6i D.secs) false),z08 ws 131 (z67 D.waits)]) ?_ fun _=>fin _ (by rw[if_neg h3]);rw[if_neg (by simpa using h3)];exact z1l fun q hq=>hq
theorem z48:(z45 D).secs=D.secs:=by
 unfold z45;split
 ·rfl
 ·split<;>rfl
theorem z6t:(z45 D).waits=D.waits:=by
 unfold z45;split
 ·rfl
 ·split<;>rfl
def z68(D:DskS):DskS:=if powerE D=0 then {z45 D with waits:=[]}else z45 D
theorem zkv(hd:0≤D.done)(hd2:D.done<9223372036854775807):Tri (z00 [z1b d D]) (F_13 N (some ⟨d,0⟩)) fun r=>pu (r=powerE D) (z00 [z1b d (z68 D)]):=by
 unfold F_13;refine z02 [0] (zf7 hd hd2) fun r=>z04 fun hr=>z01 ?_;by_cases h:powerE D=0
 ·rw[if_neg (by simp[hr,h])];refine z83 0 rfl fun bs ws hD=>?_;refine zbp 0 rfl ?_;refine z03 [0,0] fun q hq=>⟨h.symm,?_⟩;unfold z68;rw[if_pos h];refine z5j (bs:=bs) (ws:=⟨none,0⟩) ⟨hD.1,fun w hw=>(by cases hw),hD.3,hD.4⟩ ?_;obtain⟨q1,q2,h1,⟨q3,q4,h2,h3,d2,e2⟩,d1,e1⟩:=hq;exact⟨q1,q2,h1,⟨q3,q4,h2,by rw[z0y];exact .nil _ h3,d2,e2⟩,d1,e1⟩
 ·rw[if_pos (by simp[hr,h])];refine z03 [0] fun q hq=>⟨hr,?_⟩;unfold z68;rw[if_neg h];exact hq
theorem zmx:Tri (z00 [z1b d D]) (F_1v N (some ⟨d,0⟩)) fun r=>pu (r=D.done) (z00 [z1b d D]):=by
 unfold F_1v;refine z83 0 rfl fun bs ws hD=>?_;exact z85 0 rfl rfl (z03 [0,0,0] fun q hq=>⟨rfl,z5j hD hq⟩)
theorem z84{cs vs:List MV}(h:vs.length=cs.length):z0w cs 0 vs=vs:=by
 unfold z0w;simp[h]
def z6d(D:DskS)(i:Int):Int:=if 0≤i∧i<D.secs.length then(if D.dead then 6 else 0)else 1
def getS(D:DskS)(i:Int):SecS:=if z6d D i=0 then(D.secs[i.toNat]?).getD z3w else z3w
theorem ze2(hD:D.ok)(i:Int):(getS D i).ok:=by
 unfold getS;split
 ·cases h:D.secs[i.toNat]? with
  | none=>exact z6s
  | some s=>exact hD.secs s (List.mem_of_getElem? h)
 ·exact z6s
theorem zq8(i:Int):Tri (z00 [z1b d D]) (F_14 N (some ⟨d,0⟩) i) fun r=>pu (r=((getS D i).c,z6d D i)∧D.ok) (z00 [z1b d D]):=by
 unfold F_14;rw[if_neg (by simp)];rw[zbn];have hz:z3w.c.length=65:=SecS.len z6s;refine z02 [0] (zf6 i) fun r=>z04 fun hr=>z01 ?_;have e0:z0w z3w.c 0 z3w.c=z3w.c:=z84 rfl;by_cases h:0≤i∧i<D.secs.length
 ·rw[if_neg (by simp[hr,h])];refine z83 0 rfl fun bs ws hD=>?_;refine zxf 0 rfl rfl ?_;by_cases h1:D.dead=true
  ·rw[if_pos h1,if_pos ⟨hz,by omega,z3w.cell⟩];refine z0s ?_;rw[e0,if_pos (by omega)];refine z0s ?_;refine z03 [0,0,0] fun q hq=>⟨⟨?_,hD⟩,z5j hD hq⟩;have:z6d D i=6:=by unfold z6d;rw[if_pos h,if_pos h1]
   rw[this];unfold getS;rw[this,if_neg (by decide),List.drop_zero,List.take_of_length_le (by omega)]
  ·rw[if_neg h1];refine z8u 0 rfl rfl ?_;obtain⟨k,rfl⟩:∃k:Nat,i=k:=⟨i.toNat,by omega⟩;have hk:k<D.secs.length:=by omega
   refine z1x hk (z7m 1 rfl (by rw[zbo hD.secs];have:=z2t (e:=65) hk;omega) ?_);rw[Nat.zero_add,zh0 hD.secs hk];have hl:=SecS.len (hD.secs _ (List.getElem_mem hk));rw[if_pos ⟨hl,by omega,D.secs[k].cell⟩];refine z0s ?_;rw[z84 (by omega),if_pos (by omega)];refine z0s ?_;refine z03 [0,0,0] fun q hq=>⟨⟨?_,hD⟩,z5j hD hq⟩;have:z6d D k=0:=by unfold z6d;rw[if_pos h,if_neg h1]
   rw[this];unfold getS;rw[this,if_pos rfl,List.drop_zero,List.take_of_length_le (by omega),Int.toNat_natCast,List.getElem?_eq_getElem hk];rfl
 ·rw[if_pos (by simp[hr,h]),if_pos ⟨hz,by omega,z3w.cell⟩];refine z0s ?_;rw[e0,if_pos (by omega)];refine z0s ?_;refine z83 0 rfl fun bs ws hD=>?_;refine z03 [0,0,0] fun q hq=>⟨⟨?_,hD⟩,z5j hD hq⟩;have:z6d D i=1:=by unfold z6d;rw[if_neg h]
  rw[this];unfold getS;rw[this,if_neg (by decide),List.drop_zero,List.take_of_length_le (by omega)]
theorem zh1(i:Int):Tri (z00 [z1b d D]) (F_05 N (some ⟨d,0⟩) i) fun r=>pu (r.2=z6d D i∧(z6d D i≠0→r.1=⟨none,0⟩)) (z00 [z1b d D,if z6d D i=0 then z08 r.1 1 (bytesOf (getS D i).b)else emp]):=by
 unfold F_05;refine z02 [0] (zq8 i) fun r=>z04 fun ⟨hr,hD⟩=>z01 ?_;subst hr;rw[zbn];have hz:z3w.c.length=65:=SecS.len z6s;have hg:=SecS.len (ze2 hD i);refine z0z fun v=>?_;refine z5n 0 rfl hg (by omega) (SecS.cell _) ?_;rw[z84 (by omega)];by_cases h:z6d D i=0
 ·rw[if_neg (by simp[h])];refine z06 ?_;refine z3g 0 rfl (fun _ hg'=>z131 hg' (by omega) (by omega) (by omega) (by omega)) ?_;refine z02 [0] (zxh (k:=64) (cs:=(getS D i).c) (ro:=false) (e:=1) (by':=1) (by omega) (by omega) (by
   rw[List.all_eq_true];exact fun x hx=>List.all_eq_true.1 (SecS.cell _) x (List.mem_of_mem_take hx)) (by decide)) fun r=>z01 ?_
  refine z03 [2,0] fun q hq=>?_;rw[if_pos h];refine⟨⟨h.symm,fun c=>absurd h c⟩,?_⟩;have e:(getS D i).c.take (64 * 1)=bytesOf (getS D i).b:=by
   unfold SecS.c;rw[List.take_left' (by rw[z0e];exact ze2 hD i)]
  rw[e]at hq;exact hq
 ·rw[if_pos (by simp[h])];refine z03 [1] fun q hq=>?_;rw[if_neg h];refine⟨⟨rfl,fun _=>rfl⟩,?_⟩;show z1a _ (z1a emp emp) q;rw[z40];exact hq
theorem zq9(i:Int):Tri (z00 [z1b d D]) (F_1w N (some ⟨d,0⟩) i) fun r=>pu (r=((getS D i).t,z6d D i)) (z00 [z1b d D]):=by
 unfold F_1w;refine z02 [0] (zq8 i) fun r=>z04 fun ⟨hr,hD⟩=>z01 ?_;subst hr;rw[zbn];have hz:z3w.c.length=65:=SecS.len z6s;have hg:=SecS.len (ze2 hD i);rw[if_pos ⟨hg,by omega,SecS.cell _⟩];refine z0s ?_;rw[z84 (by dsimp only;omega)];have:(getS D i).c[64]? = some (.int .u16 (getS D i).t):=by
  unfold SecS.c;rw[List.getElem?_append_right (by rw[z0e,ze2 hD i];omega),z0e,ze2 hD i];rfl
 dsimp only;rw[this];refine z15 ?_;rw[show CTy.dec (.int .u16) (.int .u16 (getS D i).t)=some (getS D i).t from rfl];exact z15 (z03 [0] fun q hq=>⟨rfl,hq⟩)
def writeE(D:DskS)(i:Int)(bs:List UInt8):Int:=if 0≤i∧i<D.secs.length∧bs.length=64 then powerE D else 1
def z6u(D:DskS)(i:Int)(bs:List UInt8)(t:Int):DskS:=if 0≤i∧i<D.secs.length∧bs.length=64 then
  (if powerE D=0 then {z45 D with secs:=D.secs.set i.toNat ⟨bs,t⟩,waits:=D.waits++[⟨i.toNat,(D.secs[i.toNat]?).getD z3w,⟨bs,t⟩⟩]}else z45 D)else D
theorem zqa{bs:List UInt8}{t:Int}(h:bs.length=64):z2a z3w.c [(0,some 64,.agg (bytesOf bs)),(64,none,.int .u16 t)]=some (SecS.c ⟨bs,t⟩):=by
 have hz:z3w.c.length=65:=SecS.len z6s;have hb:(bytesOf bs).length=64:=by rw[z0e,h]
 unfold z2a;rw[if_pos ⟨hb,by omega⟩];unfold z2a;have e1:z0w z3w.c 0 (bytesOf bs)=bytesOf bs++[.int .u16 0]:=by
  unfold z0w;rw[List.take_zero,List.nil_append,hb];congr 1
 rw[e1,if_pos ⟨by rw[List.length_append,hb];decide,rfl⟩];unfold z2a;rw[List.set_append_right _ _ (by omega),hb];rfl
theorem zmy{i:Nat}{x y:SecS}(hx:x.ok)(hy:y.ok):z2a ([MV.int .i64 (0:Int)]++z0q 64 [MV.int .u8 (0:Int)]++[MV.int .u16 (0:Int)]++z0q 64 [MV.int .u8 (0:Int)]++[MV.int .u16 (0:Int)]) [(0,none,.int .i64 i),(1,some 65,.agg x.c),(66,some 65,.agg y.c)]=some (WaitS.c ⟨i,x,y⟩):=by
 have hz:z3w.c.length=65:=SecS.len z6s;have h1:x.c.length=65:=SecS.len hx;have h2:y.c.length=65:=SecS.len hy;have e0:[MV.int .i64 (0:Int)]++z0q 64 [MV.int .u8 (0:Int)]++[MV.int .u16 (0:Int)]++z0q 64 [MV.int .u8 (0:Int)]++[MV.int .u16 (0:Int)]=MV.int .i64 0::(z3w.c++z3w.c):=by
  rw[←zbn];simp only[List.append_assoc,List.singleton_append,List.cons_append,List.nil_append]
 rw[e0];unfold z2a;rw[if_pos ⟨by simp,rfl⟩];unfold z2a;rw[List.set_cons_zero,if_pos ⟨h1,by simp[hz]⟩];have e1:z0w (MV.int .i64 i::(z3w.c++z3w.c)) 1 x.c=MV.int .i64 i::(x.c++z3w.c):=by
  unfold z0w;rw[h1];simp only[List.take_succ_cons,List.take_zero,List.cons_append,List.nil_append,List.drop_succ_cons,Nat.reduceAdd];rw[List.drop_left' hz]
 rw[e1];unfold z2a;rw[if_pos ⟨h2,by simp[hz,h1]⟩];unfold z2a z0w;rw[h2];simp only[List.take_succ_cons,List.drop_succ_cons,Nat.reduceAdd,List.cons_append];rw[List.take_left' h1,List.drop_of_length_le (by simp[h1,hz])];simp[WaitS.c]
theorem zmz{cs zs:List MV}{n:Nat}(h:cs.length=n)(h2:zs.length=n):z2a zs [(0,some n,.agg cs)]=some cs:=by
 unfold z2a;rw[if_pos ⟨h,by omega⟩];unfold z2a;rw[z84 (by omega)]
theorem zuh(i:Int){s:Sl}{bs:List UInt8}(t:Int)(hs:s.len=bs.length)(hd:0≤D.done)(hd2:D.done<9223372036854775807)(hw:D.waits.length<400000000000) :
  Tri (z00 [z1b d D,z08 s 1 (bytesOf bs)]) (F_0d N (some ⟨d,0⟩) (i,s,t)) fun r=>pu (r=writeE D i bs) (z00 [z1b d (z6u D i bs t),z08 s 1 (bytesOf bs)]):=by
 unfold F_0d;rw[if_neg (by simp)];refine z02 [0] (zf6 i) fun r=>z04 fun hr=>z01 ?_;by_cases h:0≤i∧i<D.secs.length∧bs.length=64
 case neg=>
  refine z07 (by
   rw[hr];dsimp only;rw[hs];simp;omega) ?_
  refine z03 [0,0] fun q hq=>⟨by unfold writeE;rw[if_neg h],?_⟩;unfold z6u;rw[if_neg h];exact hq
 have hcan:=h;obtain⟨h1,h2,h3⟩:=h;refine z05 (by
  rw[hr];dsimp only;rw[hs];simp[h1,h2,h3]) ?_
 refine z02 [0] (zf7 hd hd2) fun r=>z04 fun hr=>z01 ?_;subst hr;unfold writeE z6u;rw[if_pos hcan,if_pos hcan];by_cases hp:powerE D=0
 case neg=>
  refine z07 (by simp[hp]) ?_;rw[if_neg hp];exact z03 [0,0] fun q hq=>⟨rfl,hq⟩
 refine z05 (by simp[hp]) ?_;rw[if_pos hp];obtain⟨k,rfl⟩:∃k:Nat,i=k:=⟨i.toNat,by omega⟩;have hk:k<D.secs.length:=by omega
 refine z6w 1 rfl (fun e1 e2=>?_) fun sb ln e1 e2=>?_
 ·exfalso;subst e1;dsimp only at hs;omega
 subst e1;dsimp only at hs ⊢;subst hs;refine ze4 (a:=some ⟨sb,0⟩) (fun _=>by unfold arrAt;rw[if_pos ⟨by omega,by dsimp only;omega⟩];rfl) ?_;refine z7m 1 rfl (by rw[z0e];omega) ?_;rw[List.drop_zero,List.take_of_length_le (by rw[z0e];omega),zbn,zqa h3];have hz:z3w.c.length=65:=SecS.len z6s;have hnow:SecS.ok ⟨bs,t⟩:=h3;have hnl:=SecS.len hnow;refine zcr (z0z fun nw=>?_);dsimp only[sel,rem,nth,del,cat,upd];refine z5n 0 rfl hnl (by omega) (SecS.cell _) ?_;rw[z84 (by omega)];refine z83 1 rfl fun bs' ws hD=>?_;rw[z48,z6t];dsimp only[sel,rem,nth,del,cat,upd];have hsk:∀s∈D.secs,s.ok:=by rw[←z48 (D:=D)];exact hD.secs
 have hwk:∀w∈D.waits,w.was.ok∧w.now.ok∧w.at'<D.secs.length:=by
  have:=hD.waits
  rwa [z6t,z48]at this
 refine z8u 0 rfl rfl (z8u 0 rfl rfl ?_);refine z1x hk (z7m 1 rfl (by rw[zbo hsk];have:=z2t (e:=65) hk;omega) ?_);rw[Nat.zero_add,zh0 hsk hk];refine z7m 3 rfl (by omega) ?_;rw[List.drop_zero,List.take_of_length_le (by omega)];have hwas:=hsk _ (List.getElem_mem hk);rw[zmy hwas hnow];have hwl:(WaitS.c ⟨k,D.secs[k],⟨bs,t⟩⟩).length=131:=WaitS.len hwas hnow;refine zcr ?_;rw[zmz hwl (by simp[zas])];refine zcr (z0z fun wb=>?_);refine z5u 3 rfl (fun q hq=>z08.len hq) fun hwsl=>?_;rw[zku fun w hw=>⟨(hwk w hw).1,(hwk w hw).2.1⟩]at hwsl;refine z02 [3,0] (zlz (k:=1) (e:=131) (by':=144) (by omega) (by omega) (by
  rw[List.take_of_length_le (by omega)];exact WaitS.cell _) (by have:most=70368744177664:=rfl;omega)) fun r=>?_
 refine z01 ?_;dsimp only[sel,rem,nth,del,cat,upd];refine zbp 2 rfl ?_;dsimp only[sel,rem,nth,del,cat,upd];refine z8u 2 rfl rfl ?_;refine z7m 4 rfl (by omega) ?_;rw[List.drop_zero,List.take_of_length_le (l:=SecS.c _) (by omega)];refine z1x hk (z5n 3 rfl hnl (by rw[zbo hsk,hnl];have:=z2t (e:=65) hk;omega) (SecS.cell _) ?_);rw[Nat.zero_add,zkt hsk hnow hk,List.take_of_length_le (by omega)];dsimp only[sel,rem,nth,del,cat,upd];refine z03 [2,2,0,2] fun q hq=>⟨hp.symm,?_⟩;rw[Int.toNat_natCast,List.getElem?_eq_getElem hk];have hwc:z67 D.waits++WaitS.c ⟨k,D.secs[k],⟨bs,t⟩⟩=z67 (D.waits++[⟨k,D.secs[k],⟨bs,t⟩⟩]):=by
  simp[z67]
 rw[hwc]at hq;dsimp only[sel,rem,nth,del,cat,upd]at hq;refine zar (l:=[z08 ⟨some ⟨sb,0⟩,bs.length⟩ 1 (bytesOf bs)]) [_,_,_] (fun q h=>?_) (z1d (fun q=>z1d (fun q=>z1d fun q=>ent_head fun q h =>.mk e2 h)) hq);refine⟨(bs',r),⟨?_,?_,?_,hD.4⟩,?_⟩
 ·intro s hs;rcases List.mem_or_eq_of_mem_set hs with hs | rfl
  ·exact hsk s hs
  ·exact hnow
 ·intro w hw;rw[List.length_set];rcases List.mem_append.1 hw with hw | hw
  ·exact hwk w hw
  ·simp at hw;subst hw;exact⟨hwas,hnow,hk⟩
 ·have:=hD.many
  rw[z48]at this;rw[List.length_set];exact this
 ·dsimp only;rw[List.length_set];exact h
end
end Go.Moat
