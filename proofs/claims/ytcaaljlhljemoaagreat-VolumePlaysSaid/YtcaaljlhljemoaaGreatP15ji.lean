/- The document's answer for layer 15: Copy, Clean, Dirty, Tight. -/
import Derived.Test.YtcaaljlhljemoaaGreatP15q
import Derived.Test.YtcaaljlhljemoaaGreatP15jd
import Derived.Test.YtcaaljlhljemoaaGreatP15jg
namespace Go.Moat
open Go.Mini
section
variable{α:Type}{N:Nat}{β:Type}{l:List HA}{S:β→HA}{T:HA}{w:Nat}{g:Geo}{W:RefS}{m:M β}{V:VolS}
theorem z62{b c o o':Nat}(h:b≠c):z5j (Option.map MA.blk (some ⟨b,o⟩)) (Option.map MA.blk (some (⟨c,o'⟩:MA)))=true:=by
 show(!(Nat.beq b c))=true;have:Nat.beq b c=false:=by
  cases hb:Nat.beq b c with
  | false=>rfl
  | true=>exact absurd (Nat.eq_of_beq_eq_true hb) h
 rw[this];rfl
theorem tri_bift{A:HA}{c:Bool}{m n:M β}(h:c=true)(k:Tri A m S):Tri A (bif c then m else n) S:=by
 rw[h];exact k
theorem z7l(hg:g.ok)(ok:RWok g W):Tri (z00 [z1i w g W]) (F_08 N (some ⟨w,0⟩)) fun r=>exA fun w'=>pu (r=some ⟨w',0⟩) (z00 [z1i w' g W,z1i w g W]):=by
 have hmost:z1z=70368744177664:=rfl;have hgp:=hg.gp;have hI:=hg.i2;have hG:=hg.g2;have hB:g.B=g.G * g.P:=rfl;have hok:=ok.inv.ok;have k1:=hok.rows.len;have k2:=hok.ownl;have k3:=hok.usedl;have k4:=hok.inol;have k5:=ok.bl;have k6:=ok.dl;unfold F_08;refine z38 0 rfl fun x=>?_;dsimp only[sel,rem,nth,del,cat,upd];refine z0a 1 rfl fun l1=>z0a 2 rfl fun l2=>z0a 3 rfl fun l3=>z0a 4 rfl fun l4=>z0a 5 rfl fun l5=>z0a 6 rfl fun l6=>?_;have n1:=l1;have n2:=l2;have n3:=l3;have n4:=l4;have n5:=l5;have n6:=l6;rw[z0o z17]at n1;rw[z2t]at n2;rw[z0i]at n3;rw[z0o z0g]at n4;rw[z5i]at n5;rw[z5v]at n6;refine zgp 5 fun b=>?_;refine show Tri (z00 [pts b .dead,pts (b+1) .dead,pts (b+2) .dead,pts (b+3) .dead,pts (b+4) .dead,pts w (.cells (z8w g x) false),z07 x.rows 2 (z0y W.m.rows),z07 x.own 1 (z2g W.m.own),z07 x.used 1 (bytesOf W.m.used),z07 x.ino 14 (z1t W.m.ino),z07 x.bs 1 (z8k W.B),z07 x.ds 1 (z5f W.D)]) _ _ from ?_;refine zc0 [0,4] rfl fun e0=>zc0 [1,4] rfl fun e1=>zc0 [2,4] rfl fun e2=>?_;refine z5s 0 rfl ?_;refine z0h (z06 (z06 (z0z 5 rfl rfl ?_)));dsimp only[sel,rem,nth,del,cat,upd];refine z3c 0 (B:=z07 ⟨some ⟨b,0⟩,0⟩ 2 []) rfl (fun q hq =>.mk (by simp) hq) ?_;dsimp only[sel,rem,nth,del,cat,upd];refine z02 [0,5] (z2a (by':=16) (z0e l1) (by omega) (z7c z9t _) (by dsimp only;omega)) fun r1=>z01 ?_;dsimp only[sel,rem,nth,del,cat,upd];refine z5s 2 rfl ?_;refine z0h (z06 (z06 (z0z 6 rfl rfl ?_)));dsimp only[sel,rem,nth,del,cat,upd];refine z3c 2 (B:=z07 ⟨some ⟨b+1,0⟩,0⟩ 1 []) rfl (fun q hq =>.mk (by simp) hq) ?_;dsimp only[sel,rem,nth,del,cat,upd];refine z02 [2,6] (z2a (by':=8) (z0e l2) (by omega) (by simp[i64s,z0u]) (by dsimp only;omega)) fun r2=>z01 ?_;dsimp only[sel,rem,nth,del,cat,upd];refine z5s 4 rfl ?_;refine z0h (z06 (z06 (z0z 7 rfl rfl ?_)));dsimp only[sel,rem,nth,del,cat,upd];refine z3c 4 (B:=z07 ⟨some ⟨b+2,0⟩,0⟩ 1 []) rfl (fun q hq =>.mk (by simp) hq) ?_;dsimp only[sel,rem,nth,del,cat,upd];refine z02 [4,7] (z2a (by':=1) (z0e l3) (by omega) (by simp[bytesOf,z0u]) (by dsimp only;omega)) fun r3=>z01 ?_;dsimp only[sel,rem,nth,del,cat,upd];refine z5s 6 rfl ?_;refine z0h (z06 (z06 (z0z 8 rfl rfl ?_)));dsimp only[sel,rem,nth,del,cat,upd];refine z3c 6 (B:=z07 ⟨some ⟨b+3,0⟩,0⟩ 14 []) rfl (fun q hq =>.mk (by simp) hq) ?_;dsimp only[sel,rem,nth,del,cat,upd];refine z02 [6,8] (z2a (by':=104) (z0e l4) (by omega) (z7c z7d _) (by dsimp only;omega)) fun r4=>z01 ?_;dsimp only[sel,rem,nth,del,cat,upd];refine z5s 8 rfl ?_;dsimp only[sel,rem,nth,del,cat,upd];refine z5c 8 rfl rfl (by simp) rfl ?_;rw[z8g (by rfl)];dsimp only[sel,rem,nth,del,cat,upd];refine tri_bift (z62 e0) (tri_bift (z62 e0) (tri_bift (z62 e0) (tri_bift (z62 e1) (tri_bift (z62 e1) (tri_bift (z62 e2) ?_)))));refine zgp 3 fun c=>?_;refine show Tri (z00 [pts c .dead,pts (c+1) .dead,pts (c+2) .dead,z07 r4 14 ([]++z1t W.m.ino),z07 x.ino 14 (z1t W.m.ino),z07 r3 1 ([]++bytesOf W.m.used),z07 x.used 1 (bytesOf W.m.used),z07 r2 1 ([]++z2g W.m.own),z07 x.own 1 (z2g W.m.own),z07 r1 2 ([]++z0y W.m.rows),z07 x.rows 2 (z0y W.m.rows),pts (b+4) (.cells [.sl r1.p r1.len 2,.sl r2.p r2.len 1,.sl r3.p r3.len 1,.sl r4.p r4.len 14] false),pts w (.cells (z8w g x) false),z07 x.bs 1 (z8k W.B),z07 x.ds 1 (z5f W.D)]) _ _ from ?_;refine zc0 [12,0] rfl fun f0=>zc0 [12,1] rfl fun f1=>zc0 [11,0] rfl fun f2=>zc0 [11,1] rfl fun f3=>?_;refine z0h (z06 (z66 12 rfl (ts:=[.int .i64,.int .i64,.int .i64,.int .i64]) (x:=g.t) (by simp[z8w]) rfl ?_));refine z66 11 rfl (ts:=[.sl 2,.sl 1,.sl 1,.sl 14]) (x:=(r1,r2,r3,r4)) (by simp) rfl ?_;refine z5s 0 rfl ?_;refine z0h (z06 (z0z 12 rfl rfl ?_));dsimp only[sel,rem,nth,del,cat,upd];refine z3c 0 (B:=z07 ⟨some ⟨c,0⟩,0⟩ 1 []) rfl (fun q hq =>.mk (by simp) hq) ?_;dsimp only[sel,rem,nth,del,cat,upd];refine z02 [0,12] (z2a (by':=16) (z0e l5) (by omega) (by simp[z8k,z0u]) (by dsimp only;omega)) fun r5=>z01 ?_;dsimp only[sel,rem,nth,del,cat,upd];refine z5s 2 rfl ?_;refine z0h (z06 (z0z 13 rfl rfl ?_));dsimp only[sel,rem,nth,del,cat,upd];refine z3c 2 (B:=z07 ⟨some ⟨c+1,0⟩,0⟩ 1 []) rfl (fun q hq =>.mk (by simp) hq) ?_;dsimp only[sel,rem,nth,del,cat,upd];refine z02 [2,13] (z2a (by':=1) (z0e l6) (by omega) (by simp[z5f,z0u]) (by dsimp only;omega)) fun r6=>z01 ?_;dsimp only[sel,rem,nth,del,cat,upd];refine z5s 4 rfl ?_;dsimp only[sel,rem,nth,del,cat,upd];refine tri_bift (z62 f0) (tri_bift (z62 f1) (tri_bift (z62 f2) (tri_bift (z62 f3) (tri_bift (z62 (Ne.symm f0)) ?_))));refine z03 [4,10,8,6,4,2,0,7,5,4,3,2,1,0] fun q hq=>⟨c+2,rfl,?_⟩;refine z1d (fun q h=>by rw[z0v];exact z1e (x:=x) h) (z8i (refL (c+2) g W ⟨r1,r2,r3,r4,r5,r6⟩) (fun q h=>z1e h) hq)
theorem zwt(k:Nat){e by':Nat}{z:List MV}(h:k * by'≤z1z)(hz:z.length=e){f:Sl→M β}(kk:∀b,Tri (z00 (pts b (.cells (z0n k z) false)::l)) (f ⟨some ⟨b,0⟩,k⟩) S):Tri (z00 l) (bd (mkSl e by' z (k:Int) (k:Int)) f) S:=by
 refine z7z (g:=fun b=>(⟨some ⟨b,0⟩,k⟩:Sl)) (x :=.cells (z0n k z) false) (fun h'=>?_) kk;unfold mkSl;have h2:(k:Int) * (by':Int)≤(z1z:Int):=by
  rw[show(k:Int) * (by':Int)=((k * by':Nat):Int) by simp];omega
 rw[if_pos ⟨by omega,by omega,h2,hz⟩,Int.toNat_natCast]
def RefS.clean(W:RefS):RefS:={W with D:=List.replicate W.B.length false}
theorem zih(ok:RWok g W)(hg:g.ok):Tri (z00 [z1i w g W]) (F_1p N (some ⟨w,0⟩)) fun _=>z00 [z1i w g W.clean]:=by
 have hmost:z1z=70368744177664:=rfl;have hgp:=hg.gp;have hB:g.B=g.G * g.P:=rfl;have k5:=ok.bl;unfold F_1p;refine z38 0 rfl fun x=>?_;dsimp only[sel,rem,nth,del,cat,upd];refine z0a 5 rfl fun l5=>?_;rw[z5i]at l5;refine z0h (z06 (z0z 0 rfl rfl ?_));dsimp only;have e1:((x.bs.len:Nat):Int)=((W.B.length:Nat):Int):=by omega
 rw[e1];refine zwt W.B.length (by omega) rfl fun b=>?_;refine z0h (z06 (z1x 1 rfl (by simp[z8w]) rfl ?_));dsimp only[sel,rem,nth,del,cat,upd];refine z3c 0 (B:=z07 ⟨some ⟨b,0⟩,W.B.length⟩ 1 (z5f (List.replicate W.B.length false))) rfl (fun q hq =>.mk (by simp[z5f]) (by rw[z9b]at hq;simpa[z5f]using hq)) ?_;dsimp only[sel,rem,nth,del,cat,upd];refine z03 [1,1,1,1,1,1,0] fun q hq=>?_;rw[z0v];exact z1e (W:=W.clean) (x:={x with ds:=⟨some ⟨b,0⟩,W.B.length⟩}) hq
theorem zsu{σ α:Type}{F:(σ→M α)→σ→M α}(h:∀go,(∀v,RO (go v))→∀v,RO (F go v)):∀K v,RO (z0l K F v)
 | 0,v=>zcm
 | K+1,v=>h _ (zsu h K) v
theorem zii(ok:RWok g W)(hg:g.ok)(hN:5000<N):Tri (z00 [z1i w g W]) (F_0l N (some ⟨w,0⟩)) fun r=>pu (r=(W.D.countP id:Nat)) (z00 [z1i w g W]):=by
 have hgp:=hg.gp;have hB:g.B=g.G * g.P:=rfl;have k6:=ok.dl;unfold F_0l;refine z38 0 rfl fun x=>?_;dsimp only[sel,rem,nth,del,cat,upd];refine z0a 6 rfl fun l6=>?_;have n6:=l6;rw[z5v]at n6;have loop:∀(K k:Nat),W.D.length - k<K→k≤W.D.length→Tri (z00 (refL w g W x)) (z0l K (F_24 N (some ⟨w,0⟩)) (((W.D.take k).countP id:Nat),(k:Int))) fun r=>pu (r=(W.D.countP id:Nat)) (z00 (refL w g W x)):=by
  intro K;induction K with
  | zero=>intro k h;omega
  | succ K ih=>
   intro k h hk;rw[z16];generalize z0l K (F_24 N (some ⟨w,0⟩))=go at ih ⊢;unfold F_24;refine z0h (z06 (z0z 0 rfl rfl ?_));by_cases hkl:k<W.D.length
   ·refine z08 (by simp;omega) ?_;refine z0h (z06 (z0z 0 rfl rfl ?_));refine z153 6 rfl (z0e l6) (i:=k) (v:=W.D[k]) (by simp[z5f,hkl]) ?_;have hle:=List.countP_le_length (p:=id) (l:=W.D.take k);rw[List.length_take]at hle;have e:(W.D.take (k+1)).countP id=(W.D.take k).countP id+if W.D[k]=true then 1 else 0:=by
     rw[List.take_succ_eq_append_getElem hkl,List.countP_append,List.countP_singleton];rfl
    refine z02 [0,0,0,0,0,0,0] (Q:=fun r:Int=>pu (r=((W.D.take (k+1)).countP id:Nat)) (z00 (refL w g W x))) ?_ fun j=>z04 fun hj=>z01 ?_
    ·rw[e];cases hb:W.D[k]with
     | true=>exact z08 rfl (z03 [0,0,0,0,0,0,0] fun q hq=>⟨by rw[if_pos rfl,z0f (by omega) (by omega)];omega,hq⟩)
     | false=>exact z05 (by simp) (z03 [0,0,0,0,0,0,0] fun q hq=>⟨by simp,hq⟩)
    subst hj;dsimp only[sel,rem,nth,del,cat,upd];rw[z0f (n:=(k:Int)+1) (by omega) (by omega)];exact tri_last [0,0,0,0,0,0,0] (ih (k+1) (by omega) (by omega))
   ·obtain rfl:k=W.D.length:=by omega
    refine z05 (by simp;omega) (z03 [0,0,0,0,0,0,0] fun q hq=>⟨by rw[List.take_length],hq⟩)
 refine z02 [0,0,0,0,0,0,0] (loop N 0 (by omega) (by omega)) fun j=>z04 fun hj=>z01 (z03 [0,0,0,0,0,0,0] fun q hq=>⟨hj,?_⟩);rw[z0v];exact z1e hq
theorem zn3(p:Option MA):RO (F_0l N p):=by
 unfold F_0l;refine z2p (zsu (fun go hgo v=>?_) _ _) fun _=>z3e _;unfold F_24;exact z2p (z8e _) fun _=>z2p (zbq _ _) fun _=>z2p (zl0 _ _) fun _=>zlo (z2p (z8e _) fun _=>z2p (zbq _ _) fun _=>z2p (zl0 _ _) fun _=>z2p (zwz _ _ _) fun _=>z2p (z14t _) fun _=>z2p (zlo (z3e _) (z3e _)) fun _=>hgo _) (z3e _)
theorem zpx{α γ:Type}(a:α)(f:α→M γ):bd (ret a) f=f a:=rfl
theorem zwu(hN:5000<N):F_1o N ((130:Nat):Int)=ret ((roomN 130:Nat):Int):=by
 have key:∀r:Nat,r≤130→((r+1)+((r+1 - 1) / 15)+1≤129↔r<roomN 130):=by decide +kernel
 have loop:∀(K r:Nat),131 - r<K→r≤roomN 130→z0l K (F_3r N ((130:Nat):Int)) (r:Int)=ret ((roomN 130:Nat):Int):=by
  intro K;induction K with
  | zero=>intro r h;omega
  | succ K ih=>
   intro r h hr;have h130:roomN 130≤130:=by decide
   rw[z16];generalize z0l K (F_3r N ((130:Nat):Int))=go at ih ⊢;unfold F_3r;have hk:=key r (by omega);have e1:F_2y N (wr .i64 ((r:Int)+1))=ret (((r+1)+((r+1 - 1) / 15)+1:Nat):Int):=by
    rw[z0f (by omega) (by omega)];unfold F_2y;rw[if_neg (by simp;omega),z0f (n:=(r:Int)+1 - 1) (by omega) (by omega),show((r:Int)+1 - 1).tdiv 15=((r / 15:Nat):Int) by rw[show(r:Int)+1 - 1=(r:Int) by omega];rfl,z0f (n:=((r / 15:Nat):Int)) (by omega) (by omega),z0f (n:=(r:Int)+1+((r / 15:Nat):Int)) (by omega) (by omega),z0f (n:=(r:Int)+1+((r / 15:Nat):Int)+1) (by omega) (by omega)];congr 1
   have h131:roomN 130<130:=by decide
   rw[if_pos (decide_eq_true (by omega)),e1,zpx,zpx];rw[z0f (n:=((130:Nat):Int) - 1) (by omega) (by omega)];by_cases hr2:r<roomN 130
   ·have:=hk.2 hr2
    rw[if_pos (by simp;omega),z0f (by omega) (by omega)];exact ih (r+1) (by omega) (by omega)
   ·have:¬((r+1)+((r+1 - 1) / 15)+1≤129):=fun c=>hr2 (hk.1 c)
    rw[if_neg (by simp;omega)];have:r=roomN 130:=by omega
    rw[this]
 unfold F_1o;rw[show((0:Int))=((0:Nat):Int)from rfl,loop N 0 (by omega) (by omega)];rfl
end
end Go.Moat

/- Layer 15: is a volume as the document's? It is asked. -/
namespace Go.Moat
open Go.Mini
section
variable{N:Nat}{β:Type}{l:List HA}{S:β→HA}{T:HA}{v d w:Nat}{g:Geo}{W:RefS}{m:M β}{V:VolS}
theorem zyl(hg:g.ok):F_0v N g.t=ret (g.M:Int):=by
 have hI:=hg.i2;have e:=zkv (N:=N) hg;unfold F_0v;rw[show F_0u N (g.t.1,g.t.2.1,g.t.2.2.1,g.t.2.2.2)=ret true from e,zpx,if_neg (by simp)];congr 1;show wr .i64 (3+wr .i64 ((g.I:Int).tdiv 2))=_;have hM:g.M=3+g.I / 2:=rfl;rw[show(g.I:Int).tdiv 2=((g.I / 2:Nat):Int)from rfl,z0f (n:=((g.I / 2:Nat):Int)) (by omega) (by omega),z0f (by omega) (by omega),hM];omega
theorem zs2(hg:g.ok)(hJ:g.J=130)(ok:RWok g W)(hN:5000<N):Tri (z00 [z1i w g W]) (F_2z N (some ⟨w,0⟩)) fun r=>pu (r=decide ((roomN g.J:Int) - g.M - 80<(W.D.countP id:Nat))) (z00 [z1i w g W]):=by
 have hI:=hg.i2;have hM:g.M=3+g.I / 2:=rfl;have hr:roomN g.J≤g.J:=by unfold roomN;omega
 unfold F_2z;rw[frz_ro (zn3 _)];refine z02 [0] (zii ok hg hN) fun r2=>z04 fun h2=>z01 ?_;subst h2;dsimp only[sel,rem,nth,del,cat,upd];refine z38 0 rfl fun x=>?_;dsimp only[sel,rem,nth,del,cat,upd];refine z0h (z06 (z06 (z29 0 rfl (v:=(g.J:Int)) rfl ?_)));have e1:frz (F_1o N (g.J:Int))=ret ((roomN g.J:Nat):Int):=by
  rw[hJ,zwu hN];exact frz_ro (z3e _)
 rw[e1];refine z0r ?_;refine z0h (z06 (z66 0 rfl (ts:=[.int .i64,.int .i64,.int .i64,.int .i64]) (x:=g.t) (by simp[z8w]) rfl ?_));have e2:frz (F_0v N (g.t.1,g.t.2.1,g.t.2.2.1,g.t.2.2.2))=ret (g.M:Int):=by
  rw[show F_0v N (g.t.1,g.t.2.1,g.t.2.2.1,g.t.2.2.2)=ret (g.M:Int)from zyl hg];exact frz_ro (z3e _)
 rw[e2];refine z0r ?_;refine z03 [0,0,0,0,0,0,0] fun q hq=>⟨?_,?_⟩
 ·rw[z0f (n:=((roomN g.J:Nat):Int) - (g.M:Int)) (by omega) (by omega),z0f (by omega) (by omega)]
 ·rw[z0v];exact z1e hq
theorem zlq:∀(n:Nat)(ks:List Int),ks.Nodup→(∀k∈ks,0≤k∧k<n)→(List.range n).countP (fun b:Nat=>decide ((b:Int)∈ks))=ks.length
 | 0,ks,_,h=>by
  cases ks with
  | nil=>rfl
  | cons a ks=>
   have:=h a (List.mem_cons_self ..)
   omega
 | n+1,ks,hn,h=>by
  rw[List.range_succ,List.countP_append,List.countP_singleton];have ih:=zlq n (ks.erase (n:Int)) (hn.erase _) fun x hx=>by
   obtain⟨h1,h2⟩:=hn.mem_erase_iff.1 hx;have:=h x h2
   omega
  have e:(List.range n).countP (fun b:Nat=>decide ((b:Int)∈ks.erase (n:Int)))=(List.range n).countP (fun b:Nat=>decide ((b:Int)∈ks)):=by
   refine List.countP_congr fun b hb=>?_;have:=List.mem_range.1 hb
   rw[decide_eq_true_iff,decide_eq_true_iff,hn.mem_erase_iff];constructor
   ·exact fun h=>h.2
   ·exact fun h=>⟨by omega,h⟩
  rw[e]at ih;rw[ih];by_cases hm:(n:Int)∈ks
  ·rw[if_pos (by simpa using hm),List.length_erase_of_mem hm];have:0<ks.length:=List.length_pos_of_mem hm
   omega
  ·rw[if_neg (by simpa using hm),List.erase_of_not_mem hm];rfl
theorem zs3{α:Type}{L:List (Int×α)}{k:Int}:(z3i L k).isSome=decide (k∈L.map (·.1)):=by
 cases hx:z3i L k with
 | some x=>
  have:=List.mem_map_of_mem (f:=(·.1)) (zau hx)
  rw[decide_eq_true this];rfl
 | none=>
  have:¬k∈L.map (·.1):=fun c=>by
   obtain⟨x,h⟩:=zhd c;rw[hx]at h;cases h
  rw[decide_eq_false this];rfl
theorem zlr(h:Like g V W)(hn:(V.n.dirty.map (·.1)).Nodup):W.D.countP id=V.n.dirty.length:=by
 have e:W.D=(List.range g.B).map fun b:Nat=>decide ((b:Int)∈V.n.dirty.map (·.1)):=by
  refine List.ext_getElem? fun i=>?_;by_cases hi:i<g.B
  ·rw[h.dt i hi,List.getElem?_map,List.getElem?_range hi,zs3];rfl
  ·rw[List.getElem?_eq_none (by rw[h.dl];omega),List.getElem?_eq_none (by simp;omega)]
 rw[e,List.countP_map];have:=zlq g.B (V.n.dirty.map (·.1)) hn fun k hk=>by
  obtain⟨x,hx,rfl⟩:=List.mem_map.1 hk;exact h.ok.key x hx
 rw[List.length_map]at this;rw[←this];rfl
theorem zs4{a b:Sl}{rs:List Row}(ok:RowsOk rs)(ha:RdC T a 2 (z0y rs))(hb:RdC T b 2 (z0y rs))(hN:100<N):Tri (z00 [T]) (F_3l N a b) fun r=>pu (r=true) (z00 [T]):=by
 have h1:=z6l ha;have h2:=z6l hb;have h16:=ok.len;unfold F_3l;refine z05 (by simp[h1,h2]) ?_;have loop:∀(K k:Nat),rs.length - k<K→k≤rs.length→Tri (z00 [T]) (z0l K (F_40 N a b) (k:Int)) fun r=>pu (r=.inl ()) (z00 [T]):=by
  intro K;induction K with
  | zero=>intro k h;omega
  | succ K ih=>
   intro k h hk;rw[z16];generalize z0l K (F_40 N a b)=go at ih ⊢;unfold F_40;by_cases hkl:k<rs.length
   ·refine z08 (by simp;omega) ?_;refine zco 0 rfl ha hkl (zco 0 rfl hb hkl ?_);refine z05 (by simp) ?_;rw[z0f (n:=(k:Int)+1) (by omega) (by omega)];exact ih (k+1) (by omega) (by omega)
   ·exact z05 (by simp;omega) (z03 [0] fun q hq=>⟨rfl,hq⟩)
 refine z02 [0] (loop N 0 (by omega) (by omega)) fun j=>z04 fun hj=>z01 ?_;subst hj;exact z03 [0] fun q hq=>⟨rfl,hq⟩
theorem eqNN(n:Ino):z6q [(0,.int .u8),(1,.int .u8),(2,.int .i64),(3,.int .i64),(4,.int .i64),(5,.int .i64),(6,.int .i64),(7,.int .i64),(8,.int .i64),(9,.int .i64),(10,.int .i64),(11,.int .i64),(12,.int .i64),(13,.int .i64)] (z0w n) (z0w n)=some true:=by
 obtain⟨k,r,xs,hx⟩:=n;match xs,hx with
 | [a,b,c,d,e,f,g,h,i,j,p,q],_=>
  simp[z0w,i64s,z6q,eqC]
theorem zs5(hg:g.ok){M0:MetaS}(ok:MetaOk g M0){a b:Sl×Sl×Sl×Sl}(ha:RdM T a M0)(hb:RdM T b M0)(hN:5000<N):Tri (z00 [T]) (F_3m N a b) fun r=>pu (r=true) (z00 [T]):=by
 have hI:=hg.i2;have hG:=hg.g2;have k2:=ok.ownl;have k4:=ok.inol;have a2:=ha.own.1;have b2:=hb.own.1;have a4:=ha.ino.1;have b4:=hb.ino.1;rw[z2t]at a2 b2;rw[z0o z0g]at a4 b4;unfold F_3m;refine z02 [0] (zs4 ok.rows ha.rows hb.rows (by omega)) fun r3=>z04 fun h3=>z01 ?_;subst h3;dsimp only[sel,rem,nth,del,cat,upd];refine z02 [0] (Q:=fun c=>pu (c=false) (z00 [T])) ?_ fun c6=>z04 fun h6=>z01 ?_
 ·refine z08 (by simp;omega) ?_;refine z4k 0 rfl ha.used (z4k 0 rfl hb.used ?_);exact z03 [0] fun q hq=>⟨by simp,hq⟩
 subst h6;dsimp only[sel,rem,nth,del,cat,upd];refine z05 (by simp;omega) ?_;have loop1:∀(K k:Nat),M0.own.length - k<K→k≤M0.own.length→Tri (z00 [T]) (z0l K (F_41 N a b) (k:Int)) fun r=>pu (r=.inl ()) (z00 [T]):=by
  intro K;induction K with
  | zero=>intro k h;omega
  | succ K ih=>
   intro k h hk;rw[z16];generalize z0l K (F_41 N a b)=go at ih ⊢;unfold F_41;by_cases hkl:k<M0.own.length
   ·refine z08 (by simp;omega) ?_;refine tri_rI 0 rfl ha.own (i:=k) (v:=((M0.own[k]:Nat):Int)) (by simp[i64s,hkl]) ?_;refine tri_rI 0 rfl hb.own (i:=k) (v:=((M0.own[k]:Nat):Int)) (by simp[i64s,hkl]) ?_;refine z05 (by simp) ?_;rw[z0f (n:=(k:Int)+1) (by omega) (by omega)];exact ih (k+1) (by omega) (by omega)
   ·exact z05 (by simp;omega) (z03 [0] fun q hq=>⟨rfl,hq⟩)
 have loop2:∀(K k:Nat),M0.ino.length - k<K→k≤M0.ino.length→Tri (z00 [T]) (z0l K (F_42 N a b) (k:Int)) fun r=>pu (r=.inl ()) (z00 [T]):=by
  intro K;induction K with
  | zero=>intro k h;omega
  | succ K ih=>
   intro k h hk;rw[z16];generalize z0l K (F_42 N a b)=go at ih ⊢;unfold F_42;by_cases hkl:k<M0.ino.length
   ·refine z08 (by simp;omega) ?_;refine z5n 0 rfl ha.ino hkl (z5n 0 rfl hb.ino hkl ?_);rw[eqNN];show Tri _ (if(!true)=true then ret (Sum.inr false)else go (wr .i64 ((k:Int)+1))) _;rw[if_neg (by simp),z0f (n:=(k:Int)+1) (by omega) (by omega)];exact ih (k+1) (by omega) (by omega)
   ·exact z05 (by simp;omega) (z03 [0] fun q hq=>⟨rfl,hq⟩)
 refine z02 [0] (loop1 N 0 (by omega) (by omega)) fun j=>z04 fun hj=>z01 ?_;subst hj;dsimp only[sel,rem,nth,del,cat,upd];refine z02 [0] (loop2 N 0 (by omega) (by omega)) fun j=>z04 fun hj=>z01 ?_;subst hj;exact z03 [0] fun q hq=>⟨rfl,hq⟩
theorem z115(n:Nat)(hl:l[n]? = some T){k o:Nat}{cs:List MV}(hr:RdC T ⟨some ⟨v,0⟩,k⟩ 1 cs){ts:List CTy}(ho:o+ts.length≤k){x:HC ts}(hx:HC.dec ts ((cs.drop o).take ts.length)=some x){f:HC ts→M β}(kk:Tri (z00 l) (f x) S):Tri (z00 l) (bd (z3a ts (some ⟨v,o⟩)) f) S:=by
 refine z5d n hl (fun h q hq hh=>?_) kk;rcases hr.2 h q hq hh with⟨h1,_⟩ | ⟨a',r,ro,h1,h2,h3,h4⟩
 ·cases h1
 ·cases h1;dsimp only at h3 h4;rw[←h4,List.drop_zero,Nat.mul_one,List.drop_take,List.take_take,Nat.min_eq_left (by omega)]at hx;unfold z3a;simp only[bd,zbv h2 (show o+ts.length≤r.length by omega),hx];rfl
theorem z13c(hg:g.ok){M0:MetaS}(ok:MetaOk g M0){x:VC}(hv:RdC T ⟨some ⟨v,0⟩,21⟩ 1 (z2j g x))(hm:RdM T (x.rows,x.own,x.used,x.ino) M0):Tri (z00 [T]) (F_3k N (some ⟨v,0⟩)) fun r=>z00 [z00 [z07 r.1 2 (z0y M0.rows),z07 r.2.1 1 (z2g M0.own),z07 r.2.2.1 1 (bytesOf M0.used),z07 r.2.2.2 14 (z1t M0.ino)],T]:=by
 unfold F_3k;refine z05 (by simp) ?_;refine z0h (z06 (z06 ?_));refine z115 0 rfl hv (ts:=[.sl 2,.sl 1,.sl 1,.sl 14]) (x:=(x.rows,x.own,x.used,x.ino)) (by simp) rfl ?_;refine z02 [0] (zln (m:=(x.rows,x.own,x.used,x.ino)) hg ok hm) fun r6=>z01 ?_;dsimp only[sel,rem,nth,del,cat,upd];refine z4m [0,0,0,0] ?_;dsimp only[sel,rem,nth,del,cat,upd];exact z03 [0,0] fun q hq=>hq
theorem z116{α:Type}{m:M α}{φ:α→Prop}(k:∀q0,T q0→Tri (z00 [fun q=>q=q0]) m fun r=>pu (φ r) (z00 [fun q=>q=q0])):Tri (z00 [T]) (frz m) fun r=>pu (φ r) (z00 [T]):=by
 refine(zjm (Q:=fun r=>pu (φ r) emp) fun q0 hq0=>(k q0 hq0).post fun r q hq=>z2r (fun q h=>⟨hq.1,h⟩) hq.2).post fun r q hq=>?_;obtain⟨q1,q2,⟨h1,h2⟩,h3,d,e⟩:=hq;refine⟨h1,?_⟩;have:z1b emp (z00 [T]) q:=⟨q1,q2,h2,h3,d,e⟩
 rwa [z8h,z3n]at this
theorem RdM.pre{T':HA}{m:Sl×Sl×Sl×Sl}{M0:MetaS}(h:RdM T m M0)(k:∀q,T' q→T q):RdM T' m M0:=⟨h.rows.pre k,h.own.pre k,h.used.pre k,h.ino.pre k⟩
theorem z117:Tri (z00 [z18 v d g V]) (F_11 N (some ⟨v,0⟩)) fun r=>pu (r=((g.J:Int),(g.I:Int),(g.G:Int),(g.P:Int))) (z00 [z18 v d g V]):=by
 unfold F_11;refine z05 (by simp) ?_;refine z2f 0 rfl fun y hy hd=>?_;dsimp only[sel,rem,nth,del,cat,upd,volL];refine z0h (z06 (z66 0 rfl (ts:=[.int .i64,.int .i64,.int .i64,.int .i64]) (x:=g.t) (by simp[z2j]) rfl ?_));exact z03 [0,0,0,0,0,0,0,0,0,0,0] fun q hq=>⟨rfl,z1p hy hd hq⟩
theorem z15a(p:Option MA):RO (F_11 N p):=by
 unfold F_11;exact zlo (z3e _) (z2p (z8e _) fun _=>z2p (zbq _ _) fun _=>z2p (z2p (z14s _ _) fun _=>zbp _) fun _=>z3e _)
theorem zv5(hg:g.ok)(h:Like g V W)(hN:5000<N):Tri (z00 [z18 v d g V,z1i w g W]) (F_3o N (some ⟨v,0⟩) (some ⟨w,0⟩)) fun r=>pu (r=true) (z00 [z18 v d g V,z1i w g W]):=by
 have hok:=h.ok.inv.ok;have hgp:=hg.gp;have hB:g.B=g.G * g.P:=rfl;have hbl:=h.bl;unfold F_3o;refine z7o 0 rfl (φ:=(V.n.dirty.map (·.1)).Nodup) (fun q h=>znp h) fun hnd=>?_;refine z2f 0 rfl fun y hy hd=>?_;dsimp only[sel,rem,nth,del,cat,upd,volL];refine z0a 1 rfl fun l1=>z0a 2 rfl fun l2=>z0a 3 rfl fun l3=>z0a 4 rfl fun l4=>?_;refine z4m [0,0,0,0,0] ?_;dsimp only[sel,rem,nth,del,cat,upd];have hv0:RdC (z00 [pts v (.cells (z2j g y.x) false),z07 y.x.rows 2 (z0y V.n.m.rows),z07 y.x.own 1 (z2g V.n.m.own),z07 y.x.used 1 (bytesOf V.n.m.used),z07 y.x.ino 14 (z1t V.n.m.ino)]) ⟨some ⟨v,0⟩,21⟩ 1 (z2j g y.x):=RdC.at 0 rfl (rd_pts0 (by simp[z2j]));have hm0:RdM (z00 [pts v (.cells (z2j g y.x) false),z07 y.x.rows 2 (z0y V.n.m.rows),z07 y.x.own 1 (z2g V.n.m.own),z07 y.x.used 1 (bytesOf V.n.m.used),z07 y.x.ino 14 (z1t V.n.m.ino)]) (y.x.rows,y.x.own,y.x.used,y.x.ino) V.n.m:=⟨RdC.at 1 rfl (z0e l1),RdC.at 2 rfl (z0e l2),RdC.at 3 rfl (z0e l3),RdC.at 4 rfl (z0e l4)⟩;refine z02 [0] (zjm (Q:=fun r=>z00 [z07 r.1 2 (z0y V.n.m.rows),z07 r.2.1 1 (z2g V.n.m.own),z07 r.2.2.1 1 (bytesOf V.n.m.used),z07 r.2.2.2 14 (z1t V.n.m.ino)]) fun q0 hq0=>z13c (N:=N) hg hok (hv0.pre fun q(hq:q=q0)=>by rw[hq];exact hq0) (hm0.pre fun q(hq:q=q0)=>by rw[hq];exact hq0)) fun r3=>z01 ?_;dsimp only[sel,rem,nth,del,cat,upd];refine z5u 1 rfl ?_;dsimp only[sel,rem,nth,del,cat,upd];refine z4m [0,0,0,0,0,1,1,1,1,1,1] ?_;dsimp only[sel,rem,nth,del,cat,upd];refine z3c 0 (B:=z18 v d g V) rfl (fun q hq=>by have:=z1p hy hd hq;rwa [z0v]at this) ?_;dsimp only[sel,rem,nth,del,cat,upd];refine z38 2 rfl fun x=>?_;dsimp only[sel,rem,nth,del,cat,upd];refine z0a 1 rfl fun n1=>z0a 2 rfl fun n2=>z0a 3 rfl fun n3=>z0a 4 rfl fun n4=>z0a 5 rfl fun n5=>?_;refine z0h (z06 (z66 0 rfl (ts:=[.sl 2,.sl 1,.sl 1,.sl 14]) (x:=(x.rows,x.own,x.used,x.ino)) (by simp[z8w]) rfl ?_));refine z5u 8 rfl ?_;dsimp only[sel,rem,nth,del,cat,upd];refine z0a 0 rfl fun o1=>z0a 1 rfl fun o2=>z0a 2 rfl fun o3=>z0a 3 rfl fun o4=>?_;rw[h.m]at n1 n2 n3 n4 ⊢;refine z4m [0,0,0,0,1,1,1,1] ?_;dsimp only[sel,rem,nth,del,cat,upd];have ha:RdM (z00 [z07 r3.1 2 (z0y V.n.m.rows),z07 r3.2.1 1 (z2g V.n.m.own),z07 r3.2.2.1 1 (bytesOf V.n.m.used),z07 r3.2.2.2 14 (z1t V.n.m.ino),z07 x.rows 2 (z0y V.n.m.rows),z07 x.own 1 (z2g V.n.m.own),z07 x.used 1 (bytesOf V.n.m.used),z07 x.ino 14 (z1t V.n.m.ino)]) (r3.1,r3.2.1,r3.2.2.1,r3.2.2.2) V.n.m:=⟨RdC.at 0 rfl (z0e o1),RdC.at 1 rfl (z0e o2),RdC.at 2 rfl (z0e o3),RdC.at 3 rfl (z0e o4)⟩;have hb:RdM (z00 [z07 r3.1 2 (z0y V.n.m.rows),z07 r3.2.1 1 (z2g V.n.m.own),z07 r3.2.2.1 1 (bytesOf V.n.m.used),z07 r3.2.2.2 14 (z1t V.n.m.ino),z07 x.rows 2 (z0y V.n.m.rows),z07 x.own 1 (z2g V.n.m.own),z07 x.used 1 (bytesOf V.n.m.used),z07 x.ino 14 (z1t V.n.m.ino)]) (x.rows,x.own,x.used,x.ino) V.n.m:=⟨RdC.at 4 rfl (z0e n1),RdC.at 5 rfl (z0e n2),RdC.at 6 rfl (z0e n3),RdC.at 7 rfl (z0e n4)⟩;refine z02 [0] (z116 fun q0 hq0=>zs5 (N:=N) hg hok (ha.pre fun q(hq:q=q0)=>by rw[hq];exact hq0) (hb.pre fun q(hq:q=q0)=>by rw[hq];exact hq0) hN) fun r7=>z04 fun h7=>z01 ?_;subst h7;dsimp only[sel,rem,nth,del,cat,upd];refine z5u 0 rfl ?_;dsimp only[sel,rem,nth,del,cat,upd];refine z4m [8,4,4,4,4,4,4] ?_;dsimp only[sel,rem,nth,del,cat,upd];refine z3c 0 (B:=z1i w g W) rfl (fun q hq=>by rw[←h.m]at hq;exact z1e hq) ?_;dsimp only[sel,rem,nth,del,cat,upd];refine z02 [5,0] (Q:=fun c=>pu (c=false) (z00 [z18 v d g V,z1i w g W])) ?_ fun c10=>z04 fun h10=>z01 ?_
 ·refine z08 rfl ?_;rw[frz_ro (zr1 _),frz_ro (zn3 _)];refine z02 [0] zlp fun r8=>z04 fun h8=>z01 ?_;subst h8;dsimp only[sel,rem,nth,del,cat,upd];refine z02 [1] (zii h.rok hg hN) fun r9=>z04 fun h9=>z01 ?_;subst h9;dsimp only[sel,rem,nth,del,cat,upd];exact z03 [1,0] fun q hq=>⟨by simp[zlr h hnd],hq⟩
 subst h10;dsimp only[sel,rem,nth,del,cat,upd];refine z02 [0,0] (Q:=fun c=>pu (c=false) (z00 [z18 v d g V,z1i w g W])) ?_ fun c15=>z04 fun h15=>z01 ?_
 ·refine z08 rfl ?_;rw[frz_ro (z15a _)];refine z02 [0] z117 fun r11=>z04 fun h11=>z01 ?_;subst h11;dsimp only[sel,rem,nth,del,cat,upd];refine z38 1 rfl fun x=>?_;dsimp only[sel,rem,nth,del,cat,upd];refine z0h (z06 (z66 0 rfl (ts:=[.int .i64,.int .i64,.int .i64,.int .i64]) (x:=g.t) (by simp[z8w]) rfl ?_));refine z03 [7,0,0,0,0,0,0,0] fun q hq=>⟨by simp[Geo.t],?_⟩;exact z1d (fun q h=>by rw[z0v];exact z1e (x:=x) h) hq
 subst h15;dsimp only[sel,rem,nth,del,cat,upd];refine z05 (by simp) ?_;refine z38 1 rfl fun x=>?_;dsimp only[sel,rem,nth,del,cat,upd];refine z0a 5 rfl fun n5=>?_;have n5':=n5;rw[z5i]at n5';refine z0h (z06 (z0z 0 rfl rfl ?_));have loop:∀(K k:Nat),g.B - k<K→k≤g.B→Tri (z00 [z18 v d g V,z00 (refL w g W x)]) (z0l K (F_43 N (some ⟨v,0⟩) (some ⟨w,0⟩) ⟨x.bs.p,x.bs.len⟩) (k:Int)) fun r=>pu (r=.inl ()) (z00 [z18 v d g V,z00 (refL w g W x)]):=by
  intro K;induction K with
  | zero=>intro k h;omega
  | succ K ih=>
   intro k hK hk;rw[z16];generalize z0l K (F_43 N (some ⟨v,0⟩) (some ⟨w,0⟩) ⟨x.bs.p,x.bs.len⟩)=go at ih ⊢;unfold F_43;by_cases hkl:k<g.B
   case neg=>exact z05 (by simp;omega) (z03 [0,0] fun q hq=>⟨rfl,hq⟩)
   refine z08 (by simp;omega) ?_;have hre:=h.ok.re k hkl;refine z02 [0] (zur (N:=N) hg (k:Int)) fun r21=>z04 fun h21=>z01 ?_;rw[hre]at h21;rw[if_pos hre];dsimp only[sel,rem,nth,del,cat,upd];refine z0a 1 rfl fun l21=>?_;refine z02 [0,0,0] (Q:=fun c=>pu (c=false) (z00 [z18 v d g V,z00 (refL w g W x)])) ?_ fun c28=>z04 fun h28=>z01 ?_
   ·refine z08 (by simp[h21]) ?_;refine z4k 1 rfl (z0e l21) ?_;refine z5u 2 rfl ?_;dsimp only[sel,rem,nth,del,cat,upd];refine z0h (z06 (z0z 0 rfl rfl ?_));have hkb:k<W.B.length:=by omega
    refine z152 5 rfl (s:=⟨x.bs.p,x.bs.len⟩) (z0e n5) (i:=k) (v:=W.B[k]) (by simp[z8k,hkb]) ?_;have hr:=h.rd k hkl;rw[List.getElem?_eq_getElem hkb]at hr;refine z4m [0,0,0,0,0,0,0] ?_;dsimp only[sel,rem,nth,del,cat,upd];exact z03 [1,0] fun q hq=>⟨by rw[Option.some.inj hr];simp,hq⟩
   subst h28;dsimp only[sel,rem,nth,del,cat,upd];refine z05 (by simp) ?_;rw[z0f (n:=(k:Int)+1) (by omega) (by omega)];exact tri_last [0,0] (ih (k+1) (by omega) (by omega))
 refine z4m [0,0,0,0,0,0,0] ?_;dsimp only[sel,rem,nth,del,cat,upd];refine z02 [1,0] (loop N 0 (by have:=hg.gp;omega) (by omega)) fun j=>z04 fun hj=>z01 ?_;subst hj;dsimp only[sel,rem,nth,del,cat,upd];refine z3c 1 (B:=z1i w g W) rfl (fun q h=>z1e (x:=x) h) ?_;dsimp only[sel,rem,nth,del,cat,upd];exact z03 [0,0] fun q hq=>⟨rfl,hq⟩
end
end Go.Moat

/- Layer 15: whatever is done, a volume is as the document's. -/
namespace Go.Moat
open Go.Mini
section
variable{N:Nat}{β:Type}{l:List HA}{S:β→HA}{T:HA}{v d w:Nat}{g:Geo}{W Ws:RefS}{m:M β}{V V':VolS}{acts:List ActS}{s:Sl}{i:Nat}
theorem Like.same{V1 V2:VolS}(h:Like g V1 W)(e:V2.n=V1.n)(e2:V2.disk=V1.disk):Like g V2 W:=by
 obtain⟨n1,d1,s1,f1,b1,x1⟩:=V1;obtain⟨n2,d2,s2,f2,b2,x2⟩:=V2;dsimp only at e e2;subst e e2;exact⟨h.ok.same rfl rfl,h.m,h.bl,h.dl,h.rd,h.dt⟩
structure SafeL(g:Geo)(V:VolS)(W:RefS):Prop where
 inv:Inv g W.m
 safe:V.safe=z2h W.m
 bl:W.B.length=g.B
 D:W.D=List.replicate g.B false
 blk:∀b,b<g.B→(V.disk.secs[g.blk+b]?).map (·.b)=W.B[b]?
 zero:∀b,b<g.B→z0s W.m.used b=false→W.B[b]? = some z14
theorem SafeL.rok(h:SafeL g V W):RWok g W:=⟨h.inv,h.bl,by rw[h.D,List.length_replicate]⟩
theorem SafeL.keeps(h:SafeL g V Ws)(e:V'.disk=V.disk)(e2:V'.safe=V.safe):SafeL g V' Ws:=⟨h.inv,by rw[e2];exact h.safe,h.bl,h.D,fun b hb=>by rw[e];exact h.blk b hb,h.zero⟩
def zr2(g:Geo)(V:VolS):Option NowS→Option RefS→Prop
 | none,none=>True
 | some n,some W=>Like g {V with n:=n} W
 | _,_=>False
structure PlayI(g:Geo)(V:VolS)(W Ws:RefS)(B:Option RefS)(i:Nat):Prop where
 inv:VInv g V i
 like:Like g V W
 safe:SafeL g V Ws
 bef:zr2 g V V.before B
theorem zr2.keeps{B:Option RefS}(h:zr2 g V V.before B)(e:V'.disk=V.disk)(e2:V'.before=V.before):zr2 g V' V'.before B:=by
 rw[e2];cases hb:V.before with
 | none=>cases B<;>first | trivial | (rw[hb]at h;exact h)
 | some n=>
  cases B with
  | none=>rw[hb]at h;exact h
  | some W=>
   rw[hb]at h;exact Like.same (V1:={V with n:=n}) h rfl e
theorem zhf(ok:RWok g W):RWok g W.clean:=⟨ok.inv,ok.bl,by show(List.replicate W.B.length false).length=_;rw[List.length_replicate];exact ok.bl⟩
theorem zno(h:Like g V W)(iv:VInv g V i)(hs:Synced g V V'):Like g V' W.clean∧SafeL g V' W.clean:=by
 have hga:g.all=g.blk+g.B:=rfl;have hl:=iv.len;have k:Like g V' W.clean:=by
  refine⟨(iv.synced hs).now,by rw[hs.n];exact h.m,h.bl,by show(List.replicate W.B.length false).length=_;rw[List.length_replicate];exact h.bl,fun b hb=>?_,fun b hb=>?_⟩
  ·rw[(zhh hs h.ok iv.ddead iv.len hb).2];exact h.rd b hb
  ·rw[hs.n];show(List.replicate W.B.length false)[b]? = _;rw[List.getElem?_replicate,if_pos (by rw[h.bl];exact hb)];rfl
 refine⟨k,by rw[show W.clean.m=W.m from rfl,h.m];exact h.ok.inv,by rw[hs.safe];show _=z2h W.m;rw[h.m],h.bl,by show List.replicate W.B.length false=_;rw[h.bl],fun b hb=>?_,fun b hb hz=>?_⟩
 ·have e:=k.rd b hb;rw[e,z6o hs.ddead (by rw[hs.len];omega)];unfold VolS.readB;rw[hs.n];show some (getS V'.disk ((g.blk+b:Nat):Int)).b=some (getS V'.disk ((g.blk:Int)+b)).b;rw[show((g.blk:Int)+b)=((g.blk+b:Nat):Int) by simp]
 ·rw[k.rd b hb,k.ok.zero b hb (by rw[hs.n];rw[show W.clean.m=W.m from rfl,h.m]at hz;exact hz)]
theorem PlayI.sync{B:Option RefS}(h:PlayI g V W Ws B i)(hs:Synced g V V'):PlayI g V' W.clean W.clean none (i+1):=by
 obtain⟨k1,k2⟩:=zno h.like h.inv hs;exact⟨h.inv.synced hs,k1,k2,by rw[hs.before];trivial⟩
theorem PlayI.does{B:Option RefS}(h:PlayI g V W Ws B i){W':RefS}(k:Keeps V V')(hl:Like g V' W'):PlayI g V' W' Ws B (i+1):=
 ⟨(h.inv.keeps k hl.ok).mono (by omega),hl,h.safe.keeps k.disk k.safe,h.bef.keeps k.disk k.before⟩
theorem PlayI.mono{B:Option RefS}(h:PlayI g V W Ws B i):PlayI g V W Ws B (i+1):=⟨h.inv.mono (by omega),h.like,h.safe,h.bef⟩
theorem PlayI.abort{B:Option RefS}(h:PlayI g V W Ws B i):PlayI g V.abort (B.getD W) Ws B (i+1):=by
 have hb:=h.bef;cases hv:V.before with
 | none=>
  have e:V.abort=V:=by unfold VolS.abort;rw[hv]
  rw[e];cases B with
  | none=>exact h.mono
  | some b=>rw[hv]at hb;exact hb.elim
 | some n=>
  have e:V.abort={V with n:=n}:=by unfold VolS.abort;rw[hv]
  cases B with
  | none=>rw[hv]at hb;exact hb.elim
  | some b=>
   have hi:=h.inv.abort;rw[e]at hi ⊢;rw[hv]at hb;refine⟨hi.mono (by omega),hb,h.safe.keeps rfl rfl,?_⟩;show zr2 g {V with n:=n} V.before (some b);rw[hv];exact Like.same (V1:={V with n:=n}) hb rfl rfl
theorem PlayI.begin{B:Option RefS}(h:PlayI g V W Ws B i)(hs:zi1 g V V'):(V.tight g=true→PlayI g V' W.clean W.clean (some W.clean) (i+1))∧(V.tight g≠true→PlayI g V' W Ws (some W) (i+1)):=by
 have hv:=h.inv.begun hs;unfold zi1 at hs;constructor
 ·intro ht;rw[if_pos ht]at hs;obtain⟨V1,h1,rfl⟩:=hs;obtain⟨k1,k2⟩:=zno h.like h.inv h1;exact⟨hv,k1.same rfl rfl,k2.keeps rfl rfl,k1.same rfl rfl⟩
 ·intro ht;rw[if_neg ht]at hs;subst hs;exact⟨hv,h.like.same rfl rfl,h.safe.keeps rfl rfl,h.like.same rfl rfl⟩
theorem PlayI.clean{B:Option RefS}(h:PlayI g V W Ws B i)(hg:g.ok):Clean g V.disk Ws.m V.seq:=by
 have hga:g.all=g.blk+g.B:=rfl;have hblk:g.blk=4+g.J+g.I / 2:=rfl;have hlab:g.lab=1+g.J:=rfl;have hgM:g.M=3+g.I / 2:=rfl;have hl:=h.inv.len;have hs:=h.inv.sup;refine⟨h.inv.ddead,hl,?_,h.inv.head,fun k hk=>?_⟩
 ·rw[z6o h.inv.ddead (i:=0) (by omega)]at hs;exact Option.some.inj hs
 ·have:=h.inv.known k hk
  rw[z6o h.inv.ddead (by omega),h.safe.safe]at this;exact this
theorem PlayI.mount{B:Option RefS}(h:PlayI g V W Ws B i)(hg:g.ok):PlayI g (z82 Ws.m V.disk V.seq) Ws Ws none (i+1):=by
 have hga:g.all=g.blk+g.B:=rfl;have hl:=h.inv.len;have iv:=h.inv;have sl:=h.safe;have hread:∀b:Nat,b<g.B→(z82 Ws.m V.disk V.seq).readE g b=0∧Ws.B[b]? = some ((z82 Ws.m V.disk V.seq).readB g b):=by
  intro b hb;have hlt:g.blk+b<V.disk.secs.length:=by omega
  constructor
  ·unfold VolS.readE;rw[if_pos (by omega)];show z75 V.disk ((g.blk:Int)+b)=0;rw[show((g.blk:Int)+b)=((g.blk+b:Nat):Int) by simp];exact z9x iv.ddead hlt
  ·rw[←sl.blk b hb,z6o iv.ddead hlt];show some (getS V.disk ((g.blk+b:Nat):Int)).b=some (getS V.disk ((g.blk:Int)+b)).b;rw[show((g.blk:Int)+b)=((g.blk+b:Nat):Int) by simp]
 have ok:VOk g (z82 Ws.m V.disk V.seq):=⟨sl.inv,fun b hb=>(hread b hb).1,(fun b hb hz=>by
  have h1:=(hread b hb).2;rw[sl.zero b hb hz]at h1;exact(Option.some.inj h1).symm),by simp[z82]⟩
 have d2:V.disk.done≤100000+16000 * ((i+1:Nat):Int):=by
  have:=iv.done.2
  omega
 have d3:V.seq≤i+1:=Nat.le_succ_of_le iv.seq;refine⟨⟨ok,(fun n hn=>by cases hn),rfl,iv.ddead,iv.fuse,iv.len,iv.n,?_,⟨iv.done.1,d2⟩,iv.waits,d3,?_,iv.sup,iv.head⟩,⟨ok,rfl,sl.bl,sl.rok.dl,fun b hb=>(hread b hb).2,fun b hb=>?_⟩,⟨sl.inv,rfl,sl.bl,sl.D,sl.blk,sl.zero⟩,trivial⟩
 ·show(z2h Ws.m).length=_;rw[←sl.safe];exact iv.safe
 ·intro k hk;show _=(z2h Ws.m)[k]?;rw[←sl.safe];exact iv.known k hk
 ·rw[sl.D,List.getElem?_replicate,if_pos hb];rfl
end
end Go.Moat

/- Layer 15: whatever acts there are, all answers are the document's. -/
namespace Go.Moat
open Go.Mini
structure PlS where
 (v w s:Nat)
 V:VolS
 (W Ws:RefS)
 B:Option (Nat×RefS)
def PlS.bp(x:PlS):Option MA:=x.B.map fun y=>⟨y.1,0⟩
def zmk(g:Geo):Option (Nat×RefS)→HA
 | none=>emp
 | some y=>z1i y.1 g y.2
def PlS.L(x:PlS)(d:Nat)(T:HA):List HA:=[z18 x.v d g6 x.V,z1i x.w g6 x.W,z1i x.s g6 x.Ws,zmk g6 x.B,T]
def PlS.Ok(x:PlS)(i:Nat):Prop:=PlayI g6 x.V x.W x.Ws (x.B.map (·.2)) i
def PlS.st(x:PlS):Option MA×Option MA×Option MA×Option MA:=(some ⟨x.v,0⟩,some ⟨x.w,0⟩,some ⟨x.s,0⟩,x.bp)
section
variable{N:Nat}{β:Type}{l:List HA}{S:β→HA}{T:HA}{v d w:Nat}{g:Geo}{W Ws:RefS}{m:M β}{V V':VolS}{acts:List ActS}{s:Sl}{i:Nat}
theorem zjo(k:Tri (z00 (emp::l)) m S):Tri (z00 l) m S:=k.pre fun q hq=>z2r (fun q h=>h) hq
theorem zym(hN:5000<N){r:Sl}{k v0:Nat}(hin:∀A∈acts,ActIn T A)(hf:FewOk T acts r k):∀(K i:Nat)(x:PlS),k - i<K→i≤k→x.Ok i →
  Tri (z00 (x.L d T)) (z0l K (F_44 N (some ⟨d,0⟩,some ⟨v0,0⟩,true) r) (some ⟨x.v,0⟩,some ⟨x.w,0⟩,some ⟨x.s,0⟩,x.bp,(i:Int))) fun j=>pu (j=.inl ()) (z00 []):=by
 intro K;induction K with
 | zero=>intro i x h;omega
 | succ K ih=>
  intro i x h hi hx;have hle:=hf.le;have hlen:=hf.len;have h100:=hf.k100;rw[z16];generalize z0l K (F_44 N (some ⟨d,0⟩,some ⟨v0,0⟩,true) r)=go at ih ⊢;unfold F_44;by_cases hik:i<k
  case neg=>exact z05 (by simp;omega) (z03 [] fun q hq=>⟨rfl,hq⟩)
  have hia:i<acts.length:=by omega
  have hit:i<(acts.take k).length:=by rw[List.length_take];omega
  have hA:=(hin _ (List.getElem_mem hia)).ok (hf.small i hia hik);have eA:(acts.take k)[i]=acts[i]:=by simp
  obtain⟨v,w,s,V,W,Ws,B⟩:=x;have hx:PlayI g6 V W Ws (B.map (·.2)) i:=hx;refine z08 (by simp;omega) ?_;show Tri (z00 [z18 v d g6 V,z1i w g6 W,z1i s g6 Ws,zmk g6 B,T]) _ _;refine zxc 4 rfl (hf.rd (by omega)) (i:=i) (by omega) ?_;rw[zcn z6u hit,eA,z158,if_pos ⟨z6u _,by rw[z6u];omega,zy5 _⟩];refine z0r ?_;rw[z10t];have g0:(z40 acts[i])[0]? = some (.int .u8 acts[i].k):=rfl;have g1:(z40 acts[i])[1]? = some (.int .i64 acts[i].at_):=rfl;rw[g0];refine z19 (z1s ?_);have e20:0+20≤(z40 acts[i]).length:=by rw[z6u];omega
  have t20:((z40 acts[i]).drop 0).take 20=z40 acts[i]:=by rw[List.drop_zero,List.take_of_length_le (by rw[z6u];omega)]
  refine z7o 0 rfl (φ:=(V.n.dirty.map (·.1)).Nodup) (fun q h=>znp h) fun hnd=>?_;have hsy:SyncIn g6 V:=hx.inv.sync (by omega) (by decide) hnd;have hrok:RWok g6 W:=hx.like.rok;refine z02 [0,0,0,0,0] (Q:=fun j=>exA fun y:PlS=>pu (j=.inl y.st∧y.Ok (i+1)) (z00 (y.L d T))) ?_ fun j44=>z1g fun y=>z04 fun hy=>z01 ?_
  ·by_cases c6:(decide (((acts[i].k:Nat):Int).tmod 13=6))=true
   ·refine z08 c6 ?_;refine z02 [1] (zs2 z43 rfl hrok hN) fun r15=>z04 fun h15=>z01 ?_;have et:r15=V.tight g6:=by rw[h15,zlr hx.like hnd];rfl
    by_cases ht:V.tight g6=true
    ·refine z02 [0,0,0,0,0] (Q:=fun j=>exA fun s':Nat=>pu (j=some ⟨s',0⟩) (z00 [z1i s' g6 W.clean,z1i w g6 W.clean,z18 v d g6 V,T])) ?_ fun j18=>z1g fun s'=>z04 fun h18=>z01 ?_
     ·refine z08 (by rw[et];exact ht) ?_;refine z02 [0] (zih hrok z43) fun _=>z01 ?_;dsimp only[sel,rem,nth,del,cat,upd];refine z02 [0] (z7l z43 (zhf hrok)) fun r17=>z1g fun s'=>z04 fun h17=>z01 ?_;subst h17;dsimp only[sel,rem,nth,del,cat,upd];exact z03 [0,0,0,2] fun q hq=>⟨s',rfl,hq⟩
     subst h18;dsimp only[sel,rem,nth,del,cat,upd];refine z02 [1] (z7l z43 (zhf hrok)) fun r19=>z1g fun b'=>z04 fun h19=>z01 ?_;subst h19;dsimp only[sel,rem,nth,del,cat,upd];refine z02 [3] (ziy z43 hsy hN) fun r20=>z1g fun V'=>z04 fun h20=>z01 ?_;dsimp only[sel,rem,nth,del,cat,upd];refine z05 (by simp[h20.1]) ?_;exact z03 [0,1,1,0,0] fun q hq=>⟨⟨v,w,s',V',W.clean,W.clean,some (b',W.clean)⟩,⟨rfl,(hx.begin h20.2).1 ht⟩,hq⟩
    ·refine z02 [0,0,0,0,0] (Q:=fun j=>pu (j=some ⟨s,0⟩) (z00 [z1i w g6 W,z18 v d g6 V,z1i s g6 Ws,T])) ?_ fun j18=>z04 fun h18=>z01 ?_
     ·refine z05 (by rw[et];exact ht) ?_;exact z03 [0,0,0,1] fun q hq=>⟨rfl,hq⟩
     subst h18;dsimp only[sel,rem,nth,del,cat,upd];refine z02 [0] (z7l z43 hrok) fun r19=>z1g fun b'=>z04 fun h19=>z01 ?_;subst h19;dsimp only[sel,rem,nth,del,cat,upd];refine z02 [2] (ziy z43 hsy hN) fun r20=>z1g fun V'=>z04 fun h20=>z01 ?_;dsimp only[sel,rem,nth,del,cat,upd];refine z05 (by simp[h20.1]) ?_;exact z03 [0,1,1,0,0] fun q hq=>⟨⟨v,w,s,V',W,Ws,some (b',W)⟩,⟨rfl,(hx.begin h20.2).2 ht⟩,hq⟩
   refine z05 c6 ?_;refine z02 [0,0,0,0,0] (Q:=fun j=>exA fun y:PlS=>pu (j=.inl y.st∧y.Ok (i+1)) (z00 (y.L d T))) ?_ fun j41=>z1g fun y=>z04 fun hy=>z01 (by rw[hy.1];exact z03 [0,0,0,0,0] fun q hq=>⟨y,⟨rfl,hy.2⟩,hq⟩);by_cases c7:(decide (((acts[i].k:Nat):Int).tmod 13=7))=true
   ·refine z08 c7 ?_;have hbm:∀n,V.before=some n→MetaOk g6 n.m:=fun n hn=>(hx.inv.bef n hn).inv.ok;refine z02 [0] (zv4 z43 hbm) fun _=>z01 ?_;have hab:=hx.abort;cases B with
    | none=>
     refine z02 [0,0,0,0,0] (Q:=fun j=>pu (j=some ⟨w,0⟩) (z00 [z18 v d g6 V.abort,z1i w g6 W,z1i s g6 Ws,zmk g6 none,T])) (z05 (by simp[PlS.bp]) (z03 [0,0,0,0,0] fun q hq=>⟨rfl,hq⟩)) fun j=>z04 fun hj=>z01 ?_;subst hj;exact z03 [0,0,0,0,0] fun q hq=>⟨⟨v,w,s,V.abort,W,Ws,none⟩,⟨rfl,hab⟩,hq⟩
    | some b=>
     obtain⟨b,Wb⟩:=b;have hlb:RWok g6 Wb:=by
      have hb:=hx.bef;cases hv:V.before with
      | none=>rw[hv]at hb;exact hb.elim
      | some n=>rw[hv]at hb;exact Like.rok hb
     refine z02 [0,0,0,0,0] (Q:=fun j=>exA fun w':Nat=>pu (j=some ⟨w',0⟩) (z00 [z1i w' g6 Wb,z1i b g6 Wb,z18 v d g6 V.abort,z1i s g6 Ws,T])) ?_ fun j=>z1g fun w'=>z04 fun hj=>z01 ?_
     ·refine z08 (by simp[PlS.bp]) ?_;refine z02 [3] (z7l z43 hlb) fun r22=>z1g fun w'=>z04 fun h22=>z01 ?_;subst h22;exact z03 [0,0,0,1,1] fun q hq=>⟨w',rfl,hq⟩
     subst hj;exact z03 [2,0,1,0,0] fun q hq=>⟨⟨v,w',s,V.abort,Wb,Ws,some (b,Wb)⟩,⟨rfl,hab⟩,hq⟩
   refine z05 c7 ?_;refine z02 [0,0,0,0,0] (Q:=fun j=>exA fun y:PlS=>pu (j=.inl y.st∧y.Ok (i+1)) (z00 (y.L d T))) ?_ fun j38=>z1g fun y=>z04 fun hy=>z01 (by rw[hy.1];exact z03 [0,0,0,0,0] fun q hq=>⟨y,⟨rfl,hy.2⟩,hq⟩);by_cases c8:(decide (((acts[i].k:Nat):Int).tmod 13=8))=true
   ·refine z08 c8 ?_;refine z02 [0] (znm z43 hsy hN) fun r24=>z1g fun V'=>z04 fun h24=>z01 ?_;dsimp only[sel,rem,nth,del,cat,upd];refine z05 (by simp[h24.1]) ?_;refine z02 [1] (zih hrok z43) fun _=>z01 ?_;dsimp only[sel,rem,nth,del,cat,upd];refine z02 [0] (z7l z43 (zhf hrok)) fun r26=>z1g fun s'=>z04 fun h26=>z01 ?_;subst h26;dsimp only[sel,rem,nth,del,cat,upd];exact zjo (z03 [3,2,1,0,2] fun q hq=>⟨⟨v,w,s',V',W.clean,W.clean,none⟩,⟨rfl,hx.sync h24.2⟩,hq⟩)
   refine z05 c8 ?_;refine z02 [0,0,0,0,0] (Q:=fun j=>exA fun y:PlS=>pu (j=.inl (some ⟨y.v,0⟩,some ⟨y.w,0⟩,y.bp)∧y.s=s∧y.Ok (i+1)) (z00 (y.L d T))) ?_ fun j35=>z1g fun y=>z04 fun hy=>z01 (by rw[hy.1];exact z03 [0,0,0,0,0] fun q hq=>⟨y,⟨by rw[←hy.2.1];rfl,hy.2.2⟩,hq⟩);by_cases c9:(decide (((acts[i].k:Nat):Int).tmod 13=9))=true
   ·refine z08 c9 ?_;refine z2f 0 rfl fun y hy hd=>?_;dsimp only[sel,rem,nth,del,cat,upd,volL];have inv:=hx.safe.inv;refine z02 [7] (zlh z43 zqp inv.ok inv.rf (inv.gr z43) (hx.clean z43) hN) fun r27=>z1g fun v'=>z04 fun h27=>z01 ?_;subst h27;dsimp only[sel,rem,nth,del,cat,upd];refine z05 (by simp) ?_;refine z02 [12] (z7l z43 hx.safe.rok) fun r28=>z1g fun w'=>z04 fun h28=>z01 ?_;subst h28;dsimp only[sel,rem,nth,del,cat,upd];exact zjo (z03 [3,1,1,0,12] fun q hq=>⟨⟨v',w',s,z82 Ws.m V.disk V.seq,Ws,Ws,none⟩,⟨rfl,rfl,hx.mount z43⟩,hq⟩)
   refine z05 c9 ?_;refine z02 [0,0,0,0,0] (Q:=fun j=>z00 [z18 v d g6 V,z1i w g6 W,z1i s g6 Ws,zmk g6 B,T]) ?_ fun j29=>z01 ?_
   ·split<;>exact z03 [0,0,0,0,0] fun q hq=>hq
   refine z02 [0,0,0,0,0] (Q:=fun j=>exA fun y:PlS=>pu (j=.inl ()∧(y.v=v∧y.w=w∧y.s=s∧y.bp=PlS.bp ⟨v,w,s,V,W,Ws,B⟩)∧y.Ok (i+1)) (z00 (y.L d T))) ?_ fun j32=>z1g fun y=>z04 fun hy=>z01 (by rw[hy.1];exact z03 [0,0,0,0,0] fun q hq=>⟨y,⟨by obtain⟨_,⟨h1,h2,h3,h4⟩,_⟩:=hy;rw[h1,h2,h4],hy.2.1.2.2.1,hy.2.2⟩,hq⟩);have hno:∀c:Bool,Tri (z00 [z18 v d g6 V,z1i w g6 W,z1i s g6 Ws,zmk g6 B,T]) (ret (Sum.inl ()):M (Unit⊕Bool)) fun j=>exA fun y:PlS=>pu (j=.inl ()∧(y.v=v∧y.w=w∧y.s=s∧y.bp=PlS.bp ⟨v,w,s,V,W,Ws,B⟩)∧y.Ok (i+1)) (z00 (y.L d T)):=fun _=>z03 [0,0,0,0,0] fun q hq=>⟨⟨v,w,s,V,W,Ws,B⟩,⟨rfl,⟨rfl,rfl,rfl,rfl⟩,hx.mono⟩,hq⟩;cases j29 with
   | true=>exact z08 rfl (hno true)
   | false=>
    refine z05 (by simp) ?_;rw[if_pos e20,t20];refine z0r ?_;refine z02 [0,0,2] (zyc z43 hN hx.like hA) fun r31=>z1g fun z=>z04 fun hz=>z01 ?_;obtain⟨V',W'⟩:=z;obtain⟨h31,hl,hk⟩:=hz;subst h31;dsimp only[sel,rem,nth,del,cat,upd];refine z05 (by simp) ?_;exact z03 [0,0,1,1,0] fun q hq=>⟨⟨v,w,s,V',W',Ws,B⟩,⟨rfl,⟨rfl,rfl,rfl,rfl⟩,hx.does hk hl⟩,hq⟩
  obtain⟨hj,hy⟩:=hy;obtain⟨v',w',s',V',W',Ws',B'⟩:=y;have hy:PlayI g6 V' W' Ws' (B'.map (·.2)) (i+1):=hy;subst hj;show Tri (z00 [z18 v' d g6 V',z1i w' g6 W',z1i s' g6 Ws',zmk g6 B',T]) _ _;rw[g1];dsimp only[PlS.st];refine z19 (z1s ?_);refine z02 [0] (zrr z43 hy.inv.now.inv.ok acts[i].at_) fun r49=>z04 fun h49=>z01 ?_;subst h49;rw[z7a];refine z6j (z19 (z1s ?_));dsimp only[sel,rem,nth,del,cat,upd];refine z02 [1] (zik z43 hy.like.rok acts[i].at_) fun r52=>z04 fun h52=>z01 ?_;subst h52;refine z6j (zbz (zbz ?_));have em:W'.m=V'.n.m:=hy.like.m;rw[em,eqNN];refine zby ?_;dsimp only[sel,rem,nth,del,cat,upd];refine z02 [1,0] (Q:=fun c=>pu (c=false) (z00 [z18 v' d g6 V',z1i w' g6 W'])) ?_ fun c57=>z04 fun h57=>z01 ?_
  ·refine z08 (by simp) ?_;refine z02 [0,0] (zv5 z43 hy.like hN) fun r56=>z04 fun h56=>z01 ?_;subst h56;exact z03 [0,0] fun q hq=>⟨rfl,hq⟩
  subst h57;dsimp only[sel,rem,nth,del,cat,upd];refine z05 (by simp) ?_;rw[z0f (n:=(i:Int)+1) (by omega) (by omega)];exact tri_last [0,0,0,0,0] (ih (i+1) ⟨v',w',s',V',W',Ws',B'⟩ (by omega) (by omega) hy)
theorem zyn(hN:5000<N)(hin:∀A∈acts,ActIn T A)(hr:acts≠[]→RdC T s 20 (z1n z40 acts))(hlen:s.len=acts.length):Tri (z00 [T]) (F_4k N s) fun r=>pu (r=true) emp:=by
 unfold F_4k;refine z02 [] (zuu hN) fun r2=>z04 fun h2=>z01 ?_;subst h2;dsimp only[sel,rem,nth,del,cat,upd];refine zl5 (a:=g6.t) (fun h=>rfl) ?_;refine z02 [] (zli (N:=N) z43 zqp hN) fun r4=>z1g fun x=>z04 fun h4=>z01 ?_;obtain⟨d,v⟩:=x;subst h4;dsimp only[sel,rem,nth,del,cat,upd];refine z05 (by simp) ?_;refine zl5 (a:=g6.t) (fun h=>rfl) ?_;refine z02 [] (zwv (N:=N) z43 hN) fun r6=>z1g fun w=>z04 fun h6=>z01 ?_;subst h6;dsimp only[sel,rem,nth,del,cat,upd];have hlk:=z110 z43;refine z02 [0] (z7l (N:=N) z43 hlk.rok) fun r7=>z1g fun s'=>z04 fun h7=>z01 ?_;subst h7;dsimp only[sel,rem,nth,del,cat,upd];refine z02 [3] (z10z hr hlen (by omega)) fun r8=>z1g fun k=>z04 fun h8=>z01 ?_;dsimp only[sel,rem,nth,del,cat,upd];have hp0:PlayI g6 (zc7 g6) (zdm g6) (zdm g6) none 0:=by
  have hv:=z118 z43 (by decide);refine⟨hv,hlk,⟨hlk.rok.inv,?_,hlk.bl,?_,fun b hb=>?_,fun b hb hz=>?_⟩,trivial⟩
  ·rfl
  ·rfl
  ·have e:=hlk.rd b hb;rw[e,z6o hv.ddead (by have:=hv.len;have hga:g6.all=g6.blk+g6.B:=rfl;omega)];show some (getS (zc7 g6).disk ((g6.blk+b:Nat):Int)).b=some (getS (zc7 g6).disk ((g6.blk:Int)+b)).b;rw[show((g6.blk:Int)+b)=((g6.blk+b:Nat):Int) by simp]
  ·show(List.replicate g6.B z14)[b]? = _;rw[List.getElem?_replicate,if_pos hb]
 refine zjo (z02 [4,3,2,0,0] (zym hN hin h8 N 0 ⟨v,w,s',zc7 g6,zdm g6,zdm g6,none⟩ (by have:=h8.k100;omega) (by omega) hp0) fun j=>z04 fun hj=>z01 ?_);subst hj;exact z03 [] fun q hq=>⟨rfl,hq⟩
end
end Go.Moat
