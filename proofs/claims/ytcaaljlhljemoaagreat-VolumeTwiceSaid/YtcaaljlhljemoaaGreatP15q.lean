/- The document's answer for layer 15: the rest of its volume. -/
import Derived.Test.YtcaaljlhljemoaaGreatP15n
namespace Go.Mini
section
variable{β:Type}{l:List HA}{S:β→HA}
def zud(s n:Nat):List HA:=(List.range' s n).map fun i=>pts i .dead
theorem zmt:∀(n s:Nat),z00 (zud s n) (fun c=>if s≤c∧c<s+n then some .dead else none)
 | 0,s=>by
  intro c;dsimp only;rw[if_neg (by omega)]
 | n+1,s=>by
  refine⟨fun c=>if c=s then some .dead else none,fun c=>if s+1≤c∧c<s+1+n then some .dead else none,fun c=>rfl,zmt n (s+1),fun c=>?_,?_⟩
  ·by_cases h:c=s
   ·right;dsimp only;rw[if_neg (by omega)]
   ·left;dsimp only;rw[if_neg h]
  ·funext c;unfold un;dsimp only;by_cases h:c=s
   ·rw[if_pos (by omega),if_pos h]
   ·rw[if_neg h];by_cases h2:s+1≤c∧c<s+1+n
    ·rw[if_pos (by omega),if_pos h2]
    ·rw[if_neg (by omega),if_neg h2]
theorem zf2(n:Nat):∀h:Hp,(h.holds n).size=h.size+n:=by
 induction n with
 | zero=>intro h;rfl
 | succ n ih=>
  intro h;show(Hp.holds n (h.push .dead)).size=_;rw[ih,Hp.size_push];omega
theorem zpw(n:Nat):∀(h:Hp)(c:Nat),(h.holds n).get c=if h.size≤c∧c<h.size+n then .dead else h.get c:=by
 induction n with
 | zero=>intro h c;rw[if_neg (by omega)];rfl
 | succ n ih=>
  intro h c;show(Hp.holds n (h.push .dead)).get c=_;rw[ih,Hp.size_push,Hp.get_push];by_cases h1:c=h.size
  ·rw[if_neg (by omega),if_pos h1,if_pos (by omega)]
  ·rw[if_neg h1];by_cases h2:h.size+1≤c∧c<h.size+1+n
   ·rw[if_pos h2,if_pos (by omega)]
   ·rw[if_neg h2,if_neg (by omega)]
theorem zx1(n:Nat){f:Nat→M β}(k:∀b,Tri (z00 (zud b n++l)) (f b) S):Tri (z00 l) (bd (z47 n) f) S:=by
 intro h q hq hh;have hq2:z00 (zud h.size n++l) (un (fun c=>if h.size≤c∧c<h.size+n then some .dead else none) q):=by
  rw[z3x];refine⟨_,_,zmt n h.size,hq,fun c=>?_,rfl⟩;dsimp only;by_cases hc:h.size≤c∧c<h.size+n
  ·right;cases hx:q c with
   | none=>rfl
   | some x=>have:=(hh c x hx).1;omega
  ·left;rw[if_neg hc]
 have hh2:Has (h.holds n) (un (fun c=>if h.size≤c∧c<h.size+n then some .dead else none) q):=by
  intro b x hx;unfold un at hx;dsimp only at hx;rw[zf2,zpw];by_cases hc:h.size≤b∧b<h.size+n
  ·rw[if_pos hc]at hx;cases hx;rw[if_pos hc];exact⟨by omega,rfl⟩
  ·rw[if_neg hc]at hx;rw[if_neg hc];have:=hh b x hx
   exact⟨by omega,this.2⟩
 obtain⟨a,h',q',e,h1,h2,h3,h4,h5⟩:=k h.size (h.holds n) _ hq2 hh2;rw[zf2]at h3;refine⟨a,h',q',e,h1,h2,by omega,fun b hb hqb=>?_,fun b hb=>?_⟩
 ·rw[h4 b (by rw[zf2];omega) (by unfold un;dsimp only;rw[if_neg (by omega)];exact hqb),zpw,if_neg (by omega)]
 ·rcases h5 b hb with h6 | h6
  ·by_cases hc:h.size≤b∧b<h.size+n
   ·right;omega
   ·left;unfold un at h6;dsimp only at h6;rw[if_neg hc]at h6;exact h6
  ·rw[zf2]at h6;right;omega
theorem zc6(n:Nat){b e by' k:Nat}{z:List MV}(hl:l[n]? = some (pts b .dead))(hk:k * by'≤most)(hz:z.length=e){f:Sl→M β}(kk:Tri (z00 (upd l n (pts b (.cells (z0q k z) false)))) (f ⟨some ⟨b,0⟩,k⟩) S):Tri (z00 l) (bd (z9w b e by' z (k:Int) (k:Int)) f) S:=by
 unfold z9w;rw[if_pos ⟨by omega,by omega,by exact_mod_cast hk,hz⟩];refine zkx n hl (fun h hb hg=>?_) kk;simp only[bd,z9v,hg,hb,if_true];rfl
end
end Go.Mini
namespace Go.Moat
open Go.Mini
def zj7(g:Geo):RefS:=⟨z4i g,List.replicate g.B z14,List.replicate g.B false⟩
section
variable{N:Nat}{β:Type}{l:List HA}{S:β→HA}{T:HA}{w:Nat}{g:Geo}{W:RefS}{m:M β}
theorem zue(hg:g.ok):F_2r N g.t=ret true:=by
 have hgp:=hg.gp;have h1:=hg.j1;have h2:=hg.j2;have h3:=hg.i1;have h4:=hg.i2;have h5:=hg.i3;have h6:=hg.g1;have h7:=hg.g2;have h8:=hg.p1;have h9:=hg.pp;have e:(g.I:Int).tmod 2=0:=by
  have:(g.I:Int).tmod 2=((g.I%2:Nat):Int):=rfl
  rw[this,h5];rfl
 have e2:(g.G:Int) * (g.P:Int)=((g.G * g.P:Nat):Int):=by simp
 unfold F_2r Geo.t;dsimp only;rw[e2,z0i (by omega) (by omega),e,if_neg (by simp;omega)];congr 1;simp;omega
theorem zmu(hg:g.ok)(hN:5000<N):Tri (z00 []) (F_1i N g.t) fun r=>exA fun w=>pu (r=some ⟨w,0⟩) (z00 [z2e w g (zj7 g)]):=by
 have hgp:=hg.gp;have hI:=hg.i2;have hG:=hg.g2;have hmost:most=70368744177664:=rfl;have hB0:g.B=g.G * g.P:=rfl;unfold F_1i F_3x;have e:=zue (N:=N) hg;unfold Geo.t at e ⊢;dsimp only;rw[e];rw[bd_bd];refine z0s ?_;rw[if_neg (by simp),bd_bd];refine zx1 4 fun b=>?_;rw[bd_bd];refine zc6 0 (k:=16) rfl (by omega) rfl ?_;rw[bd_bd];refine zc6 1 (k:=g.G) rfl (by omega) rfl ?_;rw[bd_bd];refine zc6 2 (k:=64) rfl (by omega) rfl ?_;rw[bd_bd];refine zc6 3 (k:=g.I) rfl (by omega) rfl ?_;refine z0s ?_;refine z0z fun w=>?_;have loop:∀(K k:Nat)(x:RC),g.B - k<K→k≤g.B→Tri (z00 (z5b w g ⟨z4i g,List.replicate k z14,List.replicate k false⟩ x)) (z0l K (F_4s N ((g.J:Int),(g.I:Int),(g.G:Int),(g.P:Int)) (some ⟨w,0⟩)) (k:Int)) fun _=>z00 [z2e w g (zj7 g)]:=by
  intro K;induction K with
  | zero=>intro k x h;omega
  | succ K ih=>
   intro k x h hk;have hB:g.B=g.G * g.P:=rfl;have e2:wr .i64 ((g.G:Int) * (g.P:Int))=(g.B:Int):=by
    rw[hB,show(g.G:Int) * (g.P:Int)=((g.G * g.P:Nat):Int) by simp,z0i (by omega) (by omega)]
   rw[z18];unfold F_4s;by_cases hkB:k<g.B
   ·refine z07 (by dsimp only;rw[e2];simp;omega) ?_;refine z0c 5 rfl fun h5=>z0c 6 rfl fun h6=>?_;rw[z7h,List.length_replicate]at h5;rw[z74,List.length_replicate]at h6;refine z0m (z06 (z16 0 rfl rfl ?_));refine z6z 64 (by omega) fun sb=>?_;refine z4t 0 rfl (bs:=z14) (rd_pts0 (k:=64) (by rw[z0e];rfl)) ?_;refine z0z fun b2=>?_;refine z02 [7,0] (z2y (s:=⟨x.bs.p,x.bs.len⟩) (by':=16) (T:=pts b2 (.cells [.str z14] false)) (rd_pts0 (by simp)) (by omega) rfl (by dsimp only;omega)) fun l12=>z01 ?_;dsimp only[sel,rem,nth,del,cat,upd];refine z0m (z06 (z1v 3 rfl (by simp[zfu]) rfl ?_));dsimp only[sel,rem,nth,del,cat,upd];refine z0m (z06 (z16 3 rfl (p:=x.ds.p) (ln:=x.ds.len) rfl ?_));refine z0z fun b3=>?_;refine z02 [9,0] (z2y (s:=⟨x.ds.p,x.ds.len⟩) (by':=1) (T:=pts b3 (.cells [.bool false] false)) (rd_pts0 (by simp)) (by omega) rfl (by dsimp only;omega)) fun l19=>z01 ?_;dsimp only[sel,rem,nth,del,cat,upd];refine z0m (z06 (z1v 5 rfl (by simp[zfu]) rfl ?_));dsimp only[sel,rem,nth,del,cat,upd];rw[z0i (n:=(k:Int)+1) (by omega) (by omega)];refine tri_last [5,5,5,5,5,2,0] (Tri.pre (ih (k+1) {x with bs:=l12,ds:=l19} (by omega) (by omega)) fun q hq=>?_);have e5:zay (List.replicate k z14)++[.str z14]=zay (List.replicate (k+1) z14):=by rw[List.replicate_succ'];simp[zay]
    have e6:z8p (List.replicate k false)++[.bool false]=z8p (List.replicate (k+1) false):=by rw[List.replicate_succ'];simp[z8p]
    show z00 (z5b w g ⟨z4i g,List.replicate (k+1) z14,List.replicate (k+1) false⟩ {x with bs:=l12,ds:=l19}) q;unfold z5b;dsimp only;rw[←e5,←e6];exact hq
   ·obtain rfl:k=g.B:=by omega
    refine z05 (by dsimp only;rw[e2];simp) (z1l fun q hq=>?_);rw[z0y];exact z1k (W:=zj7 g) hq
 refine tri_last [0,0,0,0,0] (Tri.pre (B:=z00 (z5b w g ⟨z4i g,List.replicate 0 z14,List.replicate 0 false⟩ ⟨⟨some ⟨b,0⟩,16⟩,⟨some ⟨b+1,0⟩,g.G⟩,⟨some ⟨b+2,0⟩,64⟩,⟨some ⟨b+3,0⟩,g.I⟩,⟨none,0⟩,⟨none,0⟩⟩)) ?_ fun q hq=>?_)
 ·refine z02 [0,0,0,0,0,0,0] (loop N 0 _ (by omega) (by omega)) fun _=>z01 (z03 [0] fun q hq=>⟨w,rfl,hq⟩)
 ·have c1:z0q 16 [MV.int .u16 (0:Int),MV.int .i64 (0:Int)]=z13 (List.replicate 16 (0,0)):=zqg z1c 16 (0,0);have c2:z0q g.G [MV.int .i64 (0:Int)]=z3i (List.replicate g.G 0):=by rw[zas];simp[z3i,i64s]
  have c4:z0q g.I ([MV.int .u8 (0:Int),MV.int .u8 (0:Int)]++z0q 12 [MV.int .i64 (0:Int)])=z2b (List.replicate g.I Ino.z):=by rw[z89];exact zqg z0h g.I Ino.z
  rw[c1,c2,c4,zio]at hq;have s1:z00 [pts w (.cells (zfu g ⟨⟨some ⟨b,0⟩,16⟩,⟨some ⟨b+1,0⟩,g.G⟩,⟨some ⟨b+2,0⟩,64⟩,⟨some ⟨b+3,0⟩,g.I⟩,⟨none,0⟩,⟨none,0⟩⟩) false),z08 ⟨some ⟨b,0⟩,16⟩ 2 (z13 (z4i g).rows),z08 ⟨some ⟨b+1,0⟩,g.G⟩ 1 (z3i (z4i g).own),z08 ⟨some ⟨b+2,0⟩,64⟩ 1 (bytesOf (z4i g).used),z08 ⟨some ⟨b+3,0⟩,g.I⟩ 14 (z2b (z4i g).ino)] q:=
   z54 (.cons (fun _ k=>k) (.cons (fun _ k =>.mk (by rw[z0p z1c];simp[z4i]) k) (.cons (fun _ k =>.mk (by rw[z34];simp[z4i]) k) (.cons (fun _ k =>.mk (by rw[z0e];simp[z4i,z14]) k) (.cons (fun _ k =>.mk (by rw[z0p z0h];simp[z4i]) k) .nil))))) q hq
  exact z1d (fun q=>z1d (fun q=>z1d (fun q=>z1d (fun q=>z1d fun q hq=>z2z (fun q h =>.nil 1 h) (z2z (fun q h =>.nil 1 h) hq))))) s1
theorem zij(hg:g.ok)(ok:RWok g W)(b:Int){s:Sl}{bs:List UInt8}(hr:RdC T s 1 (bytesOf bs))(hN:5000<N) :
  Tri (z00 [z2e w g W,T]) (F_1r N (some ⟨w,0⟩) b s) fun r=>pu (r=if bs.length=64 then W.m.usedE g b else 1) (z00 [z2e w g (if bs.length=64∧W.m.usedE g b=0 then W.write b.toNat bs else W),T]):=by
 have hlen:=z4o hr;have hul:=ok.inv.ok.usedl;have hbl:=ok.bl;have hdl:=ok.dl;have hgp:=hg.gp;have hB:g.B=g.G * g.P:=rfl;unfold F_1r;refine z58 0 rfl fun x=>?_;dsimp only[sel,rem,nth,del,cat,upd];refine z0c 5 rfl fun h5=>z0c 3 rfl fun h3=>z0c 6 rfl fun h6=>?_;rw[z7h]at h5;rw[z74]at h6;refine z02 [0,0,0,0,0,0,0] (Q:=fun c=>pu (c = !decide (0≤b∧b<g.B)) (z00 (z5b w g W x))) ?_ fun c=>z04 fun hc=>z01 ?_
 ·by_cases h0:0≤b
  ·refine z07 (by simp;omega) (z0m (z06 (z16 0 rfl rfl (z03 [0,0,0,0,0,0,0] fun q hq=>⟨?_,hq⟩))));dsimp only;by_cases hbb:b<g.B
   ·simp[h0,hbb];omega
   ·simp[hbb];omega
  ·exact z05 (by simp;omega) (z03 [0,0,0,0,0,0,0] fun q hq=>⟨by simp[h0],hq⟩)
 dsimp only[sel,rem,nth,del,cat,upd];by_cases hl64:bs.length=64
 case neg=>
  rw[if_neg hl64,if_neg (show ¬(bs.length=64∧W.m.usedE g b=0)from fun c=>hl64 c.1)];refine z07 (by simp;omega) (z03 [0,0,0,0,0,0,0,0] fun q hq=>⟨rfl,?_⟩);exact zar (z5b w g W x) (fun q h=>z1k h) hq
 rw[if_pos hl64];by_cases hin:0≤b∧b<g.B
 case neg=>
  have hE:W.m.usedE g b=1:=by unfold MetaS.usedE;rw[if_neg hin]
  refine z07 (by rw[hc];simp[hin]) (z03 [0,0,0,0,0,0,0,0] fun q hq=>⟨hE.symm,?_⟩);rw[hE,if_neg (show ¬(bs.length=64∧(1:Int)=0)from fun c=>by omega)];exact zar (z5b w g W x) (fun q h=>z1k h) hq
 refine z05 (by rw[hc,hlen,hl64];simp[hin]) ?_;obtain⟨k,rfl⟩:∃k:Nat,b=k:=⟨b.toNat,by omega⟩;have hk:k<g.B:=by omega
 rw[Int.toNat_natCast];refine z0m (z06 (z06 (z16 0 rfl rfl ?_)));refine z02 [3] (zcm (z0k h3) (by omega) k (by omega)) fun r11=>z04 fun h11=>z01 ?_;dsimp only[sel,rem,nth,del,cat,upd];cases hbit:z0r W.m.used k with
 | false=>
  have hE:W.m.usedE g k=2:=by unfold MetaS.usedE;rw[if_pos hin,Int.toNat_natCast,hbit];rfl
  refine z07 (by rw[h11,hbit];rfl) (z03 [1,1,1,0,0,0,0,0] fun q hq=>⟨hE.symm,?_⟩);rw[hE,if_neg (show ¬(bs.length=64∧(2:Int)=0)from fun c=>by omega)];exact zar (z5b w g W x) (fun q h=>z1k h) hq
 | true=>
 have hE:W.m.usedE g k=0:=by unfold MetaS.usedE;rw[if_pos hin,Int.toNat_natCast,hbit];rfl
 rw[hE,if_pos (show bs.length=64∧(0:Int)=0 from⟨hl64,rfl⟩)];refine z05 (by rw[h11,hbit];simp) ?_;refine z0m (z06 (z16 1 rfl rfl ?_));refine z4t 7 rfl hr ?_;refine zqt 5 rfl (by omega) ?_;dsimp only[sel,rem,nth,del,cat,upd];refine z0m (z06 (z16 1 rfl rfl ?_));refine zn9 6 rfl (by omega) ?_;dsimp only[sel,rem,nth,del,cat,upd];refine z03 [1,1,1,0,0,0,0,0] fun q hq=>⟨rfl,?_⟩;exact zar (z5b w g (W.write k bs) x) (fun q h=>z1k h) hq
theorem zkp(ok:RWok g W)(hg:g.ok)(i:Int):Tri (z00 [z2e w g W]) (F_1t N (some ⟨w,0⟩) i) fun r=>pu (r=W.m.hasE i) (z00 [z2e w g W]):=by
 have hil:=ok.inv.ok.inol;have hI:=hg.i2;unfold F_1t MetaS.hasE;refine z58 0 rfl fun x=>?_;dsimp only[sel,rem,nth,del,cat,upd];refine z0c 4 rfl fun h4=>?_;have h4':=h4;rw[z0p z0h]at h4';refine z02 [0,0,0,0,0,0,0] (Q:=fun c=>pu (c = !decide (0≤i∧i<W.m.ino.length)) (z00 (z5b w g W x))) ?_ fun c=>z04 fun hc=>z01 ?_
 ·by_cases h0:0≤i
  ·refine z07 (by simp;omega) (z0m (z06 (z06 (z16 0 rfl rfl (z03 [0,0,0,0,0,0,0] fun q hq=>⟨?_,hq⟩)))));dsimp only;by_cases hbb:i<W.m.ino.length
   ·simp[h0,hbb];omega
   ·simp[hbb];omega
  ·exact z05 (by simp;omega) (z03 [0,0,0,0,0,0,0] fun q hq=>⟨by simp[h0],hq⟩)
 dsimp only[sel,rem,nth,del,cat,upd];by_cases hin:0≤i∧i<W.m.ino.length
 case neg=>
  rw[if_neg hin];refine z07 (by rw[hc];simp[hin]) (z03 [0,0,0,0,0,0,0] fun q hq=>⟨rfl,?_⟩);rw[z0y];exact z1k hq
 rw[if_pos hin];refine z05 (by rw[hc];simp[hin]) ?_;obtain⟨k,rfl⟩:∃k:Nat,i=k:=⟨i.toNat,by omega⟩;have hk:k<W.m.ino.length:=by omega
 have hn:z4k W.m.ino k=W.m.ino[k]:=by simp[z4k,hk]
 rw[Int.toNat_natCast,hn];refine z0m (z06 (z06 (z16 0 rfl rfl ?_)));refine z1s 4 rfl (z0k h4) (i:=k) (o:=0) (by omega) (by omega) (v:=(W.m.ino[k].k:Nat)) (by rw[z2u z0h hk (by omega)];rfl) ?_;by_cases hz:W.m.ino[k].k=0
 ·rw[if_pos hz];refine z07 (by simp[hz]) (z03 [0,0,0,0,0,0,0] fun q hq=>⟨rfl,?_⟩);rw[z0y];exact z1k hq
 ·rw[if_neg hz];refine z05 (by simp;omega) (z03 [0,0,0,0,0,0,0] fun q hq=>⟨rfl,?_⟩);rw[z0y];exact z1k hq
theorem zpx(hg:g.ok)(ok:RWok g W)(i:Int)(hN:5000<N):Tri (z00 [z2e w g W]) (F_37 N (some ⟨w,0⟩) i) fun r=>pu (r=W.m.hasE i) (z00 [z2e w g (if W.m.hasE i=0 then W.wM (W.m.unmake i.toNat)else W)]):=by
 have hil:=ok.inv.ok.inol;have hI:=hg.i2;unfold F_37;refine z02 [0] (zkp ok hg i) fun r=>z04 fun h=>z01 ?_;subst h;dsimp only[sel,rem,nth,del,cat,upd];by_cases hE:W.m.hasE i=0
 case neg=>exact z07 (by simpa using hE) (z03 [0] fun q hq=>⟨rfl,by rw[if_neg hE];exact hq⟩)
 rw[if_pos hE];refine z05 (by simpa using hE) ?_;rw[hE];obtain⟨k,hk,rfl,hkk⟩:=z8a hE;rw[Int.toNat_natCast];have hn:z4k W.m.ino k=W.m.ino[k]:=by simp[z4k,hk]
 have hm:=List.getElem_mem hk;have hr:=(ok.inv.ok.inok _ hm).r;refine z58 0 rfl fun x=>?_;dsimp only[sel,rem,nth,del,cat,upd];refine z0c 4 rfl fun h4=>z0c 1 rfl fun h1=>?_;have h4':x.ino.len=W.m.ino.length:=by rw[z0p z0h]at h4;omega
 refine z0m (z06 (z06 (z16 0 rfl rfl ?_)));refine z0m (z06 (z06 (z16 0 rfl rfl ?_)));refine z1s 4 rfl (z0k h4) (i:=k) (o:=1) (by omega) (by omega) (v:=(W.m.ino[k].r:Nat)) (by rw[z2u z0h hk (by omega)];rfl) ?_;rw[z0i (by omega) (by omega)];refine z02 [1] (zg2 ok.inv.ok.rows (z0k h1) hr (ok.inv.rf.ino _ hm hkk) (by omega)) fun r15=>z04 fun h15=>z01 ?_;dsimp only[sel,rem,nth,del,cat,upd];refine z0m (z06 (z06 (z1v 2 rfl (by simp[zfu]) rfl ?_)));dsimp only[sel,rem,nth,del,cat,upd];refine z0m (z06 (z06 (z16 2 rfl (p:=x.ino.p) (ln:=x.ino.len) rfl ?_)));rw[z89];refine zaw 5 rfl hk ?_;dsimp only[sel,rem,nth,del,cat,upd];refine z03 [2,0,1,1,1,1,1] fun q hq=>⟨rfl,?_⟩;rw[z0y];have e:W.wM (W.m.unmake k)=W.wM {W.m with rows:=z7f W.m.rows W.m.ino[k].r,ino:=W.m.ino.set k Ino.z}:=by
  unfold MetaS.unmake;rw[hn]
 rw[e];exact z1k (x:={x with rows:=r15.1}) hq
theorem zrp(hg:g.ok)(ok:RWok g W)(i:Int):Tri (z00 [z2e w g W]) (F_38 N (some ⟨w,0⟩) i) fun r=>pu (r=(z0u (W.m.inodeN i),((W.m.inodeL i:Nat):Int),W.m.hasE i)) (z00 [z2e w g W]):=by
 have hil:=ok.inv.ok.inol;have hI:=hg.i2;unfold F_38 MetaS.inodeN MetaS.inodeL;refine z02 [0] (zkp ok hg i) fun r=>z04 fun h=>z01 ?_;subst h;dsimp only[sel,rem,nth,del,cat,upd];rw[z89];by_cases hE:W.m.hasE i=0
 case neg=>
  refine z07 (by simpa using hE) (zqh ?_);rw[if_neg hE,if_neg hE];exact z03 [0] fun q hq=>⟨rfl,hq⟩
 refine z05 (by simpa using hE) ?_;rw[if_pos hE,if_pos hE,hE];obtain⟨k,hk,rfl,hkk⟩:=z8a hE;rw[Int.toNat_natCast];have hn:z4k W.m.ino k=W.m.ino[k]:=by simp[z4k,hk]
 rw[hn];have hm:=List.getElem_mem hk;have hr:=(ok.inv.ok.inok _ hm).r;have hrl:W.m.ino[k].r<W.m.rows.length:=by rw[ok.inv.ok.rows.len];exact hr
 refine z4g fun _=>z58 0 rfl fun x=>?_;dsimp only[sel,rem,nth,del,cat,upd];refine z0c 4 rfl fun h4=>z0c 1 rfl fun h1=>?_;have h4':x.ino.len=W.m.ino.length:=by rw[z0p z0h]at h4;omega
 refine z0m (z06 (z06 (z16 0 rfl rfl ?_)));refine z8n 4 rfl (z0k h4) hk ?_;refine z0m (z06 (z06 (z16 0 rfl rfl ?_)));refine z0m (z06 (z06 (z16 0 rfl rfl ?_)));refine z1s 4 rfl (z0k h4) (i:=k) (o:=1) (by omega) (by omega) (v:=(W.m.ino[k].r:Nat)) (by rw[z2u z0h hk (by omega)];rfl) ?_;have h1':=h1;rw[z0p z1c]at h1';refine z1s 1 rfl (z0k h1) (i:=W.m.ino[k].r) (o:=0) (by omega) (by omega) (v:=(W.m.rows[W.m.ino[k].r].1:Nat)) (by rw[z2u z1c hrl (by omega)];rfl) ?_;refine zbr (zn3 ?_);refine z03 [0,0,0,0,0,0,0] fun q hq=>⟨?_,by rw[z0y];exact z1k hq⟩;simp[rowN,hrl]
end
end Go.Moat

/- The document's answer for layer 15: Set, Make, Alloc. -/
namespace Go.Moat
open Go.Mini
section
variable{N:Nat}{β:Type}{l:List HA}{S:β→HA}{T:HA}{w:Nat}{g:Geo}{W:RefS}{m:M β}
theorem zy7(hg:g.ok)(ok:RWok g W)(i:Int)(n:Ino)(hN:5000<N):Tri (z00 [z2e w g W]) (F_3c N (some ⟨w,0⟩) i (z0u n)) fun r=>pu (r=W.m.setE i n) (z00 [z2e w g (if W.m.setE i n=0 then W.wM (W.m.set i.toNat n)else W)]):=by
 have hil:=ok.inv.ok.inol;have hI:=hg.i2;have e14:0+14≤(z0u n).length:=by rw[z0h];omega
 have t14:((z0u n).drop 0).take 14=z0u n:=by rw[List.drop_zero,List.take_of_length_le (by rw[z0h];omega)]
 unfold F_3c;refine z58 0 rfl fun x=>?_;dsimp only[sel,rem,nth,del,cat,upd];refine z0c 4 rfl fun h4=>?_;have h4':=h4;rw[z0p z0h]at h4';refine z02 [0,0,0,0,0,0,0] (Q:=fun c=>pu (c = !decide (0≤i∧i<W.m.ino.length)) (z00 (z5b w g W x))) ?_ fun c=>z04 fun hc=>z01 ?_
 ·by_cases h0:0≤i
  ·refine z07 (by simp;omega) (z0m (z06 (z06 (z16 0 rfl rfl (z03 [0,0,0,0,0,0,0] fun q hq=>⟨?_,hq⟩)))));dsimp only;by_cases hbb:i<W.m.ino.length
   ·simp[h0,hbb];omega
   ·simp[hbb];omega
  ·exact z05 (by simp;omega) (z03 [0,0,0,0,0,0,0] fun q hq=>⟨by simp[h0],hq⟩)
 dsimp only[sel,rem,nth,del,cat,upd];refine z02 [0,0,0,0,0,0,0] (Q:=fun c=>pu (c=(!decide (0≤i∧i<W.m.ino.length) || !n.ok)) (z00 (z5b w g W x))) ?_ fun c2=>z04 fun hc2=>z01 ?_
 ·by_cases hin:0≤i∧i<W.m.ino.length
  ·refine z07 (by rw[hc];simp[hin]) ?_;rw[if_pos e14,t14];refine z0s ?_;rw[zqs (by omega)];refine z0s (z03 [0,0,0,0,0,0,0] fun q hq=>⟨by simp[hin],hq⟩)
  ·exact z05 (by rw[hc];simp[hin]) (z03 [0,0,0,0,0,0,0] fun q hq=>⟨by simp[hin],hq⟩)
 dsimp only[sel,rem,nth,del,cat,upd];refine z02 [0,0,0,0,0,0,0] (Q:=fun c=>pu (c=((!decide (0≤i∧i<W.m.ino.length) || !n.ok) || decide (n.k=0))) (z00 (z5b w g W x))) ?_ fun c3=>z04 fun hc3=>z01 ?_
 ·cases hb:(!decide (0≤i∧i<W.m.ino.length) || !n.ok)with
  | true=>exact z05 (by rw[hc2,hb];simp) (z03 [0,0,0,0,0,0,0] fun q hq=>⟨by simp,hq⟩)
  | false=>
   refine z07 (by rw[hc2,hb]) ?_;rw[zfo];refine z15 (z1t (z03 [0,0,0,0,0,0,0] fun q hq=>⟨?_,hq⟩));rw[Bool.false_or];congr 1;apply propext;omega
 dsimp only[sel,rem,nth,del,cat,upd];by_cases hin:0≤i∧i<W.m.ino.length
 case neg=>
  have hE:W.m.setE i n=1:=by unfold MetaS.setE MetaS.hasE;rw[if_neg hin,if_pos rfl]
  refine z07 (by rw[hc3];simp[hin]) (z03 [0,0,0,0,0,0,0] fun q hq=>⟨hE.symm,?_⟩);rw[hE,if_neg (by decide),z0y];exact z1k hq
 have h1:W.m.hasE i≠1:=by
  unfold MetaS.hasE;rw[if_pos hin];split<;>decide
 by_cases hok:n.ok=false∨n.k=0
 ·have hE:W.m.setE i n=1:=by unfold MetaS.setE;rw[if_neg h1,if_pos hok]
  refine z07 (by rw[hc3];rcases hok with h | h<;>simp[h]) (z03 [0,0,0,0,0,0,0] fun q hq=>⟨hE.symm,?_⟩);rw[hE,if_neg (by decide),z0y];exact z1k hq
 have hok':=hok;rw[not_or]at hok';have hok1:n.ok=true:=by simpa using hok'.1
 refine z05 (by rw[hc3];simp[hin,hok1,hok'.2]) ?_;obtain⟨k,rfl⟩:∃k:Nat,i=k:=⟨i.toNat,by omega⟩;have hk:k<W.m.ino.length:=by omega
 have hn:z4k W.m.ino k=W.m.ino[k]:=by simp[z4k,hk]
 rw[Int.toNat_natCast];have gk:(z2b W.m.ino)[k * 14+0]? = some (.int .u8 (W.m.ino[k].k:Nat)):=by rw[z2u z0h hk (by omega)];rfl
 have gr:(z2b W.m.ino)[k * 14+1]? = some (.int .u8 (W.m.ino[k].r:Nat)):=by rw[z2u z0h hk (by omega)];rfl
 refine z0m (z06 (z06 (z16 0 rfl rfl ?_)));refine z1s 4 rfl (z0k h4) (i:=k) (o:=0) (by omega) (by omega) gk ?_;have hhas:W.m.hasE k=if W.m.ino[k].k=0 then 2 else 0:=by
  unfold MetaS.hasE;rw[if_pos hin,Int.toNat_natCast,hn]
 refine z02 [0,0,0,0,0,0,0] (Q:=fun c=>pu (c=(!decide (W.m.ino[k].k=0)&&(!decide (n.k=W.m.ino[k].k) || !decide (n.r=W.m.ino[k].r)))) (z00 (z5b w g W x))) ?_ fun c4=>z04 fun hc4=>z01 ?_
 ·by_cases hz:W.m.ino[k].k=0
  ·exact z05 (by simp[hz]) (z03 [0,0,0,0,0,0,0] fun q hq=>⟨by simp[hz],hq⟩)
  ·refine z07 (by simp;omega) ?_;rw[zfo,zo1];refine z15 (z1t ?_);refine z0m (z06 (z06 (z16 0 rfl rfl ?_)));refine z1s 4 rfl (z0k h4) (i:=k) (o:=0) (by omega) (by omega) gk ?_;refine z02 [0,0,0,0,0,0,0] (Q:=fun c=>pu (c=(!decide (n.k=W.m.ino[k].k) || !decide (n.r=W.m.ino[k].r))) (z00 (z5b w g W x))) ?_ fun c5=>z04 fun hc5=>z01 (z03 [0,0,0,0,0,0,0] fun q hq=>⟨by rw[hc5];simp[hz],hq⟩);by_cases hkk:n.k=W.m.ino[k].k
   ·refine z07 (by simp[hkk]) (z15 (z1t ?_));refine z0m (z06 (z06 (z16 0 rfl rfl ?_)));refine z1s 4 rfl (z0k h4) (i:=k) (o:=1) (by omega) (by omega) gr ?_;refine z03 [0,0,0,0,0,0,0] fun q hq=>⟨?_,hq⟩;by_cases hrr:n.r=W.m.ino[k].r
    ·simp[hkk,hrr]
    ·simp[hkk,hrr];omega
   ·exact z05 (by simp;omega) (z03 [0,0,0,0,0,0,0] fun q hq=>⟨by simp[hkk],hq⟩)
 dsimp only[sel,rem,nth,del,cat,upd];by_cases hz:W.m.ino[k].k=0
 ·have hE:W.m.setE k n=2:=by unfold MetaS.setE;rw[if_neg h1,if_neg hok,hhas,if_pos hz];rfl
  refine z05 (by rw[hc4];simp[hz]) ?_;refine z0m (z06 (z06 (z16 0 rfl rfl ?_)));refine z1s 4 rfl (z0k h4) (i:=k) (o:=0) (by omega) (by omega) gk ?_;refine z07 (by simp[hz]) (z03 [0,0,0,0,0,0,0] fun q hq=>⟨hE.symm,?_⟩);rw[hE,if_neg (by decide),z0y];exact z1k hq
 ·by_cases hne:n.k≠W.m.ino[k].k∨n.r≠W.m.ino[k].r
  ·have hE:W.m.setE k n=1:=by unfold MetaS.setE;rw[if_neg h1,if_neg hok,hhas,if_neg hz,if_neg (by decide),Int.toNat_natCast,hn,if_pos hne]
   refine z07 (by rw[hc4];simp[hz];rcases hne with h | h<;>simp[h]) (z03 [0,0,0,0,0,0,0] fun q hq=>⟨hE.symm,?_⟩);rw[hE,if_neg (by decide),z0y];exact z1k hq
  ·have hE:W.m.setE k n=0:=by unfold MetaS.setE;rw[if_neg h1,if_neg hok,hhas,if_neg hz,if_neg (by decide),Int.toNat_natCast,hn,if_neg hne]
   rw[not_or]at hne;refine z05 (by rw[hc4,Classical.not_not.1 hne.1,Classical.not_not.1 hne.2];simp) ?_;refine z0m (z06 (z06 (z16 0 rfl rfl ?_)));refine z1s 4 rfl (z0k h4) (i:=k) (o:=0) (by omega) (by omega) gk ?_;refine z05 (by simp;omega) ?_;refine z0m (z06 (z06 (z16 0 rfl rfl ?_)));rw[if_pos e14,t14];refine z0s ?_;refine zaw 4 rfl hk ?_;refine z03 [0,0,0,0,0,0,0] fun q hq=>⟨hE.symm,?_⟩;rw[hE,if_pos rfl,z0y];exact z1k (W:=W.wM (W.m.set k n)) hq
theorem zux(hg:g.ok)(ok:RWok g W){kind a:Nat}(hk:kind<256)(ha:a<65536)(hN:5000<N):Tri (z00 [z2e w g W]) (F_35 N (some ⟨w,0⟩) (kind:Int) (a:Int)) fun r=>pu (r=(W.m.make kind a).1) (z00 [z2e w g (W.wM (W.m.make kind a).2)]):=by
 have hil:=ok.inv.ok.inol;have hI:=hg.i2;unfold F_35 MetaS.make;by_cases hkind:kind=1∨kind=2
 case neg=>
  rw[if_neg hkind];exact z07 (by simp;omega) (z03 [0] fun q hq=>⟨rfl,hq⟩)
 rw[if_pos hkind];refine z05 (by simp;omega) ?_;refine z58 0 rfl fun x=>?_;dsimp only[sel,rem,nth,del,cat,upd];refine z0c 1 rfl fun h1=>z0c 4 rfl fun h4=>?_;have h4':x.ino.len=W.m.ino.length:=by rw[z0p z0h]at h4;omega
 have loop:∀(K k:Nat),W.m.ino.length - k<K→k≤W.m.ino.length→(∀(i:Nat)(hi:i<W.m.ino.length),i<k→z4f W.m.ino[i]=false) →
   Tri (z00 (z5b w g W x)) (z0l K (F_58 N (some ⟨w,0⟩)) (k:Int)) fun r=>pu (r=(match W.m.ino.findIdx? z4f with | some i=>(i:Int) | none=>(W.m.ino.length:Int))) (z00 (z5b w g W x)):=by
  intro K;induction K with
  | zero=>intro k h;omega
  | succ K ih=>
   intro k h hk hno;rw[z18];unfold F_58;refine z0m (z06 (z06 (z16 0 rfl rfl ?_)));by_cases hkl:k<W.m.ino.length
   ·have gk:(z2b W.m.ino)[k * 14+0]? = some (.int .u8 (W.m.ino[k].k:Nat)):=by rw[z2u z0h hkl (by omega)];rfl
    refine z02 [0,0,0,0,0,0,0] (Q:=fun c=>pu (c = !z4f W.m.ino[k]) (z00 (z5b w g W x))) ?_ fun c=>z04 fun hc=>z01 ?_
    ·refine z07 (by simp[h4'];omega) ?_;refine z0m (z06 (z06 (z16 0 rfl rfl ?_)));refine z1s 4 rfl (z0k h4) (i:=k) (o:=0) (by omega) (by omega) gk ?_;refine z03 [0,0,0,0,0,0,0] fun q hq=>⟨?_,hq⟩;unfold z4f;by_cases hz:W.m.ino[k].k=0
     ·simp[hz]
     ·simp[hz]
    dsimp only[sel,rem,nth,del,cat,upd];cases hf:z4f W.m.ino[k]with
    | true=>
     have:W.m.ino.findIdx? z4f=some k:=by
      rw[List.findIdx?_eq_some_iff_getElem];exact⟨hkl,hf,fun i hi=>by rw[hno i (by omega) hi];simp⟩
     rw[this];exact z05 (by rw[hc,hf];simp) (z03 [0,0,0,0,0,0,0] fun q hq=>⟨rfl,hq⟩)
    | false=>
     refine z07 (by rw[hc,hf];rfl) ?_;rw[z0i (by omega) (by omega)];refine ih (k+1) (by omega) (by omega) fun i hi hij=>?_;by_cases e:i=k
     ·subst e;exact hf
     ·exact hno i hi (by omega)
   ·have:W.m.ino.findIdx? z4f=none:=by
     rw[List.findIdx?_eq_none_iff];intro y hy;obtain⟨i,hi,rfl⟩:=List.mem_iff_getElem.1 hy;exact hno i hi (by omega)
    obtain rfl:k=W.m.ino.length:=by omega
    refine z02 [0,0,0,0,0,0,0] (Q:=fun c=>pu (c=false) (z00 (z5b w g W x))) (z05 (by simp[h4']) (z03 [0,0,0,0,0,0,0] fun q hq=>⟨rfl,hq⟩)) fun c=>z04 fun hc=>z01 ?_;dsimp only[sel,rem,nth,del,cat,upd];subst hc;rw[this];exact z05 (by simp) (z03 [0,0,0,0,0,0,0] fun q hq=>⟨rfl,hq⟩)
 refine z02 [0,0,0,0,0,0,0] (loop N 0 (by omega) (by omega) fun i _ h=>by omega) fun r9=>z04 fun h9=>z01 ?_;subst h9;dsimp only[sel,rem,nth,del,cat,upd];refine z0m (z06 (z06 (z16 0 rfl rfl ?_)));cases hx:W.m.ino.findIdx? z4f with
 | none=>
  refine z07 (by simp[h4']) (z03 [0,0,0,0,0,0,0] fun q hq=>⟨rfl,by rw[z0y];exact z1k hq⟩)
 | some i=>
  dsimp only;have hi:=(List.findIdx?_eq_some_iff_getElem.1 hx).1;refine z05 (by simp[h4'];omega) ?_;refine z0m (z06 (z06 (z16 0 rfl rfl ?_)));refine z02 [1] (zhf ha ok.inv.ok.rows (z0k h1) (by omega)) fun r15=>z04 fun h15=>z01 ?_;dsimp only[sel,rem,nth,del,cat,upd];by_cases hE:z3a W.m.rows a=0
  ·rw[if_pos hE,if_pos hE];obtain⟨e22,e21⟩:=h15;obtain⟨e21,hI2⟩:=e21 hE;refine z05 (by simp[e22,hE]) ?_;refine z0m (z06 (z06 (z1v 2 rfl (by simp[zfu]) rfl ?_)));dsimp only[sel,rem,nth,del,cat,upd];refine z0m (z06 (z06 (z16 2 rfl (p:=x.ino.p) (ln:=x.ino.len) rfl ?_)));rw[e21,wr8 (by omega) (by omega)];have e3:([MV.int .u8 (kind:Int),MV.int .u8 ((retI W.m.rows a:Nat):Int)]++z0q 12 [MV.int .i64 (0:Int)])=z0u (zd9 kind (retI W.m.rows a)):=rfl;rw[e3];refine zaw 5 rfl hi ?_;dsimp only[sel,rem,nth,del,cat,upd];refine z03 [2,0,1,1,1,1,1] fun q hq=>⟨rfl,?_⟩;rw[z0y];exact z1k (W:=W.wM _) (x:={x with rows:=r15.1}) hq
  ·rw[if_neg hE,if_neg hE];refine z07 (by simp[h15.1,hE]) (z03 [2,1,1,1,1,1,1] fun q hq=>⟨by rw[h15.1],?_⟩);rw[z0y];exact z1k hq
theorem zrx(hg:g.ok)(ok:RWok g W){a:Nat}(ha:a<65536)(hN:5000<N):Tri (z00 [z2e w g W]) (F_30 N (some ⟨w,0⟩) (a:Int)) fun r=>pu (r=(W.m.alloc g a).1) (z00 [z2e w g (W.wM (W.m.alloc g a).2)]):=by
 have hgp:=hg.gp;have hp1:=hg.p1;have hG:=hg.g2;have hol:=ok.inv.ok.ownl;have hul:=ok.inv.ok.usedl;have hbl:=ok.bl;have hB:g.B=g.G * g.P:=rfl;have h16:=ok.inv.ok.rows.len;unfold F_30;refine z58 0 rfl fun x=>?_;dsimp only[sel,rem,nth,del,cat,upd];refine z0c 1 rfl fun h1=>?_;refine z0m (z06 (z06 (z16 0 rfl rfl ?_)));refine z02 [1] (zl8 ha ok.inv.ok.rows (z0k h1) (by omega)) fun r7=>z04 fun h7=>z01 ?_;dsimp only[sel,rem,nth,del,cat,upd];let R1:Option Nat→Unit⊕(Int×Int):=fun fd=>match fd with | some b =>.inr ((b:Int),0) | none =>.inl ()
 let W1:Option Nat→RefS:=fun fd=>match fd with | some b=>W.wM {W.m with used:=z11 W.m.used b true} | none=>W
 have loop1:∀(row:Nat)(fd:Option Nat),W.m.rows.findIdx? (z2v a)=some row→(List.range' 0 g.B).find? (W.m.isAt g row)=fd→∀(K k:Nat),g.B - k<K→k≤g.B→(∀i,i<k→W.m.isAt g row i=false) →
   Tri (z00 [z2e w g W]) (z0l K (F_1z N (some ⟨w,0⟩) ((row:Int),true)) (k:Int)) fun r=>pu (r=R1 fd) (z00 [z2e w g (W1 fd)]):=by
  intro row fd hrow hfd K;induction K with
  | zero=>intro k h;omega
  | succ K ih=>
   intro k h hk hno;have hr16:row<16:=by
    have:=(List.findIdx?_eq_some_iff_getElem.1 hrow).1
    omega
   rw[z18];unfold F_1z;refine z58 0 rfl fun x=>?_;dsimp only[sel,rem,nth,del,cat,upd];refine z0c 5 rfl fun h5=>z0c 2 rfl fun h2=>z0c 3 rfl fun h3=>?_;rw[z7h]at h5;refine z0m (z06 (z16 0 rfl rfl ?_));by_cases hkB:k<g.B
   ·refine z07 (by simp;omega) ?_;refine z0m (z06 (z06 (z16 0 rfl rfl ?_)));refine z0m (z06 (z06 (z2d 0 rfl rfl ?_)));refine z05 (by omega) ?_;have hkG:k / g.P<g.G:=by
     rw[Nat.div_lt_iff_lt_mul (by omega)];exact hkB
    have hkl:k / g.P<W.m.own.length:=by omega
    have ediv:(k:Int).tdiv (g.P:Int)=((k / g.P:Nat):Int):=rfl;have hown:(i64s (W.m.own.map Int.ofNat))[k / g.P]? = some (.int .i64 (W.m.own[k / g.P]:Nat)):=by simp[i64s,hkl]
    have hat:W.m.isAt g row k=(decide (W.m.own[k / g.P]=row+1) && !z0r W.m.used k):=by
     unfold MetaS.isAt;rw[List.getElem?_eq_getElem hkl];simp
    rw[ediv];generalize hkk:k / g.P=kk at *;rw[z0i (n:=(kk:Int)) (by omega) (by omega)];refine z3h 2 rfl (z0k h2) hown ?_;refine z02 [0,0,0,0,0,0,0] (Q:=fun c=>pu (c=W.m.isAt g row k) (z00 (z5b w g W x))) ?_ fun c=>z04 fun hc=>z01 ?_
    ·have er:wr .i64 ((row:Int)+1)=((row+1:Nat):Int):=by rw[z0i (by omega) (by omega)];simp
     rw[er,hat];by_cases ho:W.m.own[kk]=row+1
     ·refine z07 (by simp;omega) ?_;refine z0m (z06 (z06 (z16 0 rfl rfl ?_)));refine z02 [3] (zcm (z0k h3) (by omega) k (by omega)) fun r27=>z04 fun h27=>z01 ?_;dsimp only[sel,rem,nth,del,cat,upd];exact z03 [1,1,1,0,0,0,0] fun q hq=>⟨by rw[h27];simp[ho],hq⟩
     ·exact z05 (by simp;omega) (z03 [0,0,0,0,0,0,0] fun q hq=>⟨by simp[ho],hq⟩)
    dsimp only[sel,rem,nth,del,cat,upd];cases hf:W.m.isAt g row k with
    | true=>
     have:(List.range' 0 g.B).find? (W.m.isAt g row)=some k:=by
      rw[List.find?_range'_eq_some];refine⟨hf,by rw[List.mem_range'_1];omega,fun j _ hj=>?_⟩;rw[hno j hj];rfl
     rw[this]at hfd;subst hfd;refine z07 (by rw[hc,hf]) ?_;refine z02 [0,0,0,0,0,0,0] ((zhg hg hul hkB true hN).pre fun q hq=>by rw[z0y];exact z1k hq) fun _=>z01 ?_;dsimp only[sel,rem,nth,del,cat,upd];exact z03 [0] fun q hq=>⟨rfl,hq⟩
    | false=>
     refine z05 (by rw[hc,hf];simp) ?_;rw[z0i (n:=(k:Int)+1) (by omega) (by omega)];have hno':∀i,i<k+1→W.m.isAt g row i=false:=fun i hi=>by
      by_cases e:i=k
      ·subst e;exact hf
      ·exact hno i (by omega)
     refine Tri.pre (B:=z00 [z2e w g W]) ?_ (fun q hq=>by rw[z0y];exact z1k hq);exact ih (k+1) (by omega) (by omega) hno'
   ·obtain rfl:k=g.B:=by omega
    have:(List.range' 0 g.B).find? (W.m.isAt g row)=none:=by
     rw[List.find?_eq_none];intro i hi;rw[List.mem_range'_1]at hi;rw[hno i (by omega)];simp
    rw[this]at hfd;subst hfd;exact z05 (by simp;omega) (z03 [0,0,0,0,0,0,0] fun q hq=>⟨rfl,by rw[z0y];exact z1k hq⟩)
 have loop2:∀(K k:Nat),g.G - k<K→k≤g.G→(∀(i:Nat)(hi:i<W.m.own.length),i<k→z4v W.m.own[i]=false)→W.m.atB g a=none →
   Tri (z00 [z2e w g W]) (z0l K (F_3m N (some ⟨w,0⟩) (a:Int)) (k:Int)) fun r=>pu (match r with | .inl _=>(W.m.alloc g a).1=(0,5) | .inr z=>z=(W.m.alloc g a).1) (z00 [z2e w g (W.wM (W.m.alloc g a).2)]):=by
  intro K;induction K with
  | zero=>intro k h;omega
  | succ K ih=>
   intro k h hk hno hat;have ealloc:W.m.alloc g a=match W.m.own.findIdx? z4v with
    | none=>((0,5),W.m)
    | some k=>if z3a W.m.rows a=0 then((((k * g.P:Nat):Int),0),{W.m with rows:=za4 W.m.rows a,own:=W.m.own.set k (retI W.m.rows a+1),used:=z11 W.m.used (k * g.P) true})else((0,z3a W.m.rows a),W.m):=by
    unfold MetaS.alloc;rw[hat];rfl
   rw[z18];unfold F_3m;refine z58 0 rfl fun x=>?_;dsimp only[sel,rem,nth,del,cat,upd];refine z0c 2 rfl fun h2=>z0c 1 rfl fun h1=>?_;refine z0m (z06 (z06 (z2d 0 rfl rfl ?_)));by_cases hkG:k<g.G
   ·refine z07 (by simp;omega) ?_;have hkl:k<W.m.own.length:=by omega
    refine z0m (z06 (z06 (z16 0 rfl rfl ?_)));refine z3h 2 rfl (z0k h2) (i:=k) (k :=.i64) (v:=(W.m.own[k]:Nat)) (by simp[i64s,hkl]) ?_;by_cases hz:W.m.own[k]=0
    ·have hx:W.m.own.findIdx? z4v=some k:=by
      rw[List.findIdx?_eq_some_iff_getElem];exact⟨hkl,by simp[z4v,hz],fun i hi=>by rw[hno i (by omega) hi];simp⟩
     rw[hx]at ealloc;dsimp only at ealloc;have hb:k * g.P+g.P≤g.G * g.P:=z2t hkG;refine z07 (by simp[hz]) ?_;refine z0m (z06 (z06 (z16 0 rfl rfl ?_)));refine z02 [1] (zhf ha ok.inv.ok.rows (z0k h1) (by omega)) fun r15=>z04 fun h15=>z01 ?_;dsimp only[sel,rem,nth,del,cat,upd];by_cases hE:z3a W.m.rows a=0
     ·rw[if_pos hE]at ealloc;rw[ealloc,if_pos hE];obtain⟨e22,e21⟩:=h15;obtain⟨e21,hI2⟩:=e21 hE;refine z05 (by simp[e22,hE]) ?_;refine z0m (z06 (z06 (z1v 2 rfl (by simp[zfu]) rfl ?_)));dsimp only[sel,rem,nth,del,cat,upd];refine z0m (z06 (z06 (z16 2 rfl (p:=x.own.p) (ln:=x.own.len) rfl ?_)));have er:wr .i64 (r15.2.1+1)=((retI W.m.rows a+1:Nat):Int):=by rw[e21,z0i (by omega) (by omega)];simp
      rw[er];refine zfn 3 rfl hkl ?_;dsimp only[sel,rem,nth,del,cat,upd];refine z0m (z06 (z06 (z2d 2 rfl (v:=(g.P:Int)) rfl ?_)));have ekp:wr .i64 ((k:Int) * (g.P:Int))=((k * g.P:Nat):Int):=by rw[show(k:Int) * (g.P:Int)=((k * g.P:Nat):Int) by simp,z0i (by omega) (by omega)]
      rw[ekp];let W2:RefS:=W.wM {W.m with rows:=za4 W.m.rows a,own:=W.m.own.set k (retI W.m.rows a+1)}
      refine z02 [2,0,1,1,1,1,1] ((zhg (W:=W2) hg hul (b:=k * g.P) (by omega) true hN).pre fun q hq=>by rw[z0y];exact z1k (W:=W2) (x:={x with rows:=r15.1}) hq) fun _=>z01 ?_;dsimp only[sel,rem,nth,del,cat,upd];refine z58 0 rfl fun x=>?_;dsimp only[sel,rem,nth,del,cat,upd];refine z0m (z06 (z06 (z2d 0 rfl rfl ?_)));rw[ekp];refine z03 [0,0,0,0,0,0,0] fun q hq=>⟨rfl,?_⟩;rw[z0y];exact z1k hq
     ·rw[if_neg hE]at ealloc;rw[ealloc,if_neg hE];refine z07 (by simp[h15.1,hE]) (z03 [2,1,1,1,1,1,1] fun q hq=>⟨by dsimp only;rw[h15.1],?_⟩);rw[z0y];exact z1k hq
    ·refine z05 (by simp;omega) ?_;rw[z0i (by omega) (by omega)];refine Tri.pre (ih (k+1) (by omega) (by omega) (fun i hi hik=>?_) hat) fun q hq=>by rw[z0y];exact z1k hq
     by_cases e:i=k
     ·subst e;simp[z4v,hz]
     ·exact hno i hi (by omega)
   ·obtain rfl:k=g.G:=by omega
    have:W.m.own.findIdx? z4v=none:=by
     rw[List.findIdx?_eq_none_iff];intro y hy;obtain⟨i,hi,rfl⟩:=List.mem_iff_getElem.1 hy;exact hno i hi (by omega)
    rw[this]at ealloc;rw[ealloc];exact z05 (by simp) (z03 [0,0,0,0,0,0,0] fun q hq=>⟨rfl,by rw[z0y];exact z1k hq⟩)
 have fin:∀(hat:W.m.atB g a=none),Tri (z00 [z2e w g W]) (bd (z0l N (F_3m N (some ⟨w,0⟩) (a:Int)) (0:Int)) fun j_67=>(match j_67 with | Sum.inl j_68=>ret (((0:Int),(5:Int))) | Sum.inr j_69=>ret (j_69.1,j_69.2))) fun r=>pu (r=(W.m.alloc g a).1) (z00 [z2e w g (W.wM (W.m.alloc g a).2)]):=by
  intro hat;refine z02 [0] (loop2 N 0 (by omega) (by omega) (fun i _ h=>by omega) hat) fun r=>z04 fun hr=>z01 ?_;cases r with
  | inl _=>exact z03 [0] fun q hq=>⟨hr.symm,hq⟩
  | inr z=>exact z03 [0] fun q hq=>⟨hr,hq⟩
 refine tri_last [1,0,0,0,0,0,0] (Tri.pre (B:=z00 [z2e w g W]) ?_ fun q hq=>by rw[z0y];exact z1k hq);cases hrow:W.m.rows.findIdx? (z2v a)with
 | none=>
  have hat:W.m.atB g a=none:=by unfold MetaS.atB;rw[hrow]
  rw[hrow]at h7;subst h7;have l0:Tri (z00 [z2e w g W]) (z0l N (F_1z N (some ⟨w,0⟩) ((0:Int),false)) (0:Int)) fun r=>pu (r=.inl ()) (z00 [z2e w g W]):=by
   obtain⟨K,rfl⟩:∃K,N=K+1:=⟨N - 1,by omega⟩;rw[z18];unfold F_1z;refine z58 0 rfl fun x=>?_;dsimp only[sel,rem,nth,del,cat,upd];refine z0m (z06 (z16 0 rfl rfl ?_));exact z05 (by simp) (z03 [0,0,0,0,0,0,0] fun q hq=>⟨rfl,by rw[z0y];exact z1k hq⟩)
  refine z02 [0] l0 fun r=>z04 fun hr=>z01 ?_;subst hr;exact fin hat
 | some row=>
  rw[hrow]at h7;subst h7;have eat:(List.range' 0 g.B).find? (W.m.isAt g row)=W.m.atB g a:=by unfold MetaS.atB;rw[hrow]
  cases hx:W.m.atB g a with
  | none=>
   refine z02 [0] (loop1 row none hrow (eat.trans hx) N 0 (by omega) (by omega) fun i h=>by omega) fun r=>z04 fun hr=>z01 ?_;subst hr;exact fin hx
  | some b=>
   refine z02 [0] (loop1 row (some b) hrow (eat.trans hx) N 0 (by omega) (by omega) fun i h=>by omega) fun r=>z04 fun hr=>z01 ?_;subst hr;have ealloc:W.m.alloc g a=(((b:Int),0),{W.m with used:=z11 W.m.used b true}):=by unfold MetaS.alloc;rw[hx]
   rw[ealloc];exact z03 [0] fun q hq=>⟨rfl,hq⟩
end
end Go.Moat
