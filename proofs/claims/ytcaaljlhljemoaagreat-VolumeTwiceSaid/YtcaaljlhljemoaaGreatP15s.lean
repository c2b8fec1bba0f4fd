/- Layer 15: what is done to a volume is done to the document's. -/
import Derived.Test.YtcaaljlhljemoaaGreatP15q
namespace Go.Moat
open Go.Mini
structure ActS where
 k:Nat
 at_:Int
 lab:Nat
 c:Nat
 b:Sl
 bs:List UInt8
 n:Ino
 th:Int
structure ActOk(T:HA)(A:ActS):Prop where
 k:A.k<256
 lab:A.lab<65536
 c:A.c<256
 rd:RdC T A.b 1 (bytesOf A.bs)
 bl:A.bs.length≤200
def z3z(A:ActS):List MV:=[.int .u8 A.k,.int .i64 A.at_,.int .u16 A.lab,.int .u8 A.c,.sl A.b.p A.b.len 1]++z0u A.n++[.int .u64 A.th]
theorem z6c(A:ActS):(z3z A).length=20:=by simp[z3z,z0h]
theorem zzz(A:ActS):((z3z A).drop 5).take 14=z0u A.n:=by
 unfold z3z;rw[List.append_assoc];show List.take 14 (z0u A.n++[.int .u64 A.th])=_;exact List.take_left' (z0h _)
theorem zwy(A:ActS):(z3z A).all z0v=true:=by
 unfold z3z;rw[List.all_append,List.all_append,z88];rfl
def zact:ActS:=⟨0,0,0,0,⟨none,0⟩,[],Ino.z,0⟩
theorem z14v:([MV.int .u8 (0:Int),MV.int .i64 (0:Int),MV.int .u16 (0:Int),MV.int .u8 (0:Int),MV.sl (none:Option MA) 0 1,MV.int .u8 (0:Int),MV.int .u8 (0:Int)]++z0q 12 [MV.int .i64 (0:Int)]++[MV.int .u64 (0:Int)])=z3z zact:=rfl
theorem z100(A B:ActS):z0w (z3z A) 0 (z3z B)=z3z B:=z9n (by rw[z6c,z6c])
structure VOk(g:Geo)(V:VolS):Prop where
 inv:Inv g V.n.m
 re:∀b:Nat,b<g.B→V.readE g b=0
 zero:∀b:Nat,b<g.B→z0r V.n.m.used b=false→V.readB g b=z14
 key:∀e∈V.n.dirty,0≤e.1∧e.1<g.B
structure Like(g:Geo)(V:VolS)(W:RefS):Prop where
 ok:VOk g V
 m:W.m=V.n.m
 bl:W.B.length=g.B
 dl:W.D.length=g.B
 rd:∀b:Nat,b<g.B→W.B[b]? = some (V.readB g b)
 dt:∀b:Nat,b<g.B→W.D[b]? = some (z3o V.n.dirty b).isSome
structure Keeps(V V':VolS):Prop where
 disk:V'.disk=V.disk
 seq:V'.seq=V.seq
 safe:V'.safe=V.safe
 before:V'.before=V.before
 dead:V'.dead=V.dead
section
variable{N:Nat}{β:Type}{l:List HA}{S:β→HA}{v d w:Nat}{g:Geo}{V:VolS}{W:RefS}{m:M β}{T:HA}
theorem Like.rok(h:Like g V W):RWok g W:=⟨by rw[h.m];exact h.ok.inv,h.bl,h.dl⟩
theorem tri_frz0{α:Type}{m:M α}{Q:α→HA}(t:Tri (z00 []) m Q):Tri (z00 []) (frz m) Q:=by
 intro h q hq hh;obtain⟨a,h',q',e,h1,h2,h3,h4,h5⟩:=t h q hq hh;exact⟨a,h',q',zp5 e ⟨h3,fun b hb=>h4 b hb (hq b)⟩,h1,h2,h3,h4,h5⟩
theorem zih{c:Nat}(hc:c<256)(hN:100<N):Tri (z00 []) (F_1p N (c:Int)) fun r=>z00 [z08 r 1 (bytesOf (List.replicate 64 (UInt8.ofNat c)))]:=by
 unfold F_1p;refine z6z 64 (by omega) fun b=>?_;have loop:∀(K k:Nat),64 - k<K→k≤64→Tri (z00 [pts b (.cells (bytesOf (List.replicate k (UInt8.ofNat c)++List.replicate (64 - k) 0)) false)]) (z0l K (F_56 N (c:Int) ⟨some ⟨b,0⟩,64⟩) (k:Int)) fun _=>z00 [pts b (.cells (bytesOf (List.replicate 64 (UInt8.ofNat c))) false)]:=by
  intro K;induction K with
  | zero=>intro k h;omega
  | succ K ih=>
   intro k h hk;rw[z18];unfold F_56;by_cases hk4:k<64
   ·refine z07 (by simp;omega) ?_;refine z1x hk4 (z1v 0 rfl (by rw[z0e];simp;omega) rfl ?_);rw[z0i (by omega) (by omega)];refine Tri.pre (ih (k+1) (by omega) (by omega)) fun q hq=>?_;have e:(bytesOf (List.replicate k (UInt8.ofNat c)++List.replicate (64 - k) 0)).set (0+k * 1) (.int .u8 (c:Int))=bytesOf (List.replicate (k+1) (UInt8.ofNat c)++List.replicate (64 - (k+1)) 0):=by
     have hcc:(MV.int .u8 (c:Int))=.int .u8 ((UInt8.ofNat c).toNat:Int):=by
      rw[UInt8.toNat_ofNat_of_lt' (by simpa using hc)]
     rw[hcc];unfold bytesOf;rw[←List.map_set (f:=fun b:UInt8=>MV.int .u8 (b.toNat:Int))];congr 1;rw[show 0+k * 1=k by omega,List.set_append_right _ _ (by simp),List.length_replicate,Nat.sub_self,show 64 - k=(64 - (k+1))+1 by omega,List.replicate_succ,List.set_cons_zero,List.replicate_succ',List.append_assoc];rfl
    rw[←e];exact hq
   ·obtain rfl:k=64:=by omega
    exact z05 (by simp) (z03 [0] fun q hq=>by
     rw[show List.replicate (64 - 64) (0:UInt8)=[]from rfl,List.append_nil]at hq;exact hq)
 refine z02 [0] ((loop N 0 (by omega) (by omega)).pre fun q hq=>hq) fun _=>z01 (z03 [0] fun q hq=>?_);refine z54 (.cons (fun _ k =>.mk (by rw[z0e];simp) k) .nil) q hq
theorem zii(b:Nat)(bs:List UInt8)(c:Nat)(hc:c<g.B)(h:V.readE g c=0):(V.write g b bs).readE g c=0:=by
 unfold VolS.readE VolS.write NowS.write at *;dsimp only at *;rw[if_pos (by omega)]at h ⊢;rw[zf4];by_cases e:(c:Int)=b
 ·rw[if_pos e]
 ·rw[if_neg e];exact h
theorem zdf(b:Nat)(bs:List UInt8)(c:Nat):(V.write g b bs).readB g c=if c=b then bs else V.readB g c:=by
 unfold VolS.readB VolS.write NowS.write;dsimp only;rw[zf4];by_cases e:c=b
 ·rw[if_pos (by omega),if_pos e]
 ·rw[if_neg (by omega),if_neg e]
theorem zrn(b:Nat)(bs:List UInt8)(c:Nat):(z3o (V.write g b bs).n.dirty c).isSome=if c=b then true else(z3o V.n.dirty c).isSome:=by
 unfold VolS.write NowS.write;dsimp only;rw[zf4];by_cases e:c=b
 ·rw[if_pos (by omega),if_pos e];rfl
 ·rw[if_neg (by omega),if_neg e]
theorem VOk.wM(h:VOk g V){m:MetaS}(hm:Inv g m)(hu:∀b,b<g.B→z0r m.used b=false→z0r V.n.m.used b=false):VOk g (V.wM m):=
 ⟨hm,h.re,fun b hb hz=>h.zero b hb (hu b hb hz),h.key⟩
theorem Like.wM(h:Like g V W){m:MetaS}(hm:Inv g m)(hu:∀b,b<g.B→z0r m.used b=false→z0r V.n.m.used b=false):Like g (V.wM m) (W.wM m):=
 ⟨h.ok.wM hm hu,rfl,h.bl,h.dl,h.rd,h.dt⟩
theorem zf1(V:VolS)(m:MetaS):Keeps V (V.wM m):=⟨rfl,rfl,rfl,rfl,rfl⟩
theorem zro(V:VolS)(b:Nat)(bs:List UInt8):Keeps V (V.write g b bs):=⟨rfl,rfl,rfl,rfl,rfl⟩
theorem z9h(V:VolS):Keeps V V:=⟨rfl,rfl,rfl,rfl,rfl⟩
theorem zms(h:VOk g V){b:Nat}(hb:b<g.B)(bs:List UInt8):∀e∈(V.write g b bs).n.dirty,0≤e.1∧e.1<g.B:=by
 intro e he;rcases zja (show e∈z7c V.n.dirty b (bs,V.n.m.ownT g b)from he)with rfl | he
 ·dsimp only;omega
 ·exact h.key e he
theorem VOk.write(h:VOk g V){b:Nat}(hb:b<g.B)(hbit:z0r V.n.m.used b=true)(bs:List UInt8):VOk g (V.write g b bs):=by
 refine⟨h.inv,fun c hc=>zii b bs c hc (h.re c hc),fun c hc hz=>?_,zms h hb bs⟩;have hz':z0r V.n.m.used c=false:=hz;rw[zdf,if_neg (by rintro rfl;rw[hbit]at hz';cases hz')];exact h.zero c hc hz'
theorem zsq{α:Type}{l:List α}{b c:Nat}{x y:α}(hb:b<l.length)(hy:l[c]? = some y):(l.set b x)[c]? = some (if c=b then x else y):=by
 rw[List.getElem?_set];by_cases e:b=c
 ·rw[if_pos e,if_pos hb,if_pos e.symm]
 ·rw[if_neg e,if_neg (fun k=>e k.symm),hy]
theorem Like.write(h:Like g V W){b:Nat}(hb:b<g.B)(hbit:z0r V.n.m.used b=true)(bs:List UInt8):Like g (V.write g b bs) (W.write b bs):=by
 have hbl:=h.bl;have hdl:=h.dl;refine⟨h.ok.write hb hbit bs,h.m,?_,?_,fun c hc=>?_,fun c hc=>?_⟩
 ·show(W.B.set b bs).length=_;rw[List.length_set];exact h.bl
 ·show(W.D.set b true).length=_;rw[List.length_set];exact h.dl
 ·rw[zdf];exact zsq (by omega) (h.rd c hc)
 ·rw[zrn];exact zsq (by omega) (h.dt c hc)
theorem zwz(b:Nat)(hb:b<8 * V.n.m.used.length)(c:Nat):z0r (V.n.m.free g b).used c=if c=b then false else z0r V.n.m.used c:=by
 have:(V.n.m.free g b).used=z11 V.n.m.used b false:=by
  unfold MetaS.free;split<;>rfl
 rw[this,z3s hb]
theorem VOk.free(hg:g.ok)(h:VOk g V){b:Nat}(hb:b<g.B)(hbit:z0r V.n.m.used b=true):VOk g (V.free g b):=by
 have hlt:=zhb hbit;refine⟨zf3 hg h.inv hb hbit,fun c hc=>zii b z14 c hc (h.re c hc),fun c hc hz=>?_,zms h hb z14⟩;have hz':z0r (V.n.m.free g b).used c=false:=hz;rw[zwz b hlt]at hz';show(V.write g b z14).readB g c=_;rw[zdf];by_cases e:c=b
 ·rw[if_pos e]
 ·rw[if_neg e];rw[if_neg e]at hz';exact h.zero c hc hz'
theorem Like.free(hg:g.ok)(h:Like g V W){b:Nat}(hb:b<g.B)(hbit:z0r V.n.m.used b=true):Like g (V.free g b) ((W.write b z14).wM (W.m.free g b)):=by
 have h2:=h.write hb hbit z14;refine⟨h.ok.free hg hb hbit,?_,h2.bl,h2.dl,h2.rd,h2.dt⟩;show W.m.free g b=V.n.m.free g b;rw[h.m]
theorem zuc{m:MetaS}(hg:g.ok)(h:Inv g m)(a:Nat):∀b,b<g.B→z0r (m.alloc g a).2.used b=false→z0r m.used b=false:=by
 intro b hb;have hul:=h.ok.usedl;have hgp:=hg.gp;have hB:g.B=g.G * g.P:=rfl;have key:∀c,c<g.B→z0r (z11 m.used c true) b=false→z0r m.used b=false:=by
  intro c hc;rw[z3s (by omega)];split
  ·intro h;cases h
  ·exact id
 unfold MetaS.alloc;cases hat:m.atB g a with
 | some c=>
  dsimp only;unfold MetaS.atB at hat;split at hat
  ·rw[List.find?_range'_eq_some]at hat;have:=List.mem_range'_1.1 hat.2.1
   exact key c (by omega)
  ·cases hat
 | none=>
  dsimp only;cases hfr:m.own.findIdx? z4v with
  | none=>exact id
  | some k=>
   dsimp only;split
   ·have hk:=(List.findIdx?_eq_some_iff_getElem.1 hfr).1;rw[h.ok.ownl]at hk;have hb:k * g.P+g.P≤g.G * g.P:=z2t hk;have:=hg.p1
    exact key (k * g.P) (by omega)
   ·exact id
theorem zx0(m:MetaS)(kind a:Nat):(m.make kind a).2.used=m.used:=by
 unfold MetaS.make;split
 ·split
  ·rfl
  ·split<;>rfl
 ·rfl
end
end Go.Moat

/- Layer 15: an act is done to a volume and to the document's alike. -/
namespace Go.Moat
open Go.Mini
section
variable{N:Nat}{β:Type}{l:List HA}{S:β→HA}{v d w:Nat}{g:Geo}{V:VolS}{W:RefS}{m:M β}{T:HA}
def VolS.freeX(g:Geo)(V:VolS)(b:Int):VolS:=if V.n.m.usedE g b=0 then V.free g b.toNat else V
def RefS.freeX(g:Geo)(W:RefS)(b:Int):RefS:=if W.m.usedE g b=0 then(W.write b.toNat z14).wM (W.m.free g b.toNat)else W
def VolS.writeX(g:Geo)(V:VolS)(b:Int)(bs:List UInt8):VolS:=if V.writeE g b bs=0 then V.write g b.toNat bs else V
def RefS.writeX(g:Geo)(W:RefS)(b:Int)(bs:List UInt8):RefS:=if bs.length=64∧W.m.usedE g b=0 then W.write b.toNat bs else W
def VolS.unmakeX(V:VolS)(i:Int):VolS:=if V.n.m.hasE i=0 then V.wM (V.n.m.unmake i.toNat)else V
def RefS.unmakeX(W:RefS)(i:Int):RefS:=if W.m.hasE i=0 then W.wM (W.m.unmake i.toNat)else W
def VolS.setX(V:VolS)(i:Int)(n:Ino):VolS:=if V.n.m.setE i n=0 then V.wM (V.n.m.set i.toNat n)else V
def RefS.setX(W:RefS)(i:Int)(n:Ino):RefS:=if W.m.setE i n=0 then W.wM (W.m.set i.toNat n)else W
def Ino.kr(n:Ino)(k r:Nat):Ino:={n with k:=k,r:=r}
theorem z139(n:Ino)(k r:Nat):((z0u n).set 0 (.int .u8 k)).set 1 (.int .u8 r)=z0u (n.kr k r):=rfl
theorem z10p(hg:g.ok)(h:VOk g V)(b:Int):VOk g (V.freeX g b)∧Keeps V (V.freeX g b):=by
 unfold VolS.freeX;by_cases hE:V.n.m.usedE g b=0
 ·rw[if_pos hE];obtain⟨k,rfl,hk,hbit⟩:=za7 hE;exact⟨h.free hg hk hbit,⟨rfl,rfl,rfl,rfl,rfl⟩⟩
 ·rw[if_neg hE];exact⟨h,z9h V⟩
theorem zna(hg:g.ok)(h:VOk g V)(b:Int)(bs:List UInt8):VOk g (V.writeX g b bs)∧Keeps V (V.writeX g b bs):=by
 unfold VolS.writeX VolS.writeE;by_cases hl:bs.length=64
 ·rw[if_pos hl];by_cases hE:V.n.m.usedE g b=0
  ·rw[if_pos hE];obtain⟨k,rfl,hk,hbit⟩:=za7 hE;exact⟨h.write hk hbit bs,zro V k bs⟩
  ·rw[if_neg hE];exact⟨h,z9h V⟩
 ·rw[if_neg hl,if_neg (by decide)];exact⟨h,z9h V⟩
theorem zy8(hg:g.ok)(h:VOk g V){a:Nat}(ha:a<65536):VOk g (V.wM (V.n.m.alloc g a).2):=h.wM (zbk hg h.inv ha) (zuc hg h.inv a)
theorem z10q(hg:g.ok)(h:VOk g V){kind a:Nat}(ha:a<65536):VOk g (V.wM (V.n.m.make kind a).2):=h.wM (zpy hg h.inv ha) fun b _=>by rw[zx0];exact id
theorem zuy(hg:g.ok)(h:VOk g V)(i:Int):VOk g (V.unmakeX i)∧Keeps V (V.unmakeX i):=by
 unfold VolS.unmakeX;by_cases hE:V.n.m.hasE i=0
 ·rw[if_pos hE];obtain⟨k,hk,rfl,hkk⟩:=z8a hE;exact⟨h.wM (zkq hg h.inv hk hkk) fun b _=>id,zf1 _ _⟩
 ·rw[if_neg hE];exact⟨h,z9h V⟩
theorem zqu{m:MetaS}{i:Int}{n:Ino}(hE:m.setE i n=0):∃k:Nat,i=k:=by
 have hi:m.hasE i≠1:=fun c=>by unfold MetaS.setE at hE;rw[if_pos c]at hE;cases hE
 have h0:0≤i:=by
  unfold MetaS.hasE at hi;split at hi
  ·rename_i hh;exact hh.1
  ·exact absurd rfl hi
 exact⟨i.toNat,by omega⟩
theorem z13a(hg:g.ok)(h:VOk g V)(i:Int)(n:Ino):VOk g (V.setX i n)∧Keeps V (V.setX i n):=by
 unfold VolS.setX;by_cases hE:V.n.m.setE i n=0
 ·rw[if_pos hE];obtain⟨k,rfl⟩:=zqu hE;exact⟨h.wM (zsu hg h.inv hE).1 fun b _=>id,zf1 _ _⟩
 ·rw[if_neg hE];exact⟨h,z9h V⟩
theorem RWok.wM(h:RWok g W){m:MetaS}(hm:Inv g m):RWok g (W.wM m):=⟨hm,h.bl,h.dl⟩
theorem RWok.write(h:RWok g W)(b:Nat)(bs:List UInt8):RWok g (W.write b bs):=⟨h.inv,by show(W.B.set b bs).length=_;rw[List.length_set];exact h.bl,by show(W.D.set b true).length=_;rw[List.length_set];exact h.dl⟩
theorem zuz(hg:g.ok)(h:RWok g W){a:Nat}(ha:a<65536):RWok g (W.wM (W.m.alloc g a).2):=h.wM (zbk hg h.inv ha)
theorem zy9(hg:g.ok)(h:RWok g W){kind a:Nat}(ha:a<65536):RWok g (W.wM (W.m.make kind a).2):=h.wM (zpy hg h.inv ha)
theorem zya(hg:g.ok)(h:RWok g W)(b:Int):RWok g (W.freeX g b):=by
 unfold RefS.freeX;by_cases hE:W.m.usedE g b=0
 ·rw[if_pos hE];obtain⟨k,rfl,hk,hbit⟩:=za7 hE;exact(h.write k z14).wM (zf3 hg h.inv hk hbit)
 ·rw[if_neg hE];exact h
theorem zl9(h:RWok g W)(b:Int)(bs:List UInt8):RWok g (W.writeX g b bs):=by
 unfold RefS.writeX;split
 ·exact h.write _ bs
 ·exact h
theorem zry(hg:g.ok)(h:RWok g W)(i:Int):RWok g (W.unmakeX i):=by
 unfold RefS.unmakeX;by_cases hE:W.m.hasE i=0
 ·rw[if_pos hE];obtain⟨k,hk,rfl,hkk⟩:=z8a hE;exact h.wM (zkq hg h.inv hk hkk)
 ·rw[if_neg hE];exact h
theorem z10r(hg:g.ok)(h:RWok g W)(i:Int)(n:Ino):RWok g (W.setX i n):=by
 unfold RefS.setX;by_cases hE:W.m.setE i n=0
 ·rw[if_pos hE];obtain⟨k,rfl⟩:=zqu hE;exact h.wM (zsu hg h.inv hE).1
 ·rw[if_neg hE];exact h
def actN(W:RefS)(A:ActS):Ino:=if W.m.hasE A.at_=0∧A.c%2=0 then A.n.kr (W.m.inodeN A.at_).k (W.m.inodeN A.at_).r else A.n
def z7s(g:Geo)(V:VolS)(W:RefS)(A:ActS):VolS×RefS:=
 if A.k%13=0 then(V.wM (V.n.m.alloc g A.lab).2,W.wM (W.m.alloc g A.lab).2)
 else if A.k%13=1 then(V.freeX g A.at_,W.freeX g A.at_)
 else if A.k%13=2 then(V.writeX g A.at_ (List.replicate 64 (UInt8.ofNat A.c)),W.writeX g A.at_ (List.replicate 64 (UInt8.ofNat A.c)))
 else if A.k%13=3 then(V.wM (V.n.m.make A.c A.lab).2,W.wM (W.m.make A.c A.lab).2)
 else if A.k%13=4 then(V.unmakeX A.at_,W.unmakeX A.at_)
 else if A.k%13=5 then(V.setX A.at_ (actN W A),W.setX A.at_ (actN W A))
 else if A.k%13=12 then(V.writeX g A.at_ A.bs,W.writeX g A.at_ A.bs)
 else(V,W)
theorem z10s(hg:g.ok)(h:VOk g V){A:ActS}(ha:A.lab<65536):VOk g (z7s g V W A).1∧Keeps V (z7s g V W A).1:=by
 unfold z7s;repeat' split
 ·exact⟨zy8 hg h ha,zf1 _ _⟩
 ·exact z10p hg h _
 ·exact zna hg h _ _
 ·exact⟨z10q hg h ha,zf1 _ _⟩
 ·exact zuy hg h _
 ·exact z13a hg h _ _
 ·exact zna hg h _ _
 ·exact⟨h,z9h V⟩
theorem z10t(hg:g.ok)(h:RWok g W){A:ActS}(ha:A.lab<65536):RWok g (z7s g V W A).2:=by
 unfold z7s;repeat' split
 ·exact zuz hg h ha
 ·exact zya hg h _
 ·exact zl9 h _ _
 ·exact zy9 hg h ha
 ·exact zry hg h _
 ·exact z10r hg h _ _
 ·exact zl9 h _ _
 ·exact h
theorem zt9(hg:g.ok)(hN:5000<N)(hi:Inv g V.n.m)(hw:RWok g W){A:ActS}(ha:ActOk T A) :
  Tri (z00 [z1f v d g V,z2e w g W,T]) (F_1u N (some ⟨v,0⟩) (some ⟨w,0⟩) (z3z A)) fun r=>exA fun x:VolS×RefS=>pu (x=z7s g V W A∧(Like g V W→r=true)) (z00 [z1f v d g x.1,z2e w g x.2,T]):=by
 have ok:=hi.ok;have rf:=hi.rf;have gr:=hi.gr hg;have hlab:=ha.lab;have hc256:=ha.c;have g0:(z3z A)[0]? = some (.int .u8 A.k):=rfl;have g1:(z3z A)[1]? = some (.int .i64 A.at_):=rfl;have g2:(z3z A)[2]? = some (.int .u16 A.lab):=rfl;have g3:(z3z A)[3]? = some (.int .u8 A.c):=rfl;have g4:(z3z A)[4]? = some (.sl A.b.p A.b.len 1):=rfl;have e19:5+14≤(z3z A).length:=by rw[z6c];omega
 unfold F_1u;rw[g0,g1,g2,g3,g4,if_pos e19,zzz];refine z15 (z1t ?_);have em:((A.k:Nat):Int).tmod 13=((A.k%13:Nat):Int):=rfl;rw[em];have hlt:A.k%13<13:=Nat.mod_lt _ (by omega);obtain⟨kk,hkk⟩:∃kk,kk=A.k%13:=⟨_,rfl⟩;rw[←hkk]at hlt ⊢;by_cases k0:kk=0
 ·refine z07 (by simp[k0]) ?_;refine z15 (z1t (z02 [0] (ziq hg ok hlab hN) fun r8=>z04 fun h8=>z01 ?_));dsimp only[sel,rem,nth,del,cat,upd];refine z15 (z1t (z02 [1] (zrx hg hw hlab hN) fun r11=>z04 fun h11=>z01 ?_));dsimp only[sel,rem,nth,del,cat,upd];refine z03 [1,0,0] fun q hq=>⟨(V.wM (V.n.m.alloc g A.lab).2,W.wM (W.m.alloc g A.lab).2),⟨by unfold z7s;rw[←hkk];simp[k0],fun h=>?_⟩,hq⟩;rw[h8,h11,h.m];simp
 refine z05 (by simp;omega) ?_;by_cases k1:kk=1
 ·refine z07 (by simp[k1]) (z4g fun _=>?_);refine z15 (z1t (z02 [0] (zl7 hg ok rf gr A.at_ hN) fun r8=>z04 fun h8=>z01 ?_));dsimp only[sel,rem,nth,del,cat,upd];refine z15 (z1t (z02 [1] (zuw hg hw A.at_ hN) fun r11=>z04 fun h11=>z01 ?_));dsimp only[sel,rem,nth,del,cat,upd];refine z03 [1,0,0] fun q hq=>⟨(V.freeX g A.at_,W.freeX g A.at_),⟨by unfold z7s;rw[←hkk];simp[k1],fun h=>?_⟩,hq⟩;rw[h8,h11,h.m];simp
 refine z05 (by simp;omega) ?_;have wr2:Like g V W→∀{bs:List UInt8},(if bs.length=64 then W.m.usedE g A.at_ else 1)=V.writeE g A.at_ bs:=fun h{bs}=>by unfold VolS.writeE;rw[h.m]
 by_cases k2:kk=2
 ·refine z07 (by simp[k2]) (z4g fun _=>?_);refine z15 (z1t (z15 (z1t (z02 [] (zih hc256 (by omega)) fun s24=>z01 ?_))));dsimp only[sel,rem,nth,del,cat,upd];refine z0c 0 rfl fun l24=>?_;refine z02 [1,0] (zir hg ok A.at_ (z0k l24) (by simp)) fun r8=>z04 fun h8=>z01 ?_;dsimp only[sel,rem,nth,del,cat,upd];refine z15 (z1t (z15 (z1t (z02 [] (zih hc256 (by omega)) fun s30=>z01 ?_))));dsimp only[sel,rem,nth,del,cat,upd];refine z0c 0 rfl fun l30=>?_;refine z02 [3,0] (zij hg hw A.at_ (z0k l30) hN) fun r11=>z04 fun h11=>z01 ?_;dsimp only[sel,rem,nth,del,cat,upd];refine z03 [2,0,2] fun q hq=>⟨(V.writeX g A.at_ (List.replicate 64 (UInt8.ofNat A.c)),W.writeX g A.at_ (List.replicate 64 (UInt8.ofNat A.c))),⟨by unfold z7s;rw[←hkk];simp[k2],fun h=>?_⟩,hq⟩;rw[h8,h11,wr2 h];simp
 refine z05 (by simp;omega) ?_;by_cases k3:kk=3
 ·refine z07 (by simp[k3]) ?_;refine z15 (z1t (z15 (z1t (z02 [0] (zus hg ok hc256 hlab hN) fun r8=>z04 fun h8=>z01 ?_))));dsimp only[sel,rem,nth,del,cat,upd];refine z15 (z1t (z15 (z1t (z02 [1] (zux hg hw hc256 hlab hN) fun r11=>z04 fun h11=>z01 ?_))));dsimp only[sel,rem,nth,del,cat,upd];refine z03 [1,0,0] fun q hq=>⟨(V.wM (V.n.m.make A.c A.lab).2,W.wM (W.m.make A.c A.lab).2),⟨by unfold z7s;rw[←hkk];simp[k3],fun h=>?_⟩,hq⟩;rw[h8,h11,h.m];simp
 refine z05 (by simp;omega) ?_;by_cases k4:kk=4
 ·refine z07 (by simp[k4]) (z4g fun _=>?_);refine z15 (z1t (z02 [0] (zqp hg ok rf A.at_ hN) fun r8=>z04 fun h8=>z01 ?_));dsimp only[sel,rem,nth,del,cat,upd];refine z15 (z1t (z02 [1] (zpx hg hw A.at_ hN) fun r11=>z04 fun h11=>z01 ?_));dsimp only[sel,rem,nth,del,cat,upd];refine z03 [1,0,0] fun q hq=>⟨(V.unmakeX A.at_,W.unmakeX A.at_),⟨by unfold z7s;rw[←hkk];simp[k4],fun h=>?_⟩,hq⟩;rw[h8,h11,h.m];simp
 refine z05 (by simp;omega) ?_;by_cases k5:kk=5
 ·refine z07 (by simp[k5]) ?_;refine z0s ?_;rw[z89];refine zbr ?_;refine z15 (z1t (z02 [1] (zrp hg hw A.at_) fun r52=>z04 fun h52=>z01 ?_));subst h52;dsimp only[sel,rem,nth,del,cat,upd];refine zbr ?_;rw[zfh,zfh];let n2:Ino:=if W.m.hasE A.at_=0∧A.c%2=0 then A.n.kr (W.m.inodeN A.at_).k (W.m.inodeN A.at_).r else A.n
  refine z02 [0,0,0] (Q:=fun c=>pu (c=decide (W.m.hasE A.at_=0∧A.c%2=0)) (z00 [z2e w g W,z1f v d g V,T])) ?_ fun c=>z04 fun hc=>z01 ?_
  ·by_cases hE:W.m.hasE A.at_=0
   ·refine z07 (by simp[hE]) (z15 (z1t (z03 [0,0,0] fun q hq=>⟨?_,hq⟩)));have e2:((A.c:Nat):Int).tmod 2=((A.c%2:Nat):Int):=rfl;rw[e2];by_cases hp:A.c%2=0
    ·simp[hE,hp]
    ·simp[hE,hp];omega
   ·exact z05 (by simp[hE]) (z03 [0,0,0] fun q hq=>⟨by simp[hE],hq⟩)
  dsimp only[sel,rem,nth,del,cat,upd];refine z02 [0,0,0] (Q:=fun r=>pu (r=z0u n2) (z00 [z2e w g W,z1f v d g V,T])) ?_ fun j=>z04 fun hj=>z01 ?_
  ·by_cases hc2:W.m.hasE A.at_=0∧A.c%2=0
   ·have en:n2=A.n.kr (W.m.inodeN A.at_).k (W.m.inodeN A.at_).r:=if_pos hc2;rw[en];refine z07 (by rw[hc];simpa using hc2) (z4g fun _=>?_);rw[zfo,zo1];refine z15 (z1t (z15 (z1t ?_)));rw[if_pos ⟨by rw[z0h];omega,rfl⟩];refine z0s ?_;rw[if_pos ⟨by rw[List.length_set,z0h];omega,rfl⟩];refine z0s ?_;rw[z139];exact z03 [0,0,0] fun q hq=>⟨rfl,hq⟩
   ·have en:n2=A.n:=if_neg hc2;rw[en];exact z05 (by rw[hc];simpa using hc2) (z03 [0,0,0] fun q hq=>⟨rfl,hq⟩)
  subst hj;dsimp only[sel,rem,nth,del,cat,upd];have e14:0+14≤(z0u n2).length:=by rw[z0h];omega
  have t14:((z0u n2).drop 0).take 14=z0u n2:=by rw[List.drop_zero,List.take_of_length_le (by rw[z0h];omega)]
  rw[if_pos e14,t14];obtain⟨n3,hn3⟩:∃n3,n3=n2:=⟨_,rfl⟩;rw[←hn3];refine z4g fun _=>z15 (z1t (z0s ?_));refine z02 [1] (zxz hg ok A.at_ n3 hN) fun r8=>z04 fun h8=>z01 ?_;dsimp only[sel,rem,nth,del,cat,upd];refine z15 (z1t (z0s ?_));refine z02 [1] (zy7 hg hw A.at_ n3 hN) fun r11=>z04 fun h11=>z01 ?_;dsimp only[sel,rem,nth,del,cat,upd];refine z03 [1,0,0] fun q hq=>⟨(V.setX A.at_ n3,W.setX A.at_ n3),⟨by rw[hn3];unfold z7s;rw[←hkk];simp[k5];exact⟨rfl,rfl⟩,fun h=>?_⟩,hq⟩;rw[h8,h11,h.m];simp
 refine z05 (by simp;omega) ?_;by_cases k12:kk=12
 ·refine z07 (by simp[k12]) ?_;refine z0z fun b=>?_;have hbl:=ha.bl;have hbl2:=z4o ha.rd;refine z15 ?_;refine z15 ?_;refine z02 [0,2] ((z2y (s:=⟨some ⟨b,0⟩,0⟩) (by':=1) (cs:=[]) ha.rd (by omega) (by simp[bytesOf,z0v]) (by
   have:most=70368744177664:=rfl
   dsimp only;omega)).pre fun q hq=>ent_head (A:=pts b (.cells [] false)) (l:=[T]) (fun q h =>.mk (by simp) h) hq) fun l74=>z01 ?_
  dsimp only[sel,rem,nth,del,cat,upd];rw[List.nil_append];refine z4g fun _=>z15 (z1t ?_);refine z0c 0 rfl fun ln74=>?_;refine z02 [2,0] (zir hg ok A.at_ (z0k ln74) (by omega)) fun r8=>z04 fun h8=>z01 ?_;dsimp only[sel,rem,nth,del,cat,upd];refine z15 (z1t (z15 (z15 ?_)));refine z02 [3,2] (zij hg hw A.at_ ha.rd hN) fun r11=>z04 fun h11=>z01 ?_;dsimp only[sel,rem,nth,del,cat,upd];have hlen:l74.len=A.bs.length:=by rw[z0e]at ln74;omega
  have loop:∀(K k:Nat)(xs:List UInt8),A.bs.length - k<K→k≤A.bs.length→xs.length=A.bs.length→Tri (z00 [z08 l74 1 (bytesOf xs)]) (z0l K (F_59 N l74) (k:Int)) fun _=>z00 []:=by
   intro K;induction K with
   | zero=>intro k xs h;omega
   | succ K ih=>
    intro k xs hkk hk hx;rw[z18];unfold F_59;by_cases hkl:k<A.bs.length
    ·refine z07 (by simp;omega) ?_;refine z6w 0 rfl (fun h1 h2=>?_) fun b ln h1 h2=>?_
     ·have:=congrArg List.length h2
      rw[z0e,List.length_nil]at this;omega
     subst h1;rw[z0e]at h2;dsimp only[sel,rem,nth,del,cat,upd];refine z3h 0 rfl (rd_pts0 (k:=ln) (by rw[z0e];exact h2)) (z9l (by omega)) ?_;have hb:=zcd (k :=.u8) (a:=xs[k].toNat) (b:=85) rfl xs[k].toNat_lt (by decide);obtain⟨y,hy,hyl⟩:∃y:Nat,z37 .xor .u8 (xs[k].toNat:Int) 85=y∧y<256:=⟨_,hb.2.2,Nat.xor_lt_two_pow (n:=8) xs[k].toNat_lt (by decide)⟩;rw[hy];refine z1x (by omega) (z1v 0 rfl (by rw[z0e];omega) rfl ?_);rw[z0i (by omega) (by omega)];refine Tri.pre (ih (k+1) (xs.set k (UInt8.ofNat y)) (by omega) (by omega) (by rw[List.length_set];exact hx)) fun q hq=>?_;have e:(bytesOf xs).set (0+k * 1) (.int .u8 (y:Int))=bytesOf (xs.set k (UInt8.ofNat y)):=by
      have hcc:(MV.int .u8 (y:Int))=.int .u8 ((UInt8.ofNat y).toNat:Int):=by
       rw[UInt8.toNat_ofNat_of_lt' (by simpa using hyl)]
      rw[hcc,show 0+k * 1=k by omega];unfold bytesOf;rw[←List.map_set (f:=fun b:UInt8=>MV.int .u8 (b.toNat:Int))]
     rw[←e];refine z54 (.cons (fun _ k =>.mk (by rw[List.length_set,z0e];exact h2) k) .nil) q hq
    ·obtain rfl:k=A.bs.length:=by omega
     exact z05 (by simp[hlen]) (z03 [] fun q hq=>hq)
  refine z02 [3] (loop N 0 A.bs (by omega) (by omega) rfl) fun _=>z01 ?_;dsimp only[sel,rem,nth,del,cat,upd];refine z03 [2,0,0] fun q hq=>⟨(V.writeX g A.at_ A.bs,W.writeX g A.at_ A.bs),⟨by unfold z7s;rw[←hkk];simp[k12],fun h=>?_⟩,hq⟩;rw[h8,h11,wr2 h];simp
 refine z05 (by simp;omega) ?_;exact z03 [0,0,0] fun q hq=>⟨(V,W),⟨by unfold z7s;rw[←hkk];simp[k0,k1,k2,k3,k4,k5,k12],fun h=>rfl⟩,hq⟩
end
end Go.Moat

/- Layer 15: few; a block that is taken is bytes 0. -/
namespace Go.Moat
open Go.Mini
structure ActIn(T:HA)(A:ActS):Prop where
 k:A.k<256
 lab:A.lab<65536
 c:A.c<256
 rd:RdC T A.b 1 (bytesOf A.bs)
theorem ActIn.ok{T:HA}{A:ActS}(h:ActIn T A)(hl:A.b.len≤200):ActOk T A:=⟨h.k,h.lab,h.c,h.rd,by have:=z4o h.rd;omega⟩
section
variable{N:Nat}{β:Type}{l:List HA}{S:β→HA}{v d w:Nat}{g:Geo}{V:VolS}{W:RefS}{m:M β}{T:HA}{s:Sl}{acts:List ActS}{e:Nat}{cs:List MV}
theorem z13b(n:Nat)(hl:l[n]? = some T)(hr:RdC T s e cs){i o e' ln:Nat}{p:Option MA}(hi:i<s.len)(ho:o<e)(hv:cs[i * e+o]? = some (.sl p ln e')){f:Sl→M β}(kk:Tri (z00 l) (f ⟨p,ln⟩) S):Tri (z00 l) (bd (idx e s (i:Int)) fun q=>bd (fld q o) fun q=>bd (ldL e' q) f) S:=by
 have e1:(bd (idx e s (i:Int)) fun q=>bd (fld q o) fun q=>bd (ldL e' q) f)=bd (bd (idx e s (i:Int)) fun q=>bd (fld q o) fun q=>ldL e' q) f:=by
  rw[bd_bd];congr 1;funext q;rw[bd_bd]
 rw[e1];refine z6y n hl (fun h q hq hh=>?_) kk;obtain⟨a,r,ro,h1,h2,h3,h4⟩:=hr.elem hq hh hi;have h5:=zfd h4 ho;simp only[bd,h1,fld,ret];exact zh4 h2 (h5.trans hv)
structure FewOk(T:HA)(acts:List ActS)(r:Sl)(k:Nat):Prop where
 le:k≤acts.length
 k100:k≤100
 small:∀(i:Nat)(hi:i<acts.length),i<k→acts[i].b.len≤200
 len:r.len=k
 rd:0<k→RdC T r 20 (z1j z3z (acts.take k))
theorem z10u(hr:acts≠[]→RdC T s 20 (z1j z3z acts))(hlen:s.len=acts.length)(hN:200<N):Tri (z00 [T]) (F_2s N s) fun r=>exA fun k:Nat=>pu (FewOk T acts r k) (z00 [T]):=by
 have hne:∀{k:Nat},k<acts.length→acts≠[]:=fun h c=>by subst c;simp at h
 unfold F_2s;have cut:∀k:Nat,k≤acts.length→k≤100→(∀(i:Nat)(hi:i<acts.length),i<k→acts[i].b.len≤200)→FewOk T acts (z3q 20 s 0 k) k:=by
  intro k hk h100 hs;refine⟨hk,h100,hs,by simp[z3q],fun hk0=>?_⟩;have:=(hr (hne (k:=0) (by omega))).sub (lo:=0) (hi:=k) (Nat.zero_le _) (by omega)
  rw[Nat.zero_mul,List.drop_zero,Nat.sub_zero]at this;have e1:(z1j z3z acts).take (k * 20)=z1j z3z (acts.take k):=by
   have e2:z1j z3z acts=z1j z3z (acts.take k)++z1j z3z (acts.drop k):=by rw[←z87,List.take_append_drop]
   rw[e2];exact List.take_left' (by rw[z0p z6c,List.length_take,Nat.min_eq_left hk])
  rw[e1]at this;exact this
 have loop':∀(K k:Nat),101 - k<K→k≤acts.length→k≤100→(∀(i:Nat)(hi:i<acts.length),i<k→acts[i].b.len≤200) →
   Tri (z00 [T]) (z0l K (F_4t N s) (k:Int)) fun r=>pu (match r with | .inl _=>FewOk T acts s acts.length | .inr z=>∃k:Nat,FewOk T acts z k) (z00 [T]):=by
  intro K;induction K with
  | zero=>intro k h;omega
  | succ K ih=>
   intro k h hk h100 hs;rw[z18];unfold F_4t;by_cases hkl:k<acts.length
   ·refine z07 (by simp[hlen];omega) ?_;refine z02 [0] (Q:=fun c=>pu (c=(decide (100≤k) || decide (200<acts[k].b.len))) (z00 [T])) ?_ fun c=>z04 fun hc=>z01 ?_
    ·by_cases h1:100≤k
     ·exact z05 (by simp;omega) (z03 [0] fun q hq=>⟨by simp[h1],hq⟩)
     ·refine z07 (by simp;omega) ?_;refine z13b 0 rfl (hr (hne hkl)) (i:=k) (o:=4) (by omega) (by omega) (by rw[z2u z6c hkl (by omega)];rfl) ?_;refine z03 [0] fun q hq=>⟨?_,hq⟩;simp[h1];omega
    dsimp only[sel,rem,nth,del,cat,upd];by_cases hbad:100≤k∨200<acts[k].b.len
    ·refine z07 (by rw[hc];simpa using hbad) ?_;refine tri_slc (by omega) (by omega) (by omega) ?_;rw[Int.toNat_natCast];exact z03 [0] fun q hq=>⟨⟨k,cut k (by omega) h100 hs⟩,hq⟩
    ·refine z05 (by rw[hc];simpa using hbad) ?_;rw[not_or]at hbad;rw[z0i (by omega) (by omega)];refine ih (k+1) (by omega) (by omega) (by omega) fun i hi hik=>?_;by_cases e:i=k
     ·subst e;omega
     ·exact hs i hi (by omega)
   ·obtain rfl:k=acts.length:=by omega
    refine z05 (by simp[hlen]) (z03 [0] fun q hq=>⟨⟨Nat.le_refl _,h100,hs,hlen,fun h0=>?_⟩,hq⟩);rw[List.take_length];exact hr (hne h0)
 refine z02 [0] (loop' N 0 (by omega) (by omega) (by omega) fun i _ h=>by omega) fun r=>z04 fun hr'=>z01 ?_;cases r with
 | inl _=>exact z03 [0] fun q hq=>⟨acts.length,hr',hq⟩
 | inr z=>obtain⟨k,hk⟩:=hr';exact z03 [0] fun q hq=>⟨k,hk,hq⟩
theorem zm3(hg:g.ok):VOk g (zfq g):=by
 have inv:=zan g;have hga:g.all=g.blk+g.B:=rfl;have hblk:g.blk=4+g.J+g.I / 2:=rfl;refine⟨inv,fun b hb=>?_,fun b hb _=>?_,by simp[zfq,zhz]⟩
 ·unfold VolS.readE;rw[if_pos (by omega)];show z6d (z81 g) ((g.blk:Int)+b)=0;rw[show((g.blk:Int)+b)=((g.blk+b:Nat):Int) by simp];exact z9o rfl (by rw[zax];omega)
 ·unfold VolS.readB;show(getS (z81 g) ((g.blk:Int)+b)).b=z14;rw[show((g.blk:Int)+b)=((g.blk+b:Nat):Int) by simp,zjf (by omega) (by omega)];rfl
theorem z10v(hg:g.ok):Like g (zfq g) (zj7 g):=by
 have hga:g.all=g.blk+g.B:=rfl;have hblk:g.blk=4+g.J+g.I / 2:=rfl;refine⟨zm3 hg,rfl,by simp[zj7],by simp[zj7],fun b hb=>?_,fun b hb=>?_⟩
 ·have e:(zfq g).readB g b=z14:=(zm3 hg).zero b hb (zgs b);rw[e];show(List.replicate g.B z14)[b]? = _;rw[List.getElem?_replicate,if_pos hb]
 ·show(List.replicate g.B false)[b]? = _;rw[List.getElem?_replicate,if_pos hb];rfl
end
end Go.Moat
