/- Layer 15: what a volume is, in memory. -/
import Derived.Test.YtcaaljlhljemoaaGreatP15f
namespace Go.Mini
def RO{α:Type}(m:M α):Prop:=∀h a h',m h=some (a,h')→h'=h
theorem z3e{α:Type}(a:α):RO (ret a):=fun h b h' e=>by cases e;rfl
theorem zcm{α:Type}:RO (z0d:M α):=fun h b h' e=>by cases e
theorem z2p{α γ:Type}{m:M α}{f:α→M γ}(hm:RO m)(hf:∀a,RO (f a)):RO (bd m f):=by
 intro h b h' e;unfold bd at e;cases hx:m h with
 | none=>rw[hx]at e;cases e
 | some r=>
  obtain⟨a,h1⟩:=r;rw[hx]at e;have:=hm h a h1 hx
  subst this;exact hf a _ b h' e
theorem zkz(p:Option MA):RO (ldc p):=by
 intro h a h' e;unfold ldc at e;repeat (split at e<;>first | (cases e;done) | skip)
 cases e;rfl
theorem z14s(n:Nat)(p:Option MA):RO (ldn n p):=by
 intro h a h' e;unfold ldn at e;repeat (split at e<;>first | (cases e;done) | skip)
 cases e;rfl
theorem zbp{α:Type}(o:Option α):RO (z09 o):=by
 intro h a h' e;unfold z09 at e;split at e<;>cases e;rfl
theorem z8e(p:Option MA):RO (nonNil p):=by cases p<;>first | exact zcm | exact z3e _
theorem zbq(p:Option MA)(n:Nat):RO (fld p n):=by cases p<;>first | exact zcm | exact z3e _
theorem zwz(e:Nat)(s:Sl)(i:Int):RO (idx e s i):=by
 unfold idx;split
 ·split
  ·exact z3e _
  ·exact zcm
 ·exact zcm
theorem zx0(k:IntKind)(p:Option MA):RO (ldI k p):=z2p (zkz p) fun _=>zbp _
theorem z14t(p:Option MA):RO (ldB p):=z2p (zkz p) fun _=>zbp _
theorem z14u(p:Option MA):RO (ldM p):=z2p (zkz p) fun _=>zbp _
theorem zl0(e:Nat)(p:Option MA):RO (ldL e p):=z2p (zkz p) fun _=>zbp _
theorem zx1(r:Option Nat):RO (z88 r):=by
 intro h a h' e;unfold z88 at e;split at e
 ·cases e;rfl
 ·split at e<;>cases e;rfl
theorem zx2(r:Option Nat):RO (mapLen r):=z2p (zx1 r) fun _=>z3e _
theorem frz_ro{α:Type}{m:M α}(k:RO m):frz m=m:=by
 funext h;unfold frz;cases hx:m h with
 | none=>rfl
 | some r=>
  obtain⟨a,h'⟩:=r;have:=k h a h' hx
  subst this;dsimp only;rw[(zey _ _).2 (z4h.refl _)];rfl
theorem z103{α:Type}{f:Nat→M α}(k:∀b,RO (f b)):RO (bd (z3z 0) f):=fun h a h' e=>k h.size h a h' e
section
variable{α:Type}
def z3i:List (Int×α)→Int→Option α
 | [],_=>none
 | e::r,k=>if k=e.1 then some e.2 else z3i r k
def z7n:List (Int×α)→Int→α→List (Int×α)
 | [],k,v=>[(k,v)]
 | e::r,k,v=>if k=e.1 then(k,v)::r else e::z7n r k v
theorem zjb(f:Int→α→MV):∀(L:List (Int×α))(k:Int),z6s (L.map fun e=>(e.1,f e.1 e.2)) k=(z3i L k).map (f k)
 | [],_=>rfl
 | e::r,k=>by
  simp only[List.map_cons,z6s,z3i];split
  ·rename_i h;rw[h];rfl
  ·exact zjb f r k
theorem zq2(f:Int→α→MV)(v:α):∀(L:List (Int×α))(k:Int),z6t (L.map fun e=>(e.1,f e.1 e.2)) k (f k v)=(z7n L k v).map fun e=>(e.1,f e.1 e.2)
 | [],_=>rfl
 | e::r,k=>by
  simp only[List.map_cons,z6t,z7n];split
  ·rfl
  ·rw[zq2 f v r k];rfl
theorem zq3{γ:Type}(f:α→γ)(v:α):∀(L:List (Int×α))(k:Int),(z7n L k v).map (fun e=>(e.1,f e.2))=z7n (L.map fun e=>(e.1,f e.2)) k (f v)
 | [],_=>rfl
 | e::r,k=>by
  simp only[List.map_cons,z7n];split
  ·rfl
  ·rw[List.map_cons,zq3 f v r k]
theorem zjc{γ:Type}(f:α→γ):∀(L:List (Int×α))(k:Int),z3i (L.map fun e=>(e.1,f e.2)) k=(z3i L k).map f
 | [],_=>rfl
 | e::r,k=>by
  simp only[List.map_cons,z3i];split
  ·rfl
  ·exact zjc f r k
theorem zjd{v:α}:∀{L:List (Int×α)}{k:Int}{e:Int×α},e∈z7n L k v→e=(k,v)∨e∈L
 | [],k,e,h=>by simpa[z7n]using h
 | x::r,k,e,h=>by
  unfold z7n at h;split at h
  ·rcases List.mem_cons.1 h with h | h
   ·exact .inl h
   ·exact .inr (List.mem_cons_of_mem _ h)
  ·rcases List.mem_cons.1 h with h | h
   ·exact .inr (by rw[h];simp)
   ·rcases zjd h with h | h
    ·exact .inl h
    ·exact .inr (List.mem_cons_of_mem _ h)
theorem zf6(v:α):∀(L:List (Int×α))(k k':Int),z3i (z7n L k v) k'=if k'=k then some v else z3i L k'
 | [],k,k'=>by simp[z7n,z3i]
 | e::r,k,k'=>by
  have ih:=zf6 v r k k';unfold z7n;by_cases h:k=e.1
  ·rw[if_pos h];simp only[z3i,←h];split<;>rfl
  ·rw[if_neg h];simp only[z3i,ih];by_cases h2:k'=e.1
   ·rw[if_pos h2,if_pos h2,if_neg (fun c:k'=k=>h (c.symm.trans h2))]
   ·rw[if_neg h2,if_neg h2]
theorem zau{L:List (Int×α)}{k:Int}{v:α}(h:z3i L k=some v):(k,v)∈L:=by
 induction L with
 | nil=>cases h
 | cons e r ih=>
  unfold z3i at h;split at h
  ·rename_i hk;cases h;rw[hk];exact List.mem_cons_self
  ·exact List.mem_cons_of_mem _ (ih h)
end
end Go.Mini
namespace Go.Moat
open Go.Mini
theorem zq4{N:Nat}(d:Option MA):RO (F_00 N d):=by
 unfold F_00;split
 ·exact z3e _
 ·exact z2p (z8e _) fun _=>z2p (zbq _ _) fun _=>z2p (zl0 _ _) fun _=>z3e _
def z1u(P:List (Sl×List UInt8)):HA:=z00 (P.map fun x=>z07 x.1 1 (bytesOf x.2))
theorem zn6{P:List (Sl×List UInt8)}{s:Sl}{bs:List UInt8}{q:PH}{l:List HA}(h:z00 (z07 s 1 (bytesOf bs)::z1u P::l) q):z00 (z1u ((s,bs)::P)::l) q:=by
 have:z00 (z1u ((s,bs)::P)::l)=z00 (z07 s 1 (bytesOf bs)::z1u P::l):=by
  show z1b (z1b _ _) _=z1b _ (z1b _ _);rw[z4i];rfl
 rw[this];exact h
theorem zav{P:List (Sl×List UInt8)}{s:Sl}{bs:List UInt8}(h:(s,bs)∈P)(hl:s.len=bs.length):RdC (z1u P) s 1 (bytesOf bs):=by
 induction P with
 | nil=>cases h
 | cons x r ih=>
  have e:z1u (x::r)=z1b (z07 x.1 1 (bytesOf x.2)) (z1u r):=rfl;rw[e];rcases List.mem_cons.1 h with h | h
  ·subst h;exact(z0e (by rw[z0i];dsimp only;omega)).star_l
  ·exact(ih h).star_r
structure DV where
 s:Sl
 b:List UInt8
 t:Nat
def DV.f(x:DV):List UInt8×Nat:=(x.b,x.t)
def dvC(g:Geo)(k:Int)(x:DV):MV :=.agg [.int .i64 (g.blk+k),.sl x.s.p x.s.len 1,.int .u16 x.t]
def dkv(g:Geo)(L:List (Int×DV)):List (Int×MV):=L.map fun e=>(e.1,dvC g e.1 e.2)
structure NowS where
 m:MetaS
 dirty:List (Int×(List UInt8×Nat))
structure VolS where
 n:NowS
 disk:DskS
 seq:Nat
 safe:List (List UInt8)
 before:Option NowS
 dead:Bool
structure VC where
 rows:Sl
 own:Sl
 used:Sl
 ino:Sl
 mp:Nat
 d:Nat
 j:Nat
 safe:Sl
 bp:Option MA
 dead:Bool
def z2j(g:Geo)(x:VC):List MV:=[.sl x.rows.p x.rows.len 2,.sl x.own.p x.own.len 1,.sl x.used.p x.used.len 1,.sl x.ino.p x.ino.len 14,.map (some x.mp),.ptr (some ⟨x.d,0⟩),
 .int .i64 g.J,.int .i64 g.I,.int .i64 g.G,.int .i64 g.P,.int .i64 1,.int .i64 g.lab,.int .i64 (2+g.J:Nat),.int .i64 (3+g.J:Nat),.int .i64 (4+g.J:Nat),.int .i64 g.blk,.int .i64 g.all,
 .ptr (some ⟨x.j,0⟩),.sl x.safe.p x.safe.len 1,.ptr x.bp,.bool x.dead]
structure DOk(P:List (Sl×List UInt8))(L:List (Int×DV)):Prop where
 mem:∀e∈L,(e.2.s,e.2.b)∈P
 len:∀e∈L,e.2.s.len=64∧e.2.b.length=64
 tag:∀e∈L,e.2.t<65536
def zbr(L:List (Int×DV)):List (Int×(List UInt8×Nat)):=L.map fun e=>(e.1,e.2.f)
structure NC where
 rows:Sl
 own:Sl
 used:Sl
 ino:Sl
 mp:Nat
def nowC(x:NC):List MV:=[.sl x.rows.p x.rows.len 2,.sl x.own.p x.own.len 1,.sl x.used.p x.used.len 1,.sl x.ino.p x.ino.len 14,.map (some x.mp)]
def zf7(g:Geo)(x:NC)(n:NowS)(L:List (Int×DV)):List HA:=[z07 x.rows 2 (z0y n.m.rows),z07 x.own 1 (z2g n.m.own),z07 x.used 1 (bytesOf n.m.used),z07 x.ino 14 (z1t n.m.ino),z65 .i64 x.mp (dkv g L)]
def zgt(g:Geo)(P:List (Sl×List UInt8)):Option MA→Option NowS→HA
 | none,none=>emp
 | some a,some n=>exA fun x:NC×List (Int×DV)=>pu (a.off=0∧zbr x.2=n.dirty∧DOk P x.2) (z00 (pts a.blk (.cells (nowC x.1) false)::zf7 g x.1 n x.2))
 | _,_=>fun _=>False
theorem DOk.mono{P:List (Sl×List UInt8)}{L:List (Int×DV)}(h:DOk P L)(x:Sl×List UInt8):DOk (x::P) L:=⟨fun e he=>List.mem_cons_of_mem _ (h.mem e he),h.len,h.tag⟩
theorem zgt.mono{g:Geo}{P:List (Sl×List UInt8)}{bp:Option MA}{b:Option NowS}(x:Sl×List UInt8):∀q,zgt g P bp b q→zgt g (x::P) bp b q:=by
 intro q h;cases bp<;>cases b<;>first | exact h | skip
 obtain⟨y,⟨h1,h2,h3⟩,h4⟩:=h;exact⟨y,⟨h1,h2,h3.mono x⟩,h4⟩
def z3b(d:Nat)(g:Geo)(seq:Nat):List MV:=[.ptr (some ⟨d,0⟩),.int .i64 1,.int .i64 g.J,.int .u64 seq]
structure VH where
 x:VC
 L:List (Int×DV)
 P:List (Sl×List UInt8)
 sf:List (Sl×List UInt8)
structure VHok(V:VolS)(y:VH):Prop where
 dirty:zbr y.L=V.n.dirty
 dok:DOk y.P y.L
 safe:y.sf.map (·.2)=V.safe
 smem:∀e∈y.sf,e∈y.P∧e.1.len=64∧e.2.length=64
 dead:y.x.dead=V.dead
def volL(v d:Nat)(g:Geo)(V:VolS)(y:VH):List HA:=[pts v (.cells (z2j g y.x) false),z07 y.x.rows 2 (z0y V.n.m.rows),z07 y.x.own 1 (z2g V.n.m.own),z07 y.x.used 1 (bytesOf V.n.m.used),z07 y.x.ino 14 (z1t V.n.m.ino),z65 .i64 y.x.mp (dkv g y.L),
 z1u y.P,z1h d V.disk,pts y.x.j (.cells (z3b d g V.seq) false),z07 y.x.safe 1 (z3w y.sf),zgt g y.P y.x.bp V.before]
def z18(v d:Nat)(g:Geo)(V:VolS):HA:=exA fun y:VH=>pu (VHok V y∧y.x.d=d) (z00 (volL v d g V y))
section
variable{N:Nat}{β:Type}{l:List HA}{S:β→HA}{v d:Nat}{g:Geo}{V:VolS}{m:M β}
theorem z2f(n:Nat)(hl:l[n]? = some (z18 v d g V))(k:∀y,VHok V y→y.x.d=d→Tri (z00 (cat (volL v d g V y) (del l n))) m S):Tri (z00 l) m S:=
 zfc (γ:=VH) (φ:=fun y=>VHok V y∧y.x.d=d) (L:=fun y=>volL v d g V y) n hl (fun _ ⟨x,h1,h2⟩=>⟨x,h1,h2⟩) fun x h=>k x h.1 h.2
theorem z1p{y:VH}{q:PH}(hy:VHok V y)(hd:y.x.d=d)(h:z00 (volL v d g V y) q):z00 [z18 v d g V] q:=by
 rw[z0v];exact⟨y,⟨hy,hd⟩,h⟩
theorem vol_fold'{y:VH}{q:PH}{l:List HA}(hy:VHok V y)(hd:y.x.d=d)(h:z00 (cat (volL v d g V y) l) q):z00 (z18 v d g V::l) q:=
 z8i (volL v d g V y) (fun q h=>⟨y,⟨hy,hd⟩,h⟩) h
theorem z9r(n:Nat){x:VC}(hl:l[n]? = some (pts v (.cells (z2j g x) false))){f:Sl→M β}(kk:Tri (z00 l) (f x.rows) S):Tri (z00 l) (bd (nonNil (some ⟨v,0⟩)) fun q=>bd (fld q 0) fun q=>bd (fld q 0) fun q=>bd (fld q 0) fun q=>bd (ldL 2 q) f) S:=
 z0h (z06 (z06 (z06 (z0z n hl rfl kk))))
theorem zaw(n:Nat){x:VC}(hl:l[n]? = some (pts v (.cells (z2j g x) false))){f:Sl→M β}(kk:Tri (z00 l) (f x.own) S):Tri (z00 l) (bd (nonNil (some ⟨v,0⟩)) fun q=>bd (fld q 0) fun q=>bd (fld q 0) fun q=>bd (fld q 1) fun q=>bd (ldL 1 q) f) S:=
 z0h (z06 (z06 (z06 (z0z n hl rfl kk))))
theorem zbs(n:Nat){x:VC}(hl:l[n]? = some (pts v (.cells (z2j g x) false))){f:Sl→M β}(kk:Tri (z00 l) (f x.used) S):Tri (z00 l) (bd (nonNil (some ⟨v,0⟩)) fun q=>bd (fld q 0) fun q=>bd (fld q 0) fun q=>bd (fld q 2) fun q=>bd (ldL 1 q) f) S:=
 z0h (z06 (z06 (z06 (z0z n hl rfl kk))))
theorem z6r(n:Nat){x:VC}(hl:l[n]? = some (pts v (.cells (z2j g x) false))){f:Sl→M β}(kk:Tri (z00 l) (f x.ino) S):Tri (z00 l) (bd (nonNil (some ⟨v,0⟩)) fun q=>bd (fld q 0) fun q=>bd (fld q 0) fun q=>bd (fld q 3) fun q=>bd (ldL 14 q) f) S:=
 z0h (z06 (z06 (z06 (z0z n hl rfl kk))))
theorem zje(n:Nat){x:VC}(hl:l[n]? = some (pts v (.cells (z2j g x) false))){f:Option Nat→M β}(kk:Tri (z00 l) (f (some x.mp)) S):Tri (z00 l) (bd (nonNil (some ⟨v,0⟩)) fun q=>bd (fld q 0) fun q=>bd (fld q 4) fun q=>bd (ldM q) f) S:=
 z0h (z06 (z06 (z3o n hl (fun _ hg=>zl4 hg rfl) kk)))
theorem z14v(n:Nat){x:VC}(hl:l[n]? = some (pts v (.cells (z2j g x) false))){f:Int→M β}(kk:Tri (z00 l) (f g.G) S):Tri (z00 l) (bd (nonNil (some ⟨v,0⟩)) fun q=>bd (fld q 6) fun q=>bd (fld q 2) fun q=>bd (ldI .i64 q) f) S:=
 z0h (z06 (z06 (z29 n hl rfl kk)))
theorem z8f(n:Nat){x:VC}(hl:l[n]? = some (pts v (.cells (z2j g x) false))){f:Int→M β}(kk:Tri (z00 l) (f g.P) S):Tri (z00 l) (bd (nonNil (some ⟨v,0⟩)) fun q=>bd (fld q 6) fun q=>bd (fld q 3) fun q=>bd (ldI .i64 q) f) S:=
 z0h (z06 (z06 (z29 n hl rfl kk)))
theorem zq5(n:Nat){x:VC}(hl:l[n]? = some (pts v (.cells (z2j g x) false))){f:Int→M β}(kk:Tri (z00 l) (f g.blk) S):Tri (z00 l) (bd (nonNil (some ⟨v,0⟩)) fun q=>bd (fld q 10) fun q=>bd (fld q 5) fun q=>bd (ldI .i64 q) f) S:=
 z0h (z06 (z06 (z29 n hl rfl kk)))
theorem zgu(n:Nat){x:VC}(hl:l[n]? = some (pts v (.cells (z2j g x) false))){s:Sl}{f:Unit→M β}(kk:Tri (z00 (upd l n (pts v (.cells (z2j g {x with rows:=s}) false)))) (f ()) S):Tri (z00 l) (bd (nonNil (some ⟨v,0⟩)) fun q=>bd (fld q 0) fun q=>bd (fld q 0) fun q=>bd (fld q 0) fun q=>bd (stc q (.sl s.p s.len 2)) f) S:=
 z0h (z06 (z06 (z06 (z1x n hl (by simp[z2j]) rfl kk))))
theorem zx3(n:Nat){x:VC}(hl:l[n]? = some (pts v (.cells (z2j g x) false))){s:Sl}{f:Unit→M β}(kk:Tri (z00 (upd l n (pts v (.cells (z2j g {x with used:=s}) false)))) (f ()) S):Tri (z00 l) (bd (nonNil (some ⟨v,0⟩)) fun q=>bd (fld q 0) fun q=>bd (fld q 0) fun q=>bd (fld q 2) fun q=>bd (stc q (.sl s.p s.len 1)) f) S:=
 z0h (z06 (z06 (z06 (z1x n hl (by simp[z2j]) rfl kk))))
def VolS.wM(V:VolS)(m:MetaS):VolS:={V with n:={V.n with m:=m}}
def VolS.wRows(V:VolS)(r:List Row):VolS:=V.wM {V.n.m with rows:=r}
def VolS.wOwn(V:VolS)(r:List Nat):VolS:=V.wM {V.n.m with own:=r}
def VolS.wUsed(V:VolS)(r:List UInt8):VolS:=V.wM {V.n.m with used:=r}
def VolS.wIno(V:VolS)(r:List Ino):VolS:=V.wM {V.n.m with ino:=r}
theorem VHok.wM{y:VH}(h:VHok V y)(mm:MetaS)(x:VC)(hx:x.dead=y.x.dead):VHok (V.wM mm) {y with x:=x}:=⟨h.1,h.2,h.3,h.4,hx.trans h.5⟩
theorem zgv{i:Nat}(hu:V.n.m.used.length=64)(hi:i<512)(on:Bool):Tri (z00 [z18 v d g V]) (F_0r N (some ⟨v,0⟩) (i:Int) on) fun _=>z00 [z18 v d g (V.wUsed (z13 V.n.m.used i on))]:=by
 unfold F_0r;refine z2f 0 rfl fun y hy hd=>?_;dsimp only[sel,rem,nth,del,cat,upd,volL];refine zbs 0 rfl ?_;refine z0a 3 rfl fun h3=>?_;refine z02 [3] (zxf (z0e h3) (by omega) (by omega) on) fun r=>z04 fun hr=>z01 ?_;dsimp only[sel,rem,nth,del,cat,upd];refine zx3 2 rfl ?_;dsimp only[sel,rem,nth,del,cat,upd] ;refine z03 [2,2,2,0,1,1,1,1,1,1,1] fun q hq=>?_;exact z1p (V:=V.wUsed _) (y:={y with x:={y.x with used:=r.1}}) (hy.wM _ _ rfl) hd hq
theorem zrn{k:Nat}(hu:V.n.m.used.length=64)(hg:g.ok)(hk:k<g.G)(hN:5000<N):Tri (z00 [z18 v d g V]) (F_0q N (some ⟨v,0⟩) (k:Int)) fun r=>pu (r=(z3j V.n.m.used (k * g.P) ((k+1) * g.P):Nat)) (z00 [z18 v d g V]):=by
 have hgp:=hg.gp;have hpp:=hg.pp;have hb:(k+1) * g.P≤g.G * g.P:=Nat.mul_le_mul_right _ hk;have hb2:k * g.P≤(k+1) * g.P:=Nat.mul_le_mul_right _ (by omega);unfold F_0q;refine z2f 0 rfl fun y hy hd=>?_;dsimp only[sel,rem,nth,del,cat,upd,volL];refine zbs 0 rfl (z8f 0 rfl (z8f 0 rfl ?_));have e1:(k:Int) * (g.P:Int)=((k * g.P:Nat):Int):=by simp
 have e2:wr .i64 ((k:Int)+1)=((k+1:Nat):Int):=by rw[z0f (by have:=hg.g2;omega) (by have:=hg.g2;omega)];simp
 have e3:((k+1:Nat):Int) * (g.P:Int)=(((k+1) * g.P:Nat):Int):=by simp
 rw[e1,e2,e3,z0f (by omega) (by omega),z0f (by omega) (by omega)];refine z0a 3 rfl fun h3=>?_;refine z02 [3] (zfj (z0e h3) (by omega) hb2 (by omega) hN) fun r=>z04 fun hr=>z01 ?_;dsimp only[sel,rem,nth,del,cat,upd];refine z03 [1,1,1,0,0,0,0,0,0,0,0] fun q hq=>⟨hr,z1p hy hd hq⟩
end
end Go.Moat

/- Layer 15: the volume's functions that leave the disk alone. -/
namespace Go.Moat
open Go.Mini
def MetaS.isAt(g:Geo)(m:MetaS)(row:Nat)(i:Nat):Bool:=decide (m.own[i / g.P]? = some (row+1)) && !z0s m.used i
def MetaS.atB(g:Geo)(m:MetaS)(a:Nat):Option Nat:=match m.rows.findIdx? (z31 a)with
 | some r=>(List.range' 0 g.B).find? (m.isAt g r)
 | none=>none
def z50(o:Nat):Bool:=decide (o=0)
def MetaS.alloc(g:Geo)(m:MetaS)(a:Nat):(Int×Int)×MetaS:=match m.atB g a with
 | some b=>(((b:Int),0),{m with used:=z13 m.used b true})
 | none=>match m.own.findIdx? z50 with
  | none=>((0,5),m)
  | some k=>if z3k m.rows a=0 then((((k * g.P:Nat):Int),0),{m with rows:=zad m.rows a,own:=m.own.set k (z3d m.rows a+1),used:=z13 m.used (k * g.P) true})else((0,z3k m.rows a),m)
def MetaS.usedE(g:Geo)(m:MetaS)(b:Int):Int:=if 0≤b∧b<g.B then(if z0s m.used b.toNat then 0 else 2)else 1
def MetaS.ownT(g:Geo)(m:MetaS)(b:Nat):Nat:=match m.own[b / g.P]?.getD 0 with
 | 0=>0
 | o+1=>(rowN m.rows o).1
def MetaS.free(g:Geo)(m:MetaS)(b:Nat):MetaS:=
 if z3j (z13 m.used b false) (b / g.P * g.P) ((b / g.P+1) * g.P)=0 then {m with used:=z13 m.used b false,rows:=z7r m.rows (m.own[b / g.P]?.getD 0 - 1),own:=m.own.set (b / g.P) 0}else {m with used:=z13 m.used b false}
def z4o(n:Ino):Bool:=decide (n.k=0)
def zdh(k r:Nat):Ino:=⟨k,r,⟨List.replicate 12 0,by simp⟩⟩
def MetaS.make(m:MetaS)(kind a:Nat):(Int×Int)×MetaS:=
 if kind=1∨kind=2 then(match m.ino.findIdx? z4o with
  | none=>((0,5),m)
  | some i=>if z3k m.rows a=0 then(((i:Int),0),{m with rows:=zad m.rows a,ino:=m.ino.set i (zdh kind (z3d m.rows a))})else((0,z3k m.rows a),m))
 else((0,1),m)
def z4f(l:List Ino)(i:Nat):Ino:=l[i]?.getD Ino.z
def MetaS.hasE(m:MetaS)(i:Int):Int:=if 0≤i∧i<m.ino.length then(if(z4f m.ino i.toNat).k=0 then 2 else 0)else 1
def MetaS.unmake(m:MetaS)(i:Nat):MetaS:={m with rows:=z7r m.rows (z4f m.ino i).r,ino:=m.ino.set i Ino.z}
def MetaS.setE(m:MetaS)(i:Int)(n:Ino):Int:=if m.hasE i=1 then 1 else if n.ok=false∨n.k=0 then 1 else if m.hasE i≠0 then 2 else if n.k≠(z4f m.ino i.toNat).k∨n.r≠(z4f m.ino i.toNat).r then 1 else 0
structure RefOk(m:MetaS):Prop where
 own:∀o∈m.own,0<o→0<(rowN m.rows (o - 1)).2
 ino:∀n∈m.ino,n.k≠0→0<(rowN m.rows n.r).2
section
variable{N:Nat}{β:Type}{l:List HA}{S:β→HA}{v d:Nat}{g:Geo}{V:VolS}{m:M β}
theorem ziq(hg:g.ok)(i:Int):Tri (z00 [z18 v d g V]) (F_1k N (some ⟨v,0⟩) i) fun r=>pu (r=decide (0≤i∧i<g.B)) (z00 [z18 v d g V]):=by
 have hgp:=hg.gp;unfold F_1k;refine z02 [0] (Q:=fun r=>pu (r=decide (0≤i∧i<g.B)) (z00 [z18 v d g V])) ?_ fun r=>z04 fun h=>z01 (z03 [0] fun q hq=>⟨h,hq⟩);by_cases h:0≤i
 ·refine z08 (by simpa using h) ?_;refine z2f 0 rfl fun y hy hd=>?_;dsimp only[sel,rem,nth,del,cat,upd,volL];refine z14v 0 rfl (z8f 0 rfl ?_);have e1:(g.G:Int) * (g.P:Int)=((g.G * g.P:Nat):Int):=by simp
  rw[e1,z0f (by omega) (by omega)];refine z03 [0,0,0,0,0,0,0,0,0,0,0] fun q hq=>⟨?_,z1p hy hd hq⟩;simp[h,Geo.B]
 ·refine z05 (by simpa using h) (z03 [0] fun q hq=>⟨by simp[h],hq⟩)
theorem zle(hg:g.ok)(hu:V.n.m.used.length=64)(i:Int):Tri (z00 [z18 v d g V]) (F_1l N (some ⟨v,0⟩) i) fun r=>pu (r=V.n.m.usedE g i) (z00 [z18 v d g V]):=by
 unfold F_1l;refine z05 (by simp) ?_;refine z02 [0] (ziq hg i) fun r=>z04 fun h=>z01 ?_;dsimp only[sel,rem,nth,del,cat,upd];unfold MetaS.usedE;by_cases hi:0≤i∧i<g.B
 ·rw[if_pos hi];refine z05 (by simp[h,hi]) ?_;refine z2f 0 rfl fun y hy hd=>?_;dsimp only[sel,rem,nth,del,cat,upd,volL];refine zbs 0 rfl ?_;refine z0a 3 rfl fun h3=>?_;refine z02 [3] (zqh (z0e h3) (by omega) i) fun r=>z04 fun hr=>z01 ?_;dsimp only[sel,rem,nth,del,cat,upd];have e:decide (0≤i)=true:=by simp[hi.1]
  rw[e,Bool.true_and]at hr;subst hr;cases hb:z0s V.n.m.used i.toNat
  ·refine z08 rfl (z03 [1,1,1,0,0,0,0,0,0,0,0] fun q hq=>⟨by simp,z1p hy hd hq⟩)
  ·refine z05 (by simp) (z03 [1,1,1,0,0,0,0,0,0,0,0] fun q hq=>⟨by simp,z1p hy hd hq⟩)
 ·rw[if_neg hi];refine z08 (by simp[h];omega) (z03 [0] fun q hq=>⟨rfl,hq⟩)
theorem z10l(v':Option MA)(b:Int):RO (F_0t N v' b):=by
 unfold F_0t;repeat' first
  | exact z3e _
  | exact zcm
  | exact z8e _
  | exact zbq _ _
  | exact zl0 _ _
  | exact zx0 _ _
  | exact zwz _ _ _
  | (refine z2p ?_ fun _=>?_)
  | split
theorem zuq{y:VH}{T:List HA}(hg:g.ok)(ok:MetaOk g V.n.m){b:Nat}(hb:b<g.B) :
  Tri (z00 [pts v (.cells (z2j g y.x) false),z07 y.x.rows 2 (z0y V.n.m.rows),z07 y.x.own 1 (z2g V.n.m.own)]) (F_0t N (some ⟨v,0⟩) (b:Int)) fun r=>pu (r=(V.n.m.ownT g b:Nat)) (z00 [pts v (.cells (z2j g y.x) false),z07 y.x.rows 2 (z0y V.n.m.rows),z07 y.x.own 1 (z2g V.n.m.own)]):=by
 have hp1:=hg.p1;have hgp:=hg.gp;have hk:b / g.P<g.G:=by
  rw[Nat.div_lt_iff_lt_mul (by omega)];exact hb
 have hkl:b / g.P<V.n.m.own.length:=by rw[ok.ownl];exact hk
 unfold F_0t;refine zaw 0 rfl (z8f 0 rfl ?_);rw[if_neg (by omega)];have e1:(b:Int).tdiv (g.P:Int)=((b / g.P:Nat):Int):=rfl;have hb5:b<512:=by unfold Geo.B at hb;omega
 have hb6:=Nat.div_le_self b g.P;rw[e1];unfold MetaS.ownT;generalize b / g.P=bq at hk hkl hb6;rw[z0f (by omega) (by omega)];refine z0a 2 rfl fun h2=>?_;refine tri_rI 2 rfl (z0e h2) (i:=bq) (k :=.i64) (v:=(V.n.m.own[bq]:Nat)) (by simp[i64s,hkl]) ?_;have ho:=ok.own16 _ (List.getElem_mem hkl);rw[List.getElem?_eq_getElem hkl];dsimp only[Option.getD_some];generalize V.n.m.own[bq]=o at ho;cases o with
 | zero=>exact z05 (by simp) (z03 [0,0,0] fun q hq=>⟨rfl,hq⟩)
 | succ o=>
  have hol:o<V.n.m.rows.length:=by rw[ok.rows.len];omega
  refine z08 (by simp) (z9r 0 rfl ?_);have e2:wr .i64 (((o+1:Nat):Int) - 1)=(o:Int):=by rw[z0f (by omega) (by omega)];omega
  rw[e2];refine z0a 1 rfl fun h1=>?_;rw[z0o z17]at h1;refine z1v 1 rfl (z0e (by rw[z0o z17];omega)) (i:=o) (o:=0) (by omega) (by omega) (v:=(V.n.m.rows[o].1:Nat)) (by rw[z2s z17 hol (by omega)];rfl) ?_;refine z03 [0,0,0] fun q hq=>⟨?_,hq⟩;simp[rowN,hol]
def NowS.write(g:Geo)(n:NowS)(b:Nat)(bs:List UInt8):NowS:={n with dirty:=z7n n.dirty b (bs,n.m.ownT g b)}
def VolS.write(g:Geo)(V:VolS)(b:Nat)(bs:List UInt8):VolS:={V with n:=V.n.write g b bs}
theorem z135(ok:MetaOk g V.n.m)(b:Nat):V.n.m.ownT g b<65536:=by
 unfold MetaS.ownT;split
 ·omega
 ·rename_i o _;unfold rowN;cases h:V.n.m.rows[o]? with
  | none=>simp
  | some r=>exact(ok.rows.rng _ (List.mem_of_getElem? h)).1
theorem zir(hg:g.ok)(ok:MetaOk g V.n.m){b:Nat}(hb:b<g.B){s:Sl}{bs:List UInt8}(hs:s.len=64)(h64:bs.length=64) :
  Tri (z00 [z18 v d g V,z07 s 1 (bytesOf bs)]) (F_1m N (some ⟨v,0⟩) (b:Int) s) fun _=>z00 [z18 v d g (V.write g b bs)]:=by
 have hall:=hg.all_le;have:g.all=g.blk+g.B:=rfl
 unfold F_1m;refine z2f 0 rfl fun y hy hd=>?_;dsimp only[sel,rem,nth,del,cat,upd,volL];refine zje 0 rfl (zq5 0 rfl ?_);rw[frz_ro (z10l _ _)];refine z02 [0,0,0] (zuq (T:=[]) hg ok hb) fun r=>z04 fun hr=>z01 ?_;dsimp only[sel,rem,nth,del,cat,upd];subst hr;have e1:(g.blk:Int)+(b:Int)=((g.blk+b:Nat):Int):=by simp
 rw[e1,z0f (by omega) (by omega)];refine zt6 5 rfl _ _ ?_;dsimp only[sel,rem,nth,del,cat,upd];refine z03 [0,0,0,0,0,0,5,0,0,0,0,0] fun q hq=>?_;let x:DV:=⟨s,bs,V.n.m.ownT g b⟩
 have e2:z6t (dkv g y.L) (b:Int) (.agg [.int .i64 ((g.blk+b:Nat):Int),.sl s.p s.len 1,.int .u16 (V.n.m.ownT g b:Nat)])=dkv g (z7n y.L b x):=by
  have:=zq2 (fun k z=>dvC g k z) x y.L (b:Int)
  rw[dkv,dkv,←this];congr 1
 rw[e2]at hq;dsimp only[sel,rem,nth,del,cat,upd]at hq;have hmem:∀e∈z7n y.L (b:Int) x,e=((b:Int),x)∨e∈y.L:=fun e he=>zjd he;refine z1p (y:={y with L:=z7n y.L b x,P:=(s,bs)::y.P}) ⟨?_,⟨?_,?_,?_⟩,hy.safe,fun e he=>?_,hy.dead⟩ hd ?_
 ·show zbr (z7n y.L b x)=z7n V.n.dirty b (bs,V.n.m.ownT g b);rw[←hy.dirty];exact zq3 DV.f x y.L (b:Int)
 ·intro e he;rcases hmem e he with rfl | he
  ·exact List.mem_cons_self
  ·exact List.mem_cons_of_mem _ (hy.dok.mem e he)
 ·intro e he;rcases hmem e he with rfl | he
  ·exact⟨hs,h64⟩
  ·exact hy.dok.len e he
 ·intro e he;rcases hmem e he with rfl | he
  ·exact z135 ok b
  ·exact hy.dok.tag e he
 ·have:=hy.smem e he
  exact⟨List.mem_cons_of_mem _ this.1,this.2⟩
 ·refine z1d (fun q=>z1d (fun q=>z1d (fun q=>z1d (fun q=>z1d (fun q=>z1d (fun q hq=>zn6 ?_))))) ) hq;exact z1d (fun q=>z1d (fun q=>z1d (fun q=>z1d (fun q=>z1d (fun q=>z49 (zgt.mono _)))))) hq
theorem zng(ok:RowsOk V.n.m.rows){i:Nat}(hi:i<16)(h0:0<(rowN V.n.m.rows i).2)(hN:100<N):Tri (z00 [z18 v d g V]) (F_1n N (some ⟨v,0⟩) (i:Int)) fun _=>z00 [z18 v d g (V.wRows (z7r V.n.m.rows i))]:=by
 unfold F_1n;refine z2f 0 rfl fun y hy hd=>?_;dsimp only[sel,rem,nth,del,cat,upd,volL];refine z9r 0 rfl ?_;refine z0a 1 rfl fun h1=>?_;refine z02 [1] (zqj ok (z0e h1) hi h0 hN) fun r=>z04 fun hr=>z01 ?_;dsimp only[sel,rem,nth,del,cat,upd];refine zgu 2 rfl ?_;dsimp only[sel,rem,nth,del,cat,upd];refine z03 [2,0,1,1,1,1,1,1,1,1,1] fun q hq=>?_;exact z1p (V:=V.wRows _) (y:={y with x:={y.x with rows:=r.1}}) (hy.wM _ _ rfl) hd hq
theorem zfo(n:Nat){s:Sl}{o:List Nat}(hl:l[n]? = some (z07 s 1 (z2g o))){k x:Nat}(hk:k<o.length){f:Unit→M β}(kk:Tri (z00 (upd l n (z07 s 1 (z2g (o.set k x))))) (f ()) S):Tri (z00 l) (bd (idx 1 s (k:Int)) fun q=>bd (stc q (.int .i64 x)) f) S:=by
 refine z77 n hl (fun h1 h2=>?_) fun b ln h1 h2=>?_
 ·have:=congrArg List.length h2
  rw[z2t,List.length_nil]at this;omega
 ·subst h1;rw[z2t]at h2;refine z21 (by omega) (z1x n (z37 l n _ hl) (by rw[z2t];omega) rfl ?_);rw[z3u,Nat.zero_add,Nat.mul_one];have e:(z2g o).set k (.int .i64 x)=z2g (o.set k x):=by
   unfold z2g i64s;rw[List.map_set,List.map_set]
  rw[e];refine kk.pre fun q hq=>?_;have:=z34 n (l:=upd l n (pts b (.cells (z2g (o.set k x)) false))) (B:=z07 ⟨some ⟨b,0⟩,ln⟩ 1 (z2g (o.set k x))) (z37 l n _ hl) (fun q h =>.mk (by rw[z2t,List.length_set];exact h2) h) q hq
  rwa [z3u]at this
theorem zb3(n:Nat){s:Sl}{o:List Ino}(hl:l[n]? = some (z07 s 14 (z1t o))){k:Nat}{x:Ino}(hk:k<o.length){f:Unit→M β}(kk:Tri (z00 (upd l n (z07 s 14 (z1t (o.set k x))))) (f ()) S):Tri (z00 l) (bd (idx 14 s (k:Int)) fun q=>bd (stn 14 q (z0w x)) f) S:=by
 have hb:k * 14+14≤o.length * 14:=z30 hk;refine z77 n hl (fun h1 h2=>?_) fun b ln h1 h2=>?_
 ·have:=congrArg List.length h2
  rw[z0o z0g,List.length_nil]at this;omega
 ·subst h1;rw[z0o z0g]at h2;refine z21 (by omega) (z5c n (z37 l n _ hl) (z0g x) (by rw[z0o z0g,z0g];omega) (z7d x) ?_);rw[z3u,Nat.zero_add,zfg z0g hk];refine kk.pre fun q hq=>?_;have:=z34 n (l:=upd l n (pts b (.cells (z1t (o.set k x)) false))) (B:=z07 ⟨some ⟨b,0⟩,ln⟩ 14 (z1t (o.set k x))) (z37 l n _ hl) (fun q h =>.mk (by rw[z0o z0g,List.length_set];exact h2) h) q hq
  rwa [z3u]at this
theorem zrq{T:HA}{s:Sl}{o:List Nat}(hr:RdC T s 1 (z2g o))(hl:o.length≤64)(hN:100<N):Tri (z00 [T]) (F_2s N s 0) fun r=>pu (r=fi z50 o) (z00 [T]):=by
 have hlen:s.len=o.length:=by
  have:=hr.1
  rw[z2t]at this;omega
 unfold F_2s;refine zd1 (A:=z00 [T]) z50 o (by omega) (fun rec i hi Q k=>?_) fun rec Q k=>?_
 ·unfold F_57;refine z08 (by simp[hlen];omega) ?_;refine tri_rI 0 rfl hr (k :=.i64) (v:=(o[i]:Nat)) (by simp[i64s,hi]) ?_;rw[z0f (by omega) (by omega)];have:(decide ((0:Int)=((o[i]:Nat):Int)))=z50 o[i]:=by
   unfold z50;congr 1;apply propext;omega
  rw[this];exact k
 ·unfold F_57;exact z05 (by simp[hlen]) k
theorem zis(hg:g.ok)(ok:MetaOk g V.n.m){a:Nat}(ha:a<65536)(hN:5000<N):Tri (z00 [z18 v d g V]) (F_07 N (some ⟨v,0⟩) (a:Int)) fun r=>pu (r=(V.n.m.alloc g a).1) (z00 [z18 v d g (V.wM (V.n.m.alloc g a).2)]):=by
 have hgp:=hg.gp;have hpp:=hg.pp;have hG:=hg.g2;have hp1:=hg.p1;have hB:g.B=g.G * g.P:=rfl;have hol:=ok.ownl;have hul:=ok.usedl;unfold F_07;refine z05 (by simp) ?_;refine z2f 0 rfl fun y hy hd=>?_;dsimp only[sel,rem,nth,del,cat,upd,volL];refine z9r 0 rfl ?_;refine z0a 1 rfl fun h1=>z0a 2 rfl fun h2=>z0a 3 rfl fun h3=>?_;refine z02 [1] (zul ha ok.rows (z0e h1) (by omega)) fun r8=>z04 fun hr8=>z01 ?_;dsimp only[sel,rem,nth,del,cat,upd];refine zaw 1 rfl ?_;rw[z2t]at h2
 -- the groups
 have keep:VolS.wM V V.n.m=V:=rfl;have loop:∀(K k:Nat),g.G - k<K→k≤g.G→(∀r,V.n.m.rows.findIdx? (z31 a)=some r→∀i,i<k * g.P→V.n.m.isAt g r i=false) →
   Tri (z00 (volL v d g V y)) (z0l K (F_3q N (some ⟨v,0⟩) r8 y.x.own) (k:Int)) fun r=>match V.n.m.atB g a with
    | some b=>pu (r=.inr ((b:Int),0)) (z00 [z18 v d g (V.wM {V.n.m with used:=z13 V.n.m.used b true})])
    | none=>pu (r=.inl ()) (z00 (volL v d g V y)):=by
  intro K;induction K with
  | zero=>intro k h;omega
  | succ K ih=>
   intro k h hk hno;rw[z16];unfold F_3q;by_cases hkG:k<g.G
   ·refine z08 (by simp;omega) ?_;have hkl:k<V.n.m.own.length:=by omega
    have hb1:k * g.P≤(k+1) * g.P:=Nat.mul_le_mul_right _ (by omega);have hb2:(k+1) * g.P≤g.G * g.P:=Nat.mul_le_mul_right _ hkG;rw[z0f (n:=(k:Int)+1) (by omega) (by omega)];have next:(∀r,V.n.m.rows.findIdx? (z31 a)=some r→∀i,i<(k+1) * g.P→V.n.m.isAt g r i=false)→Tri (z00 (volL v d g V y)) (z0l K (F_3q N (some ⟨v,0⟩) r8 y.x.own) ((k:Int)+1)) fun r=>match V.n.m.atB g a with
      | some b=>pu (r=.inr ((b:Int),0)) (z00 [z18 v d g (V.wM {V.n.m with used:=z13 V.n.m.used b true})])
      | none=>pu (r=.inl ()) (z00 (volL v d g V y)):=fun hh=>ih (k+1) (by omega) (by omega) hh
    -- is it one of the label's?
    have hskip:(∀r,V.n.m.rows.findIdx? (z31 a)=some r→V.n.m.own[k]≠r+1)→∀r,V.n.m.rows.findIdx? (z31 a)=some r→∀i,i<(k+1) * g.P→V.n.m.isAt g r i=false:=by
     intro hne r hr i hi;by_cases hik:i<k * g.P
     ·exact hno r hr i hik
     ·have:i / g.P=k:=by
       rw[Nat.div_eq_iff (by omega)];have:(k+1) * g.P=k * g.P+g.P:=by rw[Nat.add_mul,Nat.one_mul]
       omega
      unfold MetaS.isAt;rw[this,List.getElem?_eq_getElem hkl];have:=hne r hr
      simp[this]
    cases hrow:V.n.m.rows.findIdx? (z31 a)with
    | none=>
     rw[hrow]at hr8;subst hr8;refine z02 [0,0,0,0,0,0,0,0,0,0,0] (Q:=fun r=>pu (r=.inl ()) (z00 (volL v d g V y))) ?_ fun r=>z04 fun hr=>z01 ?_
     ·refine tri_rI 2 rfl (z0e (by rw[z2t];exact h2)) (i:=k) (k :=.i64) (v:=(V.n.m.own[k]:Nat)) (by simp[i64s,hkl]) ?_;exact z08 rfl (z03 [0,0,0,0,0,0,0,0,0,0,0] fun q hq=>⟨rfl,hq⟩)
     ·subst hr;exact next (hskip fun r hr=>by rw[hrow]at hr;cases hr)
    | some r=>
     rw[hrow]at hr8;subst hr8;have hr16:r<16:=by
      have:=(List.findIdx?_eq_some_iff_getElem.1 hrow).1
      rw[ok.rows.len]at this;exact this
     by_cases hko:V.n.m.own[k]=r+1
     ·-- a bit of it
      have hfind:∀b,z6k V.n.m.used (k * g.P) ((k+1) * g.P) false=some b→V.n.m.atB g a=some b∧b<512:=by
       intro b hb;unfold z6k at hb;rw[List.find?_range'_eq_some]at hb;obtain⟨hb3,hb4,hb5⟩:=hb;obtain⟨hb6,hb7⟩:=List.mem_range'_1.1 hb4;refine⟨?_,by omega⟩;unfold MetaS.atB;rw[hrow];dsimp only;rw[List.find?_range'_eq_some];have hdiv:∀i,k * g.P≤i→i<(k+1) * g.P→i / g.P=k:=by
        intro i h1 h2;rw[Nat.div_eq_iff (by omega)];have:(k+1) * g.P=k * g.P+g.P:=by rw[Nat.add_mul,Nat.one_mul]
        omega
       have hat:∀i,k * g.P≤i→i<(k+1) * g.P→V.n.m.isAt g r i = !z0s V.n.m.used i:=by
        intro i h1 h2;unfold MetaS.isAt;rw[hdiv i h1 h2,List.getElem?_eq_getElem hkl,hko];simp
       refine⟨?_,?_,fun i h1 h2=>?_⟩
       ·rw[hat b hb6 (by omega)];simpa using hb3
       ·rw[List.mem_range'_1];omega
       ·by_cases hik:i<k * g.P
        ·rw[hno r hrow i hik];rfl
        ·rw[hat i (by omega) (by omega)];have:=hb5 i (by omega) h2
         simpa using this
      have hnone:z6k V.n.m.used (k * g.P) ((k+1) * g.P) false=none→∀r',V.n.m.rows.findIdx? (z31 a)=some r'→∀i,i<(k+1) * g.P→V.n.m.isAt g r' i=false:=by
       intro hn r' hr' i hi;by_cases hik:i<k * g.P
       ·exact hno r' hr' i hik
       ·unfold z6k at hn;rw[List.find?_eq_none]at hn;have:=hn i (by rw[List.mem_range'_1];omega)
        have hu:z0s V.n.m.used i=true:=by simpa using this
        unfold MetaS.isAt;rw[hu];simp
      cases hf:z6k V.n.m.used (k * g.P) ((k+1) * g.P) false with
      | none=>
       refine z02 [0,0,0,0,0,0,0,0,0,0,0] (Q:=fun r=>pu (r=.inl ()) (z00 (volL v d g V y))) ?_ fun r=>z04 fun hr=>z01 ?_
       ·refine tri_rI 2 rfl (z0e (by rw[z2t];exact h2)) (i:=k) (k :=.i64) (v:=(V.n.m.own[k]:Nat)) (by simp[i64s,hkl]) ?_;dsimp only;rw[z0f (n:=(r:Int)+1) (by omega) (by omega)];refine z05 (by simp[hko]) ?_;refine zbs 0 rfl (z8f 0 rfl (z8f 0 rfl ?_));have e1:(k:Int) * (g.P:Int)=((k * g.P:Nat):Int):=by simp
        have e2:((k:Int)+1) * (g.P:Int)=(((k+1) * g.P:Nat):Int):=by simp
        rw[e1,e2,z0f (by omega) (by omega),z0f (by omega) (by omega)];refine z02 [3] (zlb (z0e h3) (by omega) hb1 (by omega) false hN) fun r31=>z04 fun hr31=>z01 ?_;rw[hf]at hr31;subst hr31;exact z05 (by simp) (z03 [1,1,1,0,0,0,0,0,0,0,0] fun q hq=>⟨rfl,hq⟩)
       ·subst hr;exact next (hnone hf)
      | some b=>
       obtain⟨hat,hb512⟩:=hfind b hf;rw[hat];refine z02 [0,0,0,0,0,0,0,0,0,0,0] (Q:=fun r=>pu (r=.inr ((b:Int),0)) (z00 [z18 v d g (V.wM {V.n.m with used:=z13 V.n.m.used b true})])) ?_ fun r=>z04 fun hr=>z01 ?_
       ·refine tri_rI 2 rfl (z0e (by rw[z2t];exact h2)) (i:=k) (k :=.i64) (v:=(V.n.m.own[k]:Nat)) (by simp[i64s,hkl]) ?_;dsimp only;rw[z0f (n:=(r:Int)+1) (by omega) (by omega)];refine z05 (by simp[hko]) ?_;refine zbs 0 rfl (z8f 0 rfl (z8f 0 rfl ?_));have e1:(k:Int) * (g.P:Int)=((k * g.P:Nat):Int):=by simp
        have e2:((k:Int)+1) * (g.P:Int)=(((k+1) * g.P:Nat):Int):=by simp
        rw[e1,e2,z0f (by omega) (by omega),z0f (by omega) (by omega)];refine z02 [3] (zlb (z0e h3) (by omega) hb1 (by omega) false hN) fun r31=>z04 fun hr31=>z01 ?_;rw[hf]at hr31;subst hr31;dsimp only[sel,rem,nth,del,cat,upd];refine z08 rfl ?_;refine Tri.pre (B:=z00 [z18 v d g V]) ?_ fun q hq=>z1p hy hd (zt2 [1,1,1,0,0,0,0,0,0,0,0] hq);exact z02 [0] (zgv hul hb512 true) fun _=>z01 (z03 [0] fun q hq=>⟨rfl,hq⟩)
       ·subst hr;exact z03 [0] fun q hq=>⟨rfl,hq⟩
     ·refine z02 [0,0,0,0,0,0,0,0,0,0,0] (Q:=fun r=>pu (r=.inl ()) (z00 (volL v d g V y))) ?_ fun r=>z04 fun hr=>z01 ?_
      ·refine tri_rI 2 rfl (z0e (by rw[z2t];exact h2)) (i:=k) (k :=.i64) (v:=(V.n.m.own[k]:Nat)) (by simp[i64s,hkl]) ?_;dsimp only;rw[z0f (n:=(r:Int)+1) (by omega) (by omega)];exact z08 (by simp;omega) (z03 [0,0,0,0,0,0,0,0,0,0,0] fun q hq=>⟨rfl,hq⟩)
      ·subst hr;refine next (hskip fun r' hr'=>?_)
       rw[hrow]at hr';cases hr';exact hko
   ·obtain rfl:k=g.G:=by omega
    refine z05 (by simp;omega) ?_;have hat:V.n.m.atB g a=none:=by
     unfold MetaS.atB;cases hrow:V.n.m.rows.findIdx? (z31 a)with
     | none=>rfl
     | some r=>
      dsimp only;rw[List.find?_eq_none];intro i hi;rw[List.mem_range'_1]at hi;rw[hno r hrow i (by omega)];simp
    rw[hat];exact z1m fun q hq=>⟨rfl,hq⟩
 refine z02 [1,0,0,0,0,0,0,0,0,0,0] (loop N 0 (by omega) (by omega) fun r hr i hi=>by omega) fun r=>?_;cases hat:V.n.m.atB g a with
 | some b=>
  refine z04 fun hr=>z01 ?_;subst hr;refine z03 [0] fun q hq=>⟨?_,?_⟩
  ·unfold MetaS.alloc;rw[hat]
  ·unfold MetaS.alloc;rw[hat];exact hq
 | none=>
  refine z04 fun hr=>z01 ?_;subst hr;dsimp only[sel,rem,nth,del,cat,upd,volL];refine zaw 0 rfl ?_;refine z02 [2] (zrq (z0e (by rw[z2t];exact h2)) (by omega) (by omega)) fun r44=>z04 fun hr44=>z01 ?_;dsimp only[sel,rem,nth,del,cat,upd];subst hr44;cases hfr:V.n.m.own.findIdx? z50 with
  | none=>
   rw[zec hfr];have hA:V.n.m.alloc g a=((0,5),V.n.m):=by unfold MetaS.alloc;rw[hat,hfr]
   rw[hA];exact z08 (by simp) (z03 [1,1,0,0,0,0,0,0,0,0,0] fun q hq=>⟨rfl,z1p hy hd hq⟩)
  | some k=>
   rw[zed hfr];have hkl:=(List.findIdx?_eq_some_iff_getElem.1 hfr).1;refine z05 (by simp) ?_;refine z9r 1 rfl ?_;refine z02 [2] (zio ha ok.rows (z0e h1) (by omega)) fun r50=>z04 fun hr50=>z01 ?_;dsimp only[sel,rem,nth,del,cat,upd];by_cases hE:z3k V.n.m.rows a=0
   ·have hA:V.n.m.alloc g a=((((k * g.P:Nat):Int),0),{V.n.m with rows:=zad V.n.m.rows a,own:=V.n.m.own.set k (z3d V.n.m.rows a+1),used:=z13 V.n.m.used (k * g.P) true}):=by unfold MetaS.alloc;rw[hat,hfr];dsimp only;rw[if_pos hE]
    rw[hA,if_pos hE];obtain⟨e22,e21⟩:=hr50;obtain⟨e21,hI⟩:=e21 hE;have hkP:k * g.P+g.P≤g.G * g.P:=z30 (by omega);refine z05 (by simp[e22,hE]) ?_;refine zaw 3 rfl ?_;refine zgu 3 rfl ?_;dsimp only[sel,rem,nth,del,cat,upd];rw[e21];have e3:wr .i64 (((z3d V.n.m.rows a:Nat):Int)+1)=((z3d V.n.m.rows a+1:Nat):Int):=by rw[z0f (by omega) (by omega)];simp
    rw[e3];refine zfo 2 rfl hkl ?_;dsimp only[sel,rem,nth,del,cat,upd];refine z8f 3 rfl ?_;have e4:(k:Int) * (g.P:Int)=((k * g.P:Nat):Int):=by simp
    rw[e4,z0f (by omega) (by omega)];let V1:VolS:=V.wM {V.n.m with rows:=zad V.n.m.rows a,own:=V.n.m.own.set k (z3d V.n.m.rows a+1)}
    refine tri_last [3,0,1,1,1,1,1,1,1,1,1] (Tri.pre (B:=z00 [z18 v d g V1]) ?_ fun q hq=>z1p (V:=V1) (y:={y with x:={y.x with rows:=r50.1}}) (hy.wM _ _ rfl) hd hq)
    ·refine z02 [0] (zgv (V:=V1) hul (by omega) true) fun _=>z01 ?_;dsimp only[sel,rem,nth,del,cat,upd];refine z2f 0 rfl fun y2 hy2 hd2=>?_;dsimp only[sel,rem,nth,del,cat,upd,volL];refine z8f 0 rfl ?_;rw[e4,z0f (by omega) (by omega)];exact z03 [0,0,0,0,0,0,0,0,0,0,0] fun q hq=>⟨rfl,z1p hy2 hd2 hq⟩
   ·have hA:V.n.m.alloc g a=((0,z3k V.n.m.rows a),V.n.m):=by unfold MetaS.alloc;rw[hat,hfr];dsimp only;rw[if_neg hE]
    rw[hA];refine z08 (by simp[hr50.1,hE]) (z03 [3,1,1,1,1,1,1,1,1,1,1] fun q hq=>⟨by rw[hr50.1],z1p hy hd hq⟩)
end
end Go.Moat

/- Layer 15: blocks and inodes. -/
namespace Go.Moat
open Go.Mini
def z14:List UInt8:=List.replicate 64 0
def zob(g:Geo)(m:MetaS):Prop:=∀b,b<g.B→z0s m.used b=true→0<m.own[b / g.P]?.getD 0
def VolS.free(g:Geo)(V:VolS)(b:Nat):VolS:=(V.write g b z14).wM (V.n.m.free g b)
def VolS.readE(g:Geo)(V:VolS)(b:Int):Int:=if 0≤b∧b<g.B then(match z3i V.n.dirty b with
 | some _=>0
 | none=>z75 V.disk (g.blk+b))else 1
def VolS.readB(g:Geo)(V:VolS)(b:Int):List UInt8:=match z3i V.n.dirty b with
 | some x=>x.1
 | none=>(getS V.disk (g.blk+b)).b
def VolS.writeE(g:Geo)(V:VolS)(b:Int)(bs:List UInt8):Int:=if bs.length=64 then V.n.m.usedE g b else 1
section
variable{N:Nat}{β:Type}{l:List HA}{S:β→HA}{v d:Nat}{g:Geo}{V:VolS}{m:M β}{T:HA}
theorem z7t{m:MetaS}{b:Int}(h:m.usedE g b=0):∃k:Nat,b=k∧k<g.B∧z0s m.used k=true:=by
 unfold MetaS.usedE at h;split at h
 ·rename_i hb;refine⟨b.toNat,by omega,by omega,?_⟩;cases hg:z0s m.used b.toNat with
  | true=>rfl
  | false=>rw[hg]at h;simp at h
 ·cases h
theorem zjj(k:Tri (z00 [z18 v d g V]) m S){y:VH}(hy:VHok V y)(hd:y.x.d=d):Tri (z00 (volL v d g V y)) m S:=k.pre fun q hq=>z1p hy hd hq
theorem zlf(hg:g.ok)(ok:MetaOk g V.n.m)(rf:RefOk V.n.m)(gr:zob g V.n.m)(b:Int)(hN:5000<N) :
  Tri (z00 [z18 v d g V]) (F_0k N (some ⟨v,0⟩) b) fun r=>pu (r=V.n.m.usedE g b) (z00 [z18 v d g (if V.n.m.usedE g b=0 then V.free g b.toNat else V)]):=by
 have hgp:=hg.gp;have hp1:=hg.p1;have hul:=ok.usedl;unfold F_0k;refine z02 [0] (zle hg hul b) fun r=>z04 fun h=>z01 ?_;subst h;dsimp only[sel,rem,nth,del,cat,upd];by_cases hE:V.n.m.usedE g b=0
 case neg=>exact z08 (by simpa using hE) (z03 [0] fun q hq=>⟨rfl,by rw[if_neg hE];exact hq⟩)
 rw[if_pos hE];refine z05 (by simpa using hE) ?_;rw[hE];obtain⟨k,rfl,hk,hbit⟩:=z7t hE;rw[Int.toNat_natCast];have hB:g.B=g.G * g.P:=rfl;have hkG:k / g.P<g.G:=by
  rw[Nat.div_lt_iff_lt_mul (by omega)];exact hk
 have hkl:k / g.P<V.n.m.own.length:=by rw[ok.ownl];exact hkG
 have h0:=gr k hk hbit;rw[List.getElem?_eq_getElem hkl,Option.getD_some]at h0;have h16:=ok.own16 _ (List.getElem_mem hkl);refine z79 64 (by omega) fun sb=>?_;refine z02 [1,0] (zir (s:=⟨some ⟨sb,0⟩,64⟩) (bs:=z14) hg ok hk rfl (by simp[z14]) |>.pre fun q hq=>z1d (fun q=>z49 fun q h =>.mk (by rw[z0i];simp[z14]) h) hq) fun _=>z01 ?_;dsimp only[sel,rem,nth,del,cat,upd];let V1:=V.write g k z14
 refine z02 [0] (zgv (V:=V1) (i:=k) hul (by omega) false) fun _=>z01 ?_;dsimp only[sel,rem,nth,del,cat,upd];let V2:=V1.wUsed (z13 V.n.m.used k false)
 have hu2:V2.n.m.used.length=64:=by show(z13 V.n.m.used k false).length=64;rw[z7q];exact hul
 have hb6:=Nat.div_le_self k g.P;have e1:(k:Int).tdiv (g.P:Int)=((k / g.P:Nat):Int):=rfl;have e2:wr .i64 ((k / g.P:Nat):Int)=((k / g.P:Nat):Int):=by
  generalize k / g.P=bq at hb6;exact z0f (by omega) (by omega)
 refine Tri.bd (Q:=fun _=>z00 [z18 v d g V2]) (m:=fun h=>some ((),h)) (f:=fun _=>_) (fun h q hq hh=>⟨(),h,q,rfl,hq,hh,Nat.le_refl _,fun _ _ _=>rfl,fun _ hb =>.inl hb⟩) fun _=>?_;refine z2f 0 rfl fun y hy hd=>?_;dsimp only[sel,rem,nth,del,cat,upd,volL];refine z8f 0 rfl ?_;rw[if_neg (by omega),e1,e2];refine zjj (V:=V2) ?_ hy hd;refine z02 [0] (zrn hu2 hg hkG hN) fun r11=>z04 fun h11=>z01 ?_;subst h11;dsimp only[sel,rem,nth,del,cat,upd];have hcnt:z3j V2.n.m.used (k / g.P * g.P) ((k / g.P+1) * g.P)=z3j (z13 V.n.m.used k false) (k / g.P * g.P) ((k / g.P+1) * g.P):=rfl;rw[hcnt];refine z02 [0] (Q:=fun _=>z00 [z18 v d g (V.free g k)]) ?_ fun _=>z01 (z03 [0] fun q hq=>⟨rfl,hq⟩);by_cases hc:z3j (z13 V.n.m.used k false) (k / g.P * g.P) ((k / g.P+1) * g.P)=0
 ·have hF:V.free g k=((V2.wRows (z7r V.n.m.rows (V.n.m.own[k / g.P] - 1))).wOwn (V.n.m.own.set (k / g.P) 0)):=by
   unfold VolS.free MetaS.free;rw[if_pos hc,List.getElem?_eq_getElem hkl];rfl
  rw[hF];refine z08 (by rw[hc];rfl) ?_;refine z2f 0 rfl fun y hy hd=>?_;dsimp only[sel,rem,nth,del,cat,upd,volL];refine zaw 0 rfl ?_;refine z0a 2 rfl fun h2=>?_;refine tri_rI 2 rfl (z0e h2) (i:=k / g.P) (k :=.i64) (v:=(V.n.m.own[k / g.P]:Nat)) (by
   show(z2g V.n.m.own)[k / g.P]? = _;simp[i64s,hkl]) ?_
  have e3:wr .i64 (((V.n.m.own[k / g.P]:Nat):Int) - 1)=((V.n.m.own[k / g.P] - 1:Nat):Int):=by rw[z0f (by omega) (by omega)];omega
  rw[e3];refine zjj (V:=V2) ?_ hy hd;refine z02 [0] (zng (V:=V2) ok.rows (by omega) (rf.own _ (List.getElem_mem hkl) h0) (by omega)) fun _=>z01 ?_;dsimp only[sel,rem,nth,del,cat,upd];refine z2f 0 rfl fun y hy hd=>?_;dsimp only[sel,rem,nth,del,cat,upd,volL];refine zaw 0 rfl ?_;refine zfo (x:=0) 2 rfl hkl ?_;refine z03 [0,0,0,0,0,0,0,0,0,0,0] fun q hq=>?_;exact z1p (V:=VolS.wOwn _ _) (y:=y) (hy.wM _ y.x rfl) hd hq
 ·have hF:V.free g k=V2:=by
   unfold VolS.free MetaS.free;rw[if_neg hc];rfl
  rw[hF];exact z05 (by simp;omega) (z03 [0] fun q hq=>hq)
theorem zur(hg:g.ok)(b:Int):Tri (z00 [z18 v d g V]) (F_3n N (some ⟨v,0⟩) b) fun r=>pu (r.2=V.readE g b) (z00 [z18 v d g V,if V.readE g b=0 then z07 r.1 1 (bytesOf (V.readB g b))else emp]):=by
 have hall:=hg.all_le;have:g.all=g.blk+g.B:=rfl
 unfold F_3n;refine z05 (by simp) ?_;refine z02 [0] (ziq hg b) fun r=>z04 fun h=>z01 ?_;subst h;dsimp only[sel,rem,nth,del,cat,upd];unfold VolS.readE;by_cases hb:0≤b∧b<g.B
 case neg=>
  rw[if_neg hb];refine z08 (by simp;omega) (z03 [0] fun q hq=>⟨rfl,?_⟩);rw[if_neg (by decide)];show z1b (z18 v d g V) (z1b emp emp) q;rw[z3n emp];exact hq
 rw[if_pos hb];refine z05 (by simp;omega) ?_;refine z2f 0 rfl fun y hy hd=>?_;dsimp only[sel,rem,nth,del,cat,upd,volL];refine zje 0 rfl ?_;refine zqe 5 rfl _ ?_;have hget:z3i V.n.dirty b=(z3i y.L b).map DV.f:=by
  rw[←hy.dirty];exact zjc DV.f y.L b
 have hgk:z6s (dkv g y.L) b=(z3i y.L b).map (dvC g b):=zjb (fun k z=>dvC g k z) y.L b;rw[hgk];unfold VolS.readB;cases hx:z3i y.L b with
 | some x=>
  rw[hx]at hget;rw[hget];dsimp only[Option.map_some,Option.getD_some];refine Tri.bd (Q:=fun z=>pu (z=((g.blk:Int)+b,x.s,(x.t:Int))) (z00 (volL v d g V y))) (z1m fun q hq=>⟨rfl,hq⟩) fun z=>zoa fun hz=>?_;subst hz;refine z08 rfl ?_;have hm:=zau hx;have hmem:=hy.dok.mem _ hm;have hlen:=hy.dok.len _ hm;have hrd:RdC (z1u y.P) x.s 1 (bytesOf x.b):=zav hmem (by dsimp only at hlen;omega);dsimp only[sel,rem,nth,del,cat,upd,volL];refine z02 [6] (show Tri _ (zaa 1 1 _) _ from z9c hrd (by omega) (z4j _) (by
   have:z1z=70368744177664:=rfl
   dsimp only at hlen ⊢;omega)) fun r=>z01 ?_
  dsimp only[sel,rem,nth,del,cat,upd];refine z03 [2,2,2,2,2,2,1,1,1,1,1,0] fun q hq=>⟨rfl,?_⟩;rw[if_pos rfl];exact vol_fold' hy hd hq
 | none=>
  rw[hx]at hget;rw[hget];dsimp only[Option.map_none,Option.getD_none];refine Tri.bd (Q:=fun(z:Int×Sl×Int)=>pu (z=((0:Int),(⟨none,0⟩:Sl),(0:Int))) (z00 (volL v d g V y))) (z1m fun q hq=>⟨rfl,hq⟩) fun z=>zoa fun hz=>?_;refine z05 (by simp) ?_;dsimp only[sel,rem,nth,del,cat,upd,volL];refine zbw 0 rfl (o:=5) (v:=some ⟨y.x.d,0⟩) rfl ?_;refine zq5 0 rfl ?_;rw[z0f (by omega) (by omega),hd];refine z02 [7] (zn7 (N:=N) ((g.blk:Int)+b)) fun r=>z04 fun ⟨h1,h2⟩=>z01 ?_;dsimp only[sel,rem,nth,del,cat,upd];refine z03 [2,2,2,2,2,2,2,0,1,1,1,0] fun q hq=>⟨h1,?_⟩;exact vol_fold' hy hd hq
theorem zit(hg:g.ok)(ok:MetaOk g V.n.m)(b:Int){s:Sl}{bs:List UInt8}(hr:RdC T s 1 (bytesOf bs))(hbs:bs.length≤100000) :
  Tri (z00 [z18 v d g V,T]) (F_1x N (some ⟨v,0⟩) b s) fun r=>pu (r=V.writeE g b bs) (z00 [z18 v d g (if V.writeE g b bs=0 then V.write g b.toNat bs else V),T]):=by
 have hlen:=z4t hr;unfold F_1x VolS.writeE;by_cases h64:bs.length=64
 case neg=>
  simp only[if_neg h64];rw[if_neg (show ¬((1:Int)=0) by decide)];exact z08 (by simp[hlen];omega) (z03 [0,0] fun q hq=>⟨rfl,hq⟩)
 simp only[if_pos h64];refine z05 (by simp[hlen];omega) ?_;refine z02 [0] (zle hg ok.usedl b) fun r=>z04 fun h=>z01 ?_;subst h;dsimp only[sel,rem,nth,del,cat,upd];by_cases hE:V.n.m.usedE g b=0
 case neg=>exact z08 (by simpa using hE) (z03 [0,0] fun q hq=>⟨rfl,by rw[if_neg hE];exact hq⟩)
 rw[if_pos hE];refine z05 (by simpa using hE) ?_;rw[hE];obtain⟨k,rfl,hk,hbit⟩:=z7t hE;refine z02 [1] (show Tri _ (zaa 1 1 _) _ from z9c hr (by omega) (z4j _) (by
  have:z1z=70368744177664:=rfl
  omega)) fun r=>z01 ?_
 dsimp only[sel,rem,nth,del,cat,upd];refine z0a 0 rfl fun h0=>?_;rw[z0i]at h0;refine z02 [2,0] (zir hg ok hk (by omega) h64) fun _=>z01 ?_;exact z03 [0,0] fun q hq=>⟨rfl,hq⟩
theorem z1s{A:HA}{k:IntKind}{x:Int}{f:Int→M β}(kk:Tri A (f x) S):Tri A (bd (z09 (CTy.dec (.int k) (.int k x))) f) S:=by
 have e:CTy.dec (.int k) (.int k x)=some x:=by simp only[CTy.dec,if_true];rfl
 rw[e];exact z19 kk
theorem zfp(n:Ino):(z0w n)[0]? = some (.int .u8 n.k):=rfl
theorem zlg(n:Ino):(z0w n)[1]? = some (.int .u8 n.r):=rfl
theorem zh9(ok:MetaOk g V.n.m)(hg:g.ok)(i:Int):Tri (z00 [z18 v d g V]) (F_10 N (some ⟨v,0⟩) i) fun r=>pu (r=V.n.m.hasE i) (z00 [z18 v d g V]):=by
 have hil:=ok.inol;have hI:=hg.i2;unfold F_10;refine z05 (by simp) ?_;refine z2f 0 rfl fun y hy hd=>?_;dsimp only[sel,rem,nth,del,cat,upd,volL];refine z0a 4 rfl fun h4=>?_;have h4':y.x.ino.len=V.n.m.ino.length:=by rw[z0o z0g]at h4;omega
 unfold MetaS.hasE;refine z02 [0,0,0,0,0,0,0,0,0,0,0] (Q:=fun c=>pu (c = !decide (0≤i∧i<V.n.m.ino.length)) (z00 (volL v d g V y))) ?_ fun c=>z04 fun hc=>z01 ?_
 ·by_cases h0:i<0
  ·exact z05 (by simpa using h0) (z03 [0,0,0,0,0,0,0,0,0,0,0] fun q hq=>⟨by simp;omega,hq⟩)
  ·refine z08 (by simpa using h0) (z6r 0 rfl (z03 [0,0,0,0,0,0,0,0,0,0,0] fun q hq=>⟨?_,hq⟩));rw[h4'];rw[Bool.eq_iff_iff];simp;omega
 ·subst hc;dsimp only[sel,rem,nth,del,cat,upd,volL];by_cases hi:0≤i∧i<V.n.m.ino.length
  ·rw[if_pos hi];refine z05 (by simp;omega) (z6r 0 rfl ?_);obtain⟨k,rfl⟩:∃k:Nat,i=k:=⟨i.toNat,by omega⟩;rw[Int.toNat_natCast];have hk:k<V.n.m.ino.length:=by omega
   have hn:z4f V.n.m.ino k=V.n.m.ino[k]:=by simp[z4f,hk]
   rw[hn];refine z1v 4 rfl (z0e h4) (i:=k) (o:=0) (by omega) (by omega) (v:=(V.n.m.ino[k].k:Nat)) (by rw[z2s z0g hk (by omega)];rfl) ?_;by_cases hz:V.n.m.ino[k].k=0
   ·exact z08 (by simp[hz]) (z03 [0,0,0,0,0,0,0,0,0,0,0] fun q hq=>⟨by rw[if_pos hz],z1p hy hd hq⟩)
   ·exact z05 (by simp;omega) (z03 [0,0,0,0,0,0,0,0,0,0,0] fun q hq=>⟨by rw[if_neg hz],z1p hy hd hq⟩)
  ·rw[if_neg hi];exact z08 (by simp;omega) (z03 [0,0,0,0,0,0,0,0,0,0,0] fun q hq=>⟨rfl,z1p hy hd hq⟩)
theorem z6n{m:MetaS}{i:Int}(h:m.hasE i=0):∃(k:Nat)(hk:k<m.ino.length),i=k∧m.ino[k].k≠0:=by
 unfold MetaS.hasE at h;split at h
 ·rename_i hi;have hk:i.toNat<m.ino.length:=by omega
  refine⟨i.toNat,hk,by omega,?_⟩;have hn:z4f m.ino i.toNat=m.ino[i.toNat]:=by simp[z4f,hk]
  rw[hn]at h;intro c;rw[if_pos c]at h;cases h
 ·cases h
theorem zus(hg:g.ok)(ok:MetaOk g V.n.m){kind a:Nat}(hk:kind<256)(ha:a<65536)(hN:5000<N):Tri (z00 [z18 v d g V]) (F_3b N (some ⟨v,0⟩) (kind:Int) (a:Int)) fun r=>pu (r=(V.n.m.make kind a).1) (z00 [z18 v d g (V.wM (V.n.m.make kind a).2)]):=by
 have hil:=ok.inol;have hI:=hg.i2;unfold F_3b MetaS.make;refine z05 (by simp) ?_;by_cases hkind:kind=1∨kind=2
 case neg=>
  rw[if_neg hkind];exact z08 (by simp;omega) (z03 [0] fun q hq=>⟨rfl,hq⟩)
 rw[if_pos hkind];refine z05 (by simp;omega) ?_;refine z2f 0 rfl fun y hy hd=>?_;dsimp only[sel,rem,nth,del,cat,upd,volL];refine z6r 0 rfl ?_;refine z0a 1 rfl fun h1=>z0a 4 rfl fun h4=>?_;have h4':y.x.ino.len=V.n.m.ino.length:=by rw[z0o z0g]at h4;omega
 have find:Tri (z00 [z07 y.x.ino 14 (z1t V.n.m.ino)]) (F_3a N y.x.ino ()) fun r=>pu (r=fi z4o V.n.m.ino) (z00 [z07 y.x.ino 14 (z1t V.n.m.ino)]):=by
  unfold F_3a;refine zd1 (A:=z00 [z07 y.x.ino 14 (z1t V.n.m.ino)]) z4o V.n.m.ino (by omega) (fun rec i hi Q k=>?_) fun rec Q k=>?_
  ·unfold F_5o;refine z08 (by simp[h4'];omega) ?_;refine z5n 0 rfl (z0e h4) hi ?_;unfold F_4j;rw[zfp,z0f (by omega) (by omega)];have:(decide ((V.n.m.ino[i].k:Int)=0))=z4o V.n.m.ino[i]:=by
    unfold z4o;congr 1;apply propext;omega
   show Tri _ (bd (ret (decide ((V.n.m.ino[i].k:Int)=0))) _) _;rw[this];exact z0r k
  ·unfold F_5o;exact z05 (by simp[h4']) k
 refine z02 [4] find fun r9=>z04 fun h9=>z01 ?_;subst h9;dsimp only[sel,rem,nth,del,cat,upd];cases hx:V.n.m.ino.findIdx? z4o with
 | none=>
  rw[zec hx];exact z08 (by simp) (z03 [1,1,1,1,0,0,0,0,0,0,0] fun q hq=>⟨rfl,z1p hy hd hq⟩)
 | some i=>
  rw[zed hx];dsimp only;have hi:=(List.findIdx?_eq_some_iff_getElem.1 hx).1;refine z05 (by simp) (z9r 1 rfl ?_);refine z02 [2] (zio ha ok.rows (z0e h1) (by omega)) fun r15=>z04 fun h15=>z01 ?_;dsimp only[sel,rem,nth,del,cat,upd];by_cases hE:z3k V.n.m.rows a=0
  ·rw[if_pos hE,if_pos hE];obtain⟨e22,e21⟩:=h15;obtain⟨e21,hI2⟩:=e21 hE;refine z05 (by simp[e22,hE]) (z6r 3 rfl (zgu 3 rfl ?_));rw[e21,wr8 (by omega) (by omega)];have e3:([MV.int .u8 (kind:Int),MV.int .u8 ((z3d V.n.m.rows a:Nat):Int)]++z0n 12 [MV.int .i64 (0:Int)])=z0w (zdh kind (z3d V.n.m.rows a)):=rfl;rw[e3];dsimp only[sel,rem,nth,del,cat,upd];refine zb3 2 rfl hi ?_;dsimp only[sel,rem,nth,del,cat,upd];refine z03 [3,0,2,2,1,1,1,1,1,1,1] fun q hq=>⟨rfl,?_⟩;exact z1p (V:=V.wM _) (y:={y with x:={y.x with rows:=r15.1}}) (hy.wM _ _ rfl) hd hq
  ·rw[if_neg hE,if_neg hE];exact z08 (by simp[h15.1,hE]) (z03 [3,1,2,2,1,1,1,1,1,1,1] fun q hq=>⟨by rw[h15.1],z1p hy hd hq⟩)
theorem zqn(hg:g.ok)(ok:MetaOk g V.n.m)(rf:RefOk V.n.m)(i:Int)(hN:5000<N):Tri (z00 [z18 v d g V]) (F_3d N (some ⟨v,0⟩) i) fun r=>pu (r=V.n.m.hasE i) (z00 [z18 v d g (if V.n.m.hasE i=0 then V.wM (V.n.m.unmake i.toNat)else V)]):=by
 have hil:=ok.inol;have hI:=hg.i2;unfold F_3d;refine z02 [0] (zh9 ok hg i) fun r=>z04 fun h=>z01 ?_;subst h;dsimp only[sel,rem,nth,del,cat,upd];by_cases hE:V.n.m.hasE i=0
 case neg=>exact z08 (by simpa using hE) (z03 [0] fun q hq=>⟨rfl,by rw[if_neg hE];exact hq⟩)
 rw[if_pos hE];refine z05 (by simpa using hE) ?_;rw[hE];obtain⟨k,hk,rfl,hkk⟩:=z6n hE;rw[Int.toNat_natCast];have hn:z4f V.n.m.ino k=V.n.m.ino[k]:=by simp[z4f,hk]
 have hm:=List.getElem_mem hk;have hr:=(ok.inok _ hm).r;refine z2f 0 rfl fun y hy hd=>?_;dsimp only[sel,rem,nth,del,cat,upd,volL];refine z6r 0 rfl ?_;refine z0a 4 rfl fun h4=>?_;have h4':y.x.ino.len=V.n.m.ino.length:=by rw[z0o z0g]at h4;omega
 refine z1v 4 rfl (z0e h4) (i:=k) (o:=1) (by omega) (by omega) (v:=(V.n.m.ino[k].r:Nat)) (by rw[z2s z0g hk (by omega)];rfl) ?_;rw[z0f (by omega) (by omega)];refine zjj (V:=V) ?_ hy hd;refine z02 [0] (zng ok.rows hr (rf.ino _ hm hkk) (by omega)) fun _=>z01 ?_;dsimp only[sel,rem,nth,del,cat,upd];refine z2f 0 rfl fun y hy hd=>?_;dsimp only[sel,rem,nth,del,cat,upd,volL];refine z6r 0 rfl ?_;rw[z7a];refine zb3 4 rfl hk ?_;refine z03 [0,0,0,0,0,0,0,0,0,0,0] fun q hq=>⟨rfl,?_⟩;have e:V.wM (V.n.m.unmake k)=(V.wRows (z7r V.n.m.rows V.n.m.ino[k].r)).wIno (V.n.m.ino.set k Ino.z):=by
  unfold MetaS.unmake;rw[hn];rfl
 rw[e];exact z1p (V:=VolS.wIno _ _) (y:=y) (hy.wM _ y.x rfl) hd hq
def MetaS.inodeN(m:MetaS)(i:Int):Ino:=if m.hasE i=0 then z4f m.ino i.toNat else Ino.z
def MetaS.inodeL(m:MetaS)(i:Int):Nat:=if m.hasE i=0 then(rowN m.rows (z4f m.ino i.toNat).r).1 else 0
theorem zrr(hg:g.ok)(ok:MetaOk g V.n.m)(i:Int):Tri (z00 [z18 v d g V]) (F_3j N (some ⟨v,0⟩) i) fun r=>pu (r=(z0w (V.n.m.inodeN i),((V.n.m.inodeL i:Nat):Int),V.n.m.hasE i)) (z00 [z18 v d g V]):=by
 have hil:=ok.inol;have hI:=hg.i2;unfold F_3j MetaS.inodeN MetaS.inodeL;refine z02 [0] (zh9 ok hg i) fun r=>z04 fun h=>z01 ?_;subst h;dsimp only[sel,rem,nth,del,cat,upd];rw[z7a];by_cases hE:V.n.m.hasE i=0
 case neg=>
  refine z08 (by simpa using hE) (zjh ?_);rw[if_neg hE,if_neg hE];exact z03 [0] fun q hq=>⟨rfl,hq⟩
 refine z05 (by simpa using hE) ?_;rw[if_pos hE,if_pos hE,hE];obtain⟨k,hk,rfl,hkk⟩:=z6n hE;rw[Int.toNat_natCast];have hn:z4f V.n.m.ino k=V.n.m.ino[k]:=by simp[z4f,hk]
 rw[hn];have hm:=List.getElem_mem hk;have hr:=(ok.inok _ hm).r;have hrl:V.n.m.ino[k].r<V.n.m.rows.length:=by rw[ok.rows.len];exact hr
 refine z2f 0 rfl fun y hy hd=>?_;dsimp only[sel,rem,nth,del,cat,upd,volL];refine z6r 0 rfl ?_;refine z0a 4 rfl fun h4=>z0a 1 rfl fun h1=>?_;refine z5n 4 rfl (z0e h4) hk ?_;refine z6j (z4c fun _=>zbz ?_);refine z9r 0 rfl ?_;rw[zd2,zlg];show Tri _ (bd (idx 2 y.x.rows ((V.n.m.ino[k].r:Nat):Int)) _) _;rw[z0o z17]at h1;refine z1v 1 rfl (z0e (by rw[z0o z17];omega)) (i:=V.n.m.ino[k].r) (o:=0) (by omega) (by omega) (v:=(V.n.m.rows[V.n.m.ino[k].r].1:Nat)) (by rw[z2s z17 hrl (by omega)];rfl) ?_;refine z6j ?_;show Tri _ (bd (if 0+14≤(z0w V.n.m.ino[k]).length then ret (((z0w V.n.m.ino[k]).drop 0).take 14)else z0d) _) _;rw[if_pos (by rw[z0g];omega),List.drop_zero,List.take_of_length_le (by rw[z0g];omega)];refine z0r ?_;refine z03 [0,0,0,0,0,0,0,0,0,0,0] fun q hq=>⟨?_,z1p hy hd hq⟩;simp[rowN,hrl]
def MetaS.set(m:MetaS)(i:Nat)(n:Ino):MetaS:={m with ino:=m.ino.set i n}
theorem zxs(hg:g.ok)(ok:MetaOk g V.n.m)(i:Int)(n:Ino)(hN:5000<N):Tri (z00 [z18 v d g V]) (F_3f N (some ⟨v,0⟩) i (z0w n)) fun r=>pu (r=V.n.m.setE i n) (z00 [z18 v d g (if V.n.m.setE i n=0 then V.wM (V.n.m.set i.toNat n)else V)]):=by
 have hil:=ok.inol;have hI:=hg.i2;have e14:0+14≤(z0w n).length:=by rw[z0g];omega
 have t14:((z0w n).drop 0).take 14=z0w n:=by rw[List.drop_zero,List.take_of_length_le (by rw[z0g];omega)]
 unfold F_3f;refine z02 [0] (zh9 ok hg i) fun r=>z04 fun h=>z01 ?_;subst h;dsimp only[sel,rem,nth,del,cat,upd];unfold MetaS.setE;by_cases h1:V.n.m.hasE i=1
 ·rw[if_pos h1,if_neg (show ¬((1:Int)=0) by decide)];exact z08 (by simp[h1]) (z03 [0] fun q hq=>⟨h1,hq⟩)
 rw[if_neg h1];refine z05 (by simp[h1]) ?_;rw[if_pos e14,t14];refine z0r ?_;rw[zbf (by omega)];refine z0r ?_;refine z02 [0] (Q:=fun c=>pu (c=decide (n.ok=false∨n.k=0)) (z00 [z18 v d g V])) ?_ fun c=>z04 fun hc=>z01 ?_
 ·cases hok:n.ok
  ·exact z05 (by simp) (z03 [0] fun q hq=>⟨by simp,hq⟩)
  ·refine z08 rfl ?_;rw[zfp];show Tri _ (ret (decide ((n.k:Int)=0))) _;refine z03 [0] fun q hq=>⟨?_,hq⟩;rw[Bool.eq_iff_iff];simp
 subst hc;dsimp only[sel,rem,nth,del,cat,upd];by_cases h2:n.ok=false∨n.k=0
 ·rw[if_pos h2,if_neg (show ¬((1:Int)=0) by decide)];exact z08 (by simpa using h2) (z03 [0] fun q hq=>⟨rfl,hq⟩)
 rw[if_neg h2];refine z05 (by simpa using h2) ?_;by_cases h3:V.n.m.hasE i=0
 case neg=>
  have h32:V.n.m.hasE i=2:=by
   unfold MetaS.hasE at h1 h3 ⊢;split
   ·split
    ·rfl
    ·rename_i ha hb;rw[if_pos ha,if_neg hb]at h3;exact absurd rfl h3
   ·rename_i ha;rw[if_neg ha]at h1;exact absurd rfl h1
  rw[if_pos (show V.n.m.hasE i≠0 from h3),if_neg (show ¬((2:Int)=0) by decide)];exact z08 (by simpa using h3) (z03 [0] fun q hq=>⟨h32,hq⟩)
 rw[if_neg (show ¬V.n.m.hasE i≠0 by omega)];refine z05 (by simpa using h3) ?_;obtain⟨k,hk,rfl,hkk⟩:=z6n h3;rw[Int.toNat_natCast];have hn:z4f V.n.m.ino k=V.n.m.ino[k]:=by simp[z4f,hk]
 rw[hn];refine z2f 0 rfl fun y hy hd=>?_;dsimp only[sel,rem,nth,del,cat,upd,volL];refine z0a 4 rfl fun h4=>?_;have h4':y.x.ino.len=V.n.m.ino.length:=by rw[z0o z0g]at h4;omega
 rw[zfp,zlg];refine z19 (z1s ?_);refine z6r 0 rfl ?_;refine z1v 4 rfl (z0e h4) (i:=k) (o:=0) (by omega) (by omega) (v:=(V.n.m.ino[k].k:Nat)) (by rw[z2s z0g hk (by omega)];rfl) ?_;refine z02 [0,0,0,0,0,0,0,0,0,0,0] (Q:=fun c=>pu (c=decide (n.k≠V.n.m.ino[k].k∨n.r≠V.n.m.ino[k].r)) (z00 (volL v d g V y))) ?_ fun c=>z04 fun hc=>z01 ?_
 ·by_cases hkq:n.k=V.n.m.ino[k].k
  ·refine z08 (by simp[hkq]) ?_;refine z19 (z1s ?_);refine z6r 0 rfl ?_;refine z1v 4 rfl (z0e h4) (i:=k) (o:=1) (by omega) (by omega) (v:=(V.n.m.ino[k].r:Nat)) (by rw[z2s z0g hk (by omega)];rfl) ?_;refine z03 [0,0,0,0,0,0,0,0,0,0,0] fun q hq=>⟨?_,hq⟩;rw[Bool.eq_iff_iff];simp[hkq];omega
  ·refine z05 (by simp;omega) (z03 [0,0,0,0,0,0,0,0,0,0,0] fun q hq=>⟨by simp[hkq],hq⟩)
 subst hc;dsimp only[sel,rem,nth,del,cat,upd,volL];by_cases h5:n.k≠V.n.m.ino[k].k∨n.r≠V.n.m.ino[k].r
 ·rw[if_pos h5,if_neg (show ¬((1:Int)=0) by decide)];exact z08 (by simpa using h5) (z03 [0,0,0,0,0,0,0,0,0,0,0] fun q hq=>⟨rfl,z1p hy hd hq⟩)
 rw[if_neg h5,if_pos (show((0:Int)=0)from rfl)];refine z05 (by simpa using h5) (z6r 0 rfl ?_);refine z0r (zb3 4 rfl hk ?_);refine z03 [0,0,0,0,0,0,0,0,0,0,0] fun q hq=>⟨rfl,?_⟩;exact z1p (V:=V.wIno _) (y:=y) (hy.wM _ y.x rfl) hd hq
end
end Go.Moat
