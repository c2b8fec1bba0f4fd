/- Layer 15: what a volume is, in memory. -/
import Derived.Test.YtcaaljlhljemoaaGreatP15f
namespace Go.Mini
def RO{α:Type}(m:M α):Prop:=∀h a h',m h=some (a,h')→h'=h
theorem z5c{α:Type}(a:α):RO (ret a):=fun h b h' e=>by cases e;rfl
theorem ze1{α:Type}:RO (z0d:M α):=fun h b h' e=>by cases e
theorem z60{α γ:Type}{m:M α}{f:α→M γ}(hm:RO m)(hf:∀a,RO (f a)):RO (bd m f):=by
 intro h b h' e;unfold bd at e;cases hx:m h with
 | none=>rw[hx]at e;cases e
 | some r=>
  obtain⟨a,h1⟩:=r;rw[hx]at e;have:=hm h a h1 hx
  subst this;exact hf a _ b h' e
theorem zq1(p:Option MA):RO (ldc p):=by
 intro h a h' e;unfold ldc at e;repeat (split at e<;>first | (cases e;done) | skip)
 cases e;rfl
theorem zgv{α:Type}(o:Option α):RO (z09 o):=by
 intro h a h' e;unfold z09 at e;split at e<;>cases e;rfl
theorem zd5(p:Option MA):RO (nonNil p):=by cases p<;>first | exact ze1 | exact z5c _
theorem zgw(p:Option MA)(n:Nat):RO (fld p n):=by cases p<;>first | exact ze1 | exact z5c _
theorem z14w(e:Nat)(s:Sl)(i:Int):RO (idx e s i):=by
 unfold idx;split
 ·split
  ·exact z5c _
  ·exact ze1
 ·exact ze1
theorem zx5(k:IntKind)(p:Option MA):RO (ldI k p):=z60 (zq1 p) fun _=>zgv _
theorem z14x(p:Option MA):RO (ldM p):=z60 (zq1 p) fun _=>zgv _
theorem zx6(e:Nat)(p:Option MA):RO (ldL e p):=z60 (zq1 p) fun _=>zgv _
theorem zx7(r:Option Nat):RO (z7w r):=by
 intro h a h' e;unfold z7w at e;split at e
 ·cases e;rfl
 ·split at e<;>cases e;rfl
theorem zx8(r:Option Nat):RO (mapLen r):=z60 (zx7 r) fun _=>z5c _
theorem za2{α:Type}{m:M α}(k:RO m):frz m=m:=by
 funext h;unfold frz;cases hx:m h with
 | none=>rfl
 | some r=>
  obtain⟨a,h'⟩:=r;have:=k h a h' hx
  subst this;dsimp only;rw[(zev _ _).2 (z4a.refl _)];rfl
theorem z103{α:Type}{f:Nat→M α}(k:∀b,RO (f b)):RO (bd (z47 0) f):=fun h a h' e=>k h.size h a h' e
section
variable{α:Type}
def z3o:List (Int×α)→Int→Option α
 | [],_=>none
 | e::r,k=>if k=e.1 then some e.2 else z3o r k
def z7c:List (Int×α)→Int→α→List (Int×α)
 | [],k,v=>[(k,v)]
 | e::r,k,v=>if k=e.1 then(k,v)::r else e::z7c r k v
theorem zq2(f:Int→α→MV):∀(L:List (Int×α))(k:Int),z6x (L.map fun e=>(e.1,f e.1 e.2)) k=(z3o L k).map (f k)
 | [],_=>rfl
 | e::r,k=>by
  simp only[List.map_cons,z6x,z3o];split
  ·rename_i h;rw[h];rfl
  ·exact zq2 f r k
theorem zq3(f:Int→α→MV)(v:α):∀(L:List (Int×α))(k:Int),z6e (L.map fun e=>(e.1,f e.1 e.2)) k (f k v)=(z7c L k v).map fun e=>(e.1,f e.1 e.2)
 | [],_=>rfl
 | e::r,k=>by
  simp only[List.map_cons,z6e,z7c];split
  ·rfl
  ·rw[zq3 f v r k];rfl
theorem zq4{γ:Type}(f:α→γ)(v:α):∀(L:List (Int×α))(k:Int),(z7c L k v).map (fun e=>(e.1,f e.2))=z7c (L.map fun e=>(e.1,f e.2)) k (f v)
 | [],_=>rfl
 | e::r,k=>by
  simp only[List.map_cons,z7c];split
  ·rfl
  ·rw[List.map_cons,zq4 f v r k]
theorem zj9{γ:Type}(f:α→γ):∀(L:List (Int×α))(k:Int),z3o (L.map fun e=>(e.1,f e.2)) k=(z3o L k).map f
 | [],_=>rfl
 | e::r,k=>by
  simp only[List.map_cons,z3o];split
  ·rfl
  ·exact zj9 f r k
theorem zja{v:α}:∀{L:List (Int×α)}{k:Int}{e:Int×α},e∈z7c L k v→e=(k,v)∨e∈L
 | [],k,e,h=>by simpa[z7c]using h
 | x::r,k,e,h=>by
  unfold z7c at h;split at h
  ·rcases List.mem_cons.1 h with h | h
   ·exact .inl h
   ·exact .inr (List.mem_cons_of_mem _ h)
  ·rcases List.mem_cons.1 h with h | h
   ·exact .inr (by rw[h];simp)
   ·rcases zja h with h | h
    ·exact .inl h
    ·exact .inr (List.mem_cons_of_mem _ h)
theorem zf4(v:α):∀(L:List (Int×α))(k k':Int),z3o (z7c L k v) k'=if k'=k then some v else z3o L k'
 | [],k,k'=>by simp[z7c,z3o]
 | e::r,k,k'=>by
  have ih:=zf4 v r k k';unfold z7c;by_cases h:k=e.1
  ·rw[if_pos h];simp only[z3o,←h];split<;>rfl
  ·rw[if_neg h];simp only[z3o,ih];by_cases h2:k'=e.1
   ·rw[if_pos h2,if_pos h2,if_neg (fun c:k'=k=>h (c.symm.trans h2))]
   ·rw[if_neg h2,if_neg h2]
theorem zcn{L:List (Int×α)}{k:Int}{v:α}(h:z3o L k=some v):(k,v)∈L:=by
 induction L with
 | nil=>cases h
 | cons e r ih=>
  unfold z3o at h;split at h
  ·rename_i hk;cases h;rw[hk];exact List.mem_cons_self
  ·exact List.mem_cons_of_mem _ (ih h)
end
end Go.Mini
namespace Go.Moat
open Go.Mini
theorem zq5{N:Nat}(d:Option MA):RO (F_00 N d):=by
 unfold F_00;split
 ·exact z5c _
 ·exact z60 (zd5 _) fun _=>z60 (zgw _ _) fun _=>z60 (zx6 _ _) fun _=>z5c _
def z1r(P:List (Sl×List UInt8)):HA:=z00 (P.map fun x=>z08 x.1 1 (bytesOf x.2))
theorem zmw{P:List (Sl×List UInt8)}{s:Sl}{bs:List UInt8}{q:PH}{l:List HA}(h:z00 (z08 s 1 (bytesOf bs)::z1r P::l) q):z00 (z1r ((s,bs)::P)::l) q:=by
 have:z00 (z1r ((s,bs)::P)::l)=z00 (z08 s 1 (bytesOf bs)::z1r P::l):=by
  show z1a (z1a _ _) _=z1a _ (z1a _ _);rw[z4b];rfl
 rw[this];exact h
theorem zcb{P:List (Sl×List UInt8)}{s:Sl}{bs:List UInt8}(h:(s,bs)∈P)(hl:s.len=bs.length):RdC (z1r P) s 1 (bytesOf bs):=by
 induction P with
 | nil=>cases h
 | cons x r ih=>
  have e:z1r (x::r)=z1a (z08 x.1 1 (bytesOf x.2)) (z1r r):=rfl;rw[e];rcases List.mem_cons.1 h with h | h
  ·subst h;exact(z0k (by rw[z0e];dsimp only;omega)).star_l
  ·exact(ih h).star_r
structure DV where
 s:Sl
 b:List UInt8
 t:Nat
def DV.f(x:DV):List UInt8×Nat:=(x.b,x.t)
def dvC(g:Geo)(k:Int)(x:DV):MV :=.agg [.int .i64 (g.blk+k),.sl x.s.p x.s.len 1,.int .u16 x.t]
def dkv(g:Geo)(L:List (Int×DV)):List (Int×MV):=L.map fun e=>(e.1,dvC g e.1 e.2)
structure NowS where
 m:MetaS
 dirty:List (Int×(List UInt8×Nat))
structure VolS where
 n:NowS
 disk:DskS
 seq:Nat
 safe:List (List UInt8)
 before:Option NowS
 dead:Bool
structure VC where
 rows:Sl
 own:Sl
 used:Sl
 ino:Sl
 mp:Nat
 d:Nat
 j:Nat
 safe:Sl
 bp:Option MA
 dead:Bool
def volC(g:Geo)(x:VC):List MV:=[.sl x.rows.p x.rows.len 2,.sl x.own.p x.own.len 1,.sl x.used.p x.used.len 1,.sl x.ino.p x.ino.len 14,.map (some x.mp),.ptr (some ⟨x.d,0⟩),
 .int .i64 g.J,.int .i64 g.I,.int .i64 g.G,.int .i64 g.P,.int .i64 1,.int .i64 g.lab,.int .i64 (2+g.J:Nat),.int .i64 (3+g.J:Nat),.int .i64 (4+g.J:Nat),.int .i64 g.blk,.int .i64 g.all,
 .ptr (some ⟨x.j,0⟩),.sl x.safe.p x.safe.len 1,.ptr x.bp,.bool x.dead]
structure DOk(P:List (Sl×List UInt8))(L:List (Int×DV)):Prop where
 mem:∀e∈L,(e.2.s,e.2.b)∈P
 len:∀e∈L,e.2.s.len=64∧e.2.b.length=64
 tag:∀e∈L,e.2.t<65536
def z5t(L:List (Int×DV)):List (Int×(List UInt8×Nat)):=L.map fun e=>(e.1,e.2.f)
structure NC where
 rows:Sl
 own:Sl
 used:Sl
 ino:Sl
 mp:Nat
def nowC(x:NC):List MV:=[.sl x.rows.p x.rows.len 2,.sl x.own.p x.own.len 1,.sl x.used.p x.used.len 1,.sl x.ino.p x.ino.len 14,.map (some x.mp)]
def zf5(g:Geo)(x:NC)(n:NowS)(L:List (Int×DV)):List HA:=[z08 x.rows 2 (z13 n.m.rows),z08 x.own 1 (z3i n.m.own),z08 x.used 1 (bytesOf n.m.used),z08 x.ino 14 (z2b n.m.ino),z5v .i64 x.mp (dkv g L)]
def zgx(g:Geo)(P:List (Sl×List UInt8)):Option MA→Option NowS→HA
 | none,none=>emp
 | some a,some n=>exA fun x:NC×List (Int×DV)=>pu (a.off=0∧z5t x.2=n.dirty∧DOk P x.2) (z00 (pts a.blk (.cells (nowC x.1) false)::zf5 g x.1 n x.2))
 | _,_=>fun _=>False
theorem DOk.mono{P:List (Sl×List UInt8)}{L:List (Int×DV)}(h:DOk P L)(x:Sl×List UInt8):DOk (x::P) L:=⟨fun e he=>List.mem_cons_of_mem _ (h.mem e he),h.len,h.tag⟩
theorem zgx.mono{g:Geo}{P:List (Sl×List UInt8)}{bp:Option MA}{b:Option NowS}(x:Sl×List UInt8):∀q,zgx g P bp b q→zgx g (x::P) bp b q:=by
 intro q h;cases bp<;>cases b<;>first | exact h | skip
 obtain⟨y,⟨h1,h2,h3⟩,h4⟩:=h;exact⟨y,⟨h1,h2,h3.mono x⟩,h4⟩
def z3f(d:Nat)(g:Geo)(seq:Nat):List MV:=[.ptr (some ⟨d,0⟩),.int .i64 1,.int .i64 g.J,.int .u64 seq]
structure VH where
 x:VC
 L:List (Int×DV)
 P:List (Sl×List UInt8)
 sf:List (Sl×List UInt8)
structure VHok(V:VolS)(y:VH):Prop where
 dirty:z5t y.L=V.n.dirty
 dok:DOk y.P y.L
 safe:y.sf.map (·.2)=V.safe
 smem:∀e∈y.sf,e∈y.P∧e.1.len=64∧e.2.length=64
 dead:y.x.dead=V.dead
def z2f(v d:Nat)(g:Geo)(V:VolS)(y:VH):List HA:=[pts v (.cells (volC g y.x) false),z08 y.x.rows 2 (z13 V.n.m.rows),z08 y.x.own 1 (z3i V.n.m.own),z08 y.x.used 1 (bytesOf V.n.m.used),z08 y.x.ino 14 (z2b V.n.m.ino),z5v .i64 y.x.mp (dkv g y.L),
 z1r y.P,z1b d V.disk,pts y.x.j (.cells (z3f d g V.seq) false),z08 y.x.safe 1 (z3r y.sf),zgx g y.P y.x.bp V.before]
def z1f(v d:Nat)(g:Geo)(V:VolS):HA:=exA fun y:VH=>pu (VHok V y∧y.x.d=d) (z00 (z2f v d g V y))
section
variable{N:Nat}{β:Type}{l:List HA}{S:β→HA}{v d:Nat}{g:Geo}{V:VolS}{m:M β}
theorem z2m(n:Nat)(hl:l[n]? = some (z1f v d g V))(k:∀y,VHok V y→y.x.d=d→Tri (z00 (cat (z2f v d g V y) (del l n))) m S):Tri (z00 l) m S:=
 zf9 (γ:=VH) (φ:=fun y=>VHok V y∧y.x.d=d) (L:=fun y=>z2f v d g V y) n hl (fun _ ⟨x,h1,h2⟩=>⟨x,h1,h2⟩) fun x h=>k x h.1 h.2
theorem z1o{y:VH}{q:PH}(hy:VHok V y)(hd:y.x.d=d)(h:z00 (z2f v d g V y) q):z00 [z1f v d g V] q:=by
 rw[z0y];exact⟨y,⟨hy,hd⟩,h⟩
theorem zbl(n:Nat){x:VC}(hl:l[n]? = some (pts v (.cells (volC g x) false))){f:Sl→M β}(kk:Tri (z00 l) (f x.rows) S):Tri (z00 l) (bd (nonNil (some ⟨v,0⟩)) fun q=>bd (fld q 0) fun q=>bd (fld q 0) fun q=>bd (fld q 0) fun q=>bd (ldL 2 q) f) S:=
 z0m (z06 (z06 (z06 (z16 n hl rfl kk))))
theorem zao(n:Nat){x:VC}(hl:l[n]? = some (pts v (.cells (volC g x) false))){f:Sl→M β}(kk:Tri (z00 l) (f x.own) S):Tri (z00 l) (bd (nonNil (some ⟨v,0⟩)) fun q=>bd (fld q 0) fun q=>bd (fld q 0) fun q=>bd (fld q 1) fun q=>bd (ldL 1 q) f) S:=
 z0m (z06 (z06 (z06 (z16 n hl rfl kk))))
theorem zbm(n:Nat){x:VC}(hl:l[n]? = some (pts v (.cells (volC g x) false))){f:Sl→M β}(kk:Tri (z00 l) (f x.used) S):Tri (z00 l) (bd (nonNil (some ⟨v,0⟩)) fun q=>bd (fld q 0) fun q=>bd (fld q 0) fun q=>bd (fld q 2) fun q=>bd (ldL 1 q) f) S:=
 z0m (z06 (z06 (z06 (z16 n hl rfl kk))))
theorem z7d(n:Nat){x:VC}(hl:l[n]? = some (pts v (.cells (volC g x) false))){f:Sl→M β}(kk:Tri (z00 l) (f x.ino) S):Tri (z00 l) (bd (nonNil (some ⟨v,0⟩)) fun q=>bd (fld q 0) fun q=>bd (fld q 0) fun q=>bd (fld q 3) fun q=>bd (ldL 14 q) f) S:=
 z0m (z06 (z06 (z06 (z16 n hl rfl kk))))
theorem zq6(n:Nat){x:VC}(hl:l[n]? = some (pts v (.cells (volC g x) false))){f:Option Nat→M β}(kk:Tri (z00 l) (f (some x.mp)) S):Tri (z00 l) (bd (nonNil (some ⟨v,0⟩)) fun q=>bd (fld q 0) fun q=>bd (fld q 4) fun q=>bd (ldM q) f) S:=
 z0m (z06 (z06 (z3g n hl (fun _ hg=>zkw hg rfl) kk)))
theorem z14y(n:Nat){x:VC}(hl:l[n]? = some (pts v (.cells (volC g x) false))){f:Int→M β}(kk:Tri (z00 l) (f g.G) S):Tri (z00 l) (bd (nonNil (some ⟨v,0⟩)) fun q=>bd (fld q 6) fun q=>bd (fld q 2) fun q=>bd (ldI .i64 q) f) S:=
 z0m (z06 (z06 (z2d n hl rfl kk)))
theorem z82(n:Nat){x:VC}(hl:l[n]? = some (pts v (.cells (volC g x) false))){f:Int→M β}(kk:Tri (z00 l) (f g.P) S):Tri (z00 l) (bd (nonNil (some ⟨v,0⟩)) fun q=>bd (fld q 6) fun q=>bd (fld q 3) fun q=>bd (ldI .i64 q) f) S:=
 z0m (z06 (z06 (z2d n hl rfl kk)))
theorem z105(n:Nat){x:VC}(hl:l[n]? = some (pts v (.cells (volC g x) false))){f:Int→M β}(kk:Tri (z00 l) (f g.blk) S):Tri (z00 l) (bd (nonNil (some ⟨v,0⟩)) fun q=>bd (fld q 10) fun q=>bd (fld q 5) fun q=>bd (ldI .i64 q) f) S:=
 z0m (z06 (z06 (z2d n hl rfl kk)))
theorem zgy(n:Nat){x:VC}(hl:l[n]? = some (pts v (.cells (volC g x) false))){s:Sl}{f:Unit→M β}(kk:Tri (z00 (upd l n (pts v (.cells (volC g {x with rows:=s}) false)))) (f ()) S):Tri (z00 l) (bd (nonNil (some ⟨v,0⟩)) fun q=>bd (fld q 0) fun q=>bd (fld q 0) fun q=>bd (fld q 0) fun q=>bd (stc q (.sl s.p s.len 2)) f) S:=
 z0m (z06 (z06 (z06 (z1v n hl (by simp[volC]) rfl kk))))
theorem zx9(n:Nat){x:VC}(hl:l[n]? = some (pts v (.cells (volC g x) false))){s:Sl}{f:Unit→M β}(kk:Tri (z00 (upd l n (pts v (.cells (volC g {x with used:=s}) false)))) (f ()) S):Tri (z00 l) (bd (nonNil (some ⟨v,0⟩)) fun q=>bd (fld q 0) fun q=>bd (fld q 0) fun q=>bd (fld q 2) fun q=>bd (stc q (.sl s.p s.len 1)) f) S:=
 z0m (z06 (z06 (z06 (z1v n hl (by simp[volC]) rfl kk))))
def VolS.wM(V:VolS)(m:MetaS):VolS:={V with n:={V.n with m:=m}}
def VolS.wRows(V:VolS)(r:List Row):VolS:=V.wM {V.n.m with rows:=r}
def VolS.wOwn(V:VolS)(r:List Nat):VolS:=V.wM {V.n.m with own:=r}
def VolS.wUsed(V:VolS)(r:List UInt8):VolS:=V.wM {V.n.m with used:=r}
def VolS.wIno(V:VolS)(r:List Ino):VolS:=V.wM {V.n.m with ino:=r}
theorem VHok.wM{y:VH}(h:VHok V y)(mm:MetaS)(x:VC)(hx:x.dead=y.x.dead):VHok (V.wM mm) {y with x:=x}:=⟨h.1,h.2,h.3,h.4,hx.trans h.5⟩
theorem zgz{i:Nat}(hu:V.n.m.used.length=64)(hi:i<512)(on:Bool):Tri (z00 [z1f v d g V]) (F_0q N (some ⟨v,0⟩) (i:Int) on) fun _=>z00 [z1f v d g (V.wUsed (z11 V.n.m.used i on))]:=by
 unfold F_0q;refine z2m 0 rfl fun y hy hd=>?_;dsimp only[sel,rem,nth,del,cat,upd,z2f];refine zbm 0 rfl ?_;refine z0c 3 rfl fun h3=>?_;refine z02 [3] (zxm (z0k h3) (by omega) (by omega) on) fun r=>z04 fun hr=>z01 ?_;dsimp only[sel,rem,nth,del,cat,upd];refine zx9 2 rfl ?_;dsimp only[sel,rem,nth,del,cat,upd] ;refine z03 [2,2,2,0,1,1,1,1,1,1,1] fun q hq=>?_;exact z1o (V:=V.wUsed _) (y:={y with x:={y.x with used:=r.1}}) (hy.wM _ _ rfl) hd hq
theorem zrs{k:Nat}(hu:V.n.m.used.length=64)(hg:g.ok)(hk:k<g.G)(hN:5000<N):Tri (z00 [z1f v d g V]) (F_0o N (some ⟨v,0⟩) (k:Int)) fun r=>pu (r=(z39 V.n.m.used (k * g.P) ((k+1) * g.P):Nat)) (z00 [z1f v d g V]):=by
 have hgp:=hg.gp;have hpp:=hg.pp;have hb:(k+1) * g.P≤g.G * g.P:=Nat.mul_le_mul_right _ hk;have hb2:k * g.P≤(k+1) * g.P:=Nat.mul_le_mul_right _ (by omega);unfold F_0o;refine z2m 0 rfl fun y hy hd=>?_;dsimp only[sel,rem,nth,del,cat,upd,z2f];refine zbm 0 rfl (z82 0 rfl (z82 0 rfl ?_));have e1:(k:Int) * (g.P:Int)=((k * g.P:Nat):Int):=by simp
 have e2:wr .i64 ((k:Int)+1)=((k+1:Nat):Int):=by rw[z0i (by have:=hg.g2;omega) (by have:=hg.g2;omega)];simp
 have e3:((k+1:Nat):Int) * (g.P:Int)=(((k+1) * g.P:Nat):Int):=by simp
 rw[e1,e2,e3,z0i (by omega) (by omega),z0i (by omega) (by omega)];refine z0c 3 rfl fun h3=>?_;refine z02 [3] (zfi (z0k h3) (by omega) hb2 (by omega) hN) fun r=>z04 fun hr=>z01 ?_;dsimp only[sel,rem,nth,del,cat,upd];refine z03 [1,1,1,0,0,0,0,0,0,0,0] fun q hq=>⟨hr,z1o hy hd hq⟩
end
end Go.Moat

/- Layer 15: the volume's functions that leave the disk alone. -/
namespace Go.Moat
open Go.Mini
def MetaS.isAt(g:Geo)(m:MetaS)(row:Nat)(i:Nat):Bool:=decide (m.own[i / g.P]? = some (row+1)) && !z0r m.used i
def MetaS.atB(g:Geo)(m:MetaS)(a:Nat):Option Nat:=match m.rows.findIdx? (z2v a)with
 | some r=>(List.range' 0 g.B).find? (m.isAt g r)
 | none=>none
def z4v(o:Nat):Bool:=decide (o=0)
def MetaS.alloc(g:Geo)(m:MetaS)(a:Nat):(Int×Int)×MetaS:=match m.atB g a with
 | some b=>(((b:Int),0),{m with used:=z11 m.used b true})
 | none=>match m.own.findIdx? z4v with
  | none=>((0,5),m)
  | some k=>if z3a m.rows a=0 then((((k * g.P:Nat):Int),0),{m with rows:=za4 m.rows a,own:=m.own.set k (retI m.rows a+1),used:=z11 m.used (k * g.P) true})else((0,z3a m.rows a),m)
def MetaS.usedE(g:Geo)(m:MetaS)(b:Int):Int:=if 0≤b∧b<g.B then(if z0r m.used b.toNat then 0 else 2)else 1
def MetaS.ownT(g:Geo)(m:MetaS)(b:Nat):Nat:=match m.own[b / g.P]?.getD 0 with
 | 0=>0
 | o+1=>(rowN m.rows o).1
def MetaS.free(g:Geo)(m:MetaS)(b:Nat):MetaS:=
 if z39 (z11 m.used b false) (b / g.P * g.P) ((b / g.P+1) * g.P)=0 then {m with used:=z11 m.used b false,rows:=z7f m.rows (m.own[b / g.P]?.getD 0 - 1),own:=m.own.set (b / g.P) 0}else {m with used:=z11 m.used b false}
def z4f(n:Ino):Bool:=decide (n.k=0)
def zd9(k r:Nat):Ino:=⟨k,r,⟨List.replicate 12 0,by simp⟩⟩
def MetaS.make(m:MetaS)(kind a:Nat):(Int×Int)×MetaS:=
 if kind=1∨kind=2 then(match m.ino.findIdx? z4f with
  | none=>((0,5),m)
  | some i=>if z3a m.rows a=0 then(((i:Int),0),{m with rows:=za4 m.rows a,ino:=m.ino.set i (zd9 kind (retI m.rows a))})else((0,z3a m.rows a),m))
 else((0,1),m)
def z4k(l:List Ino)(i:Nat):Ino:=l[i]?.getD Ino.z
def MetaS.hasE(m:MetaS)(i:Int):Int:=if 0≤i∧i<m.ino.length then(if(z4k m.ino i.toNat).k=0 then 2 else 0)else 1
def MetaS.unmake(m:MetaS)(i:Nat):MetaS:={m with rows:=z7f m.rows (z4k m.ino i).r,ino:=m.ino.set i Ino.z}
def MetaS.setE(m:MetaS)(i:Int)(n:Ino):Int:=if m.hasE i=1 then 1 else if n.ok=false∨n.k=0 then 1 else if m.hasE i≠0 then 2 else if n.k≠(z4k m.ino i.toNat).k∨n.r≠(z4k m.ino i.toNat).r then 1 else 0
structure RefOk(m:MetaS):Prop where
 own:∀o∈m.own,0<o→0<(rowN m.rows (o - 1)).2
 ino:∀n∈m.ino,n.k≠0→0<(rowN m.rows n.r).2
section
variable{N:Nat}{β:Type}{l:List HA}{S:β→HA}{v d:Nat}{g:Geo}{V:VolS}{m:M β}
theorem zrv(hg:g.ok)(i:Int):Tri (z00 [z1f v d g V]) (F_2o N (some ⟨v,0⟩) i) fun r=>pu (r=decide (0≤i∧i<g.B)) (z00 [z1f v d g V]):=by
 have hgp:=hg.gp;unfold F_2o;refine z02 [0] (Q:=fun r=>pu (r=decide (0≤i∧i<g.B)) (z00 [z1f v d g V])) ?_ fun r=>z04 fun h=>z01 (z03 [0] fun q hq=>⟨h,hq⟩);by_cases h:0≤i
 ·refine z07 (by simpa using h) ?_;refine z2m 0 rfl fun y hy hd=>?_;dsimp only[sel,rem,nth,del,cat,upd,z2f];refine z14y 0 rfl (z82 0 rfl ?_);have e1:(g.G:Int) * (g.P:Int)=((g.G * g.P:Nat):Int):=by simp
  rw[e1,z0i (by omega) (by omega)];refine z03 [0,0,0,0,0,0,0,0,0,0,0] fun q hq=>⟨?_,z1o hy hd hq⟩;simp[h,Geo.B]
 ·refine z05 (by simpa using h) (z03 [0] fun q hq=>⟨by simp[h],hq⟩)
theorem zl6(hg:g.ok)(hu:V.n.m.used.length=64)(i:Int):Tri (z00 [z1f v d g V]) (F_1e N (some ⟨v,0⟩) i) fun r=>pu (r=V.n.m.usedE g i) (z00 [z1f v d g V]):=by
 unfold F_1e;refine z05 (by simp) ?_;refine z02 [0] (zrv hg i) fun r=>z04 fun h=>z01 ?_;dsimp only[sel,rem,nth,del,cat,upd];unfold MetaS.usedE;by_cases hi:0≤i∧i<g.B
 ·rw[if_pos hi];refine z05 (by simp[h,hi]) ?_;refine z2m 0 rfl fun y hy hd=>?_;dsimp only[sel,rem,nth,del,cat,upd,z2f];refine zbm 0 rfl ?_;refine z0c 3 rfl fun h3=>?_;refine z02 [3] (zqj (z0k h3) (by omega) i) fun r=>z04 fun hr=>z01 ?_;dsimp only[sel,rem,nth,del,cat,upd];have e:decide (0≤i)=true:=by simp[hi.1]
  rw[e,Bool.true_and]at hr;subst hr;cases hb:z0r V.n.m.used i.toNat
  ·refine z07 rfl (z03 [1,1,1,0,0,0,0,0,0,0,0] fun q hq=>⟨by simp,z1o hy hd hq⟩)
  ·refine z05 (by simp) (z03 [1,1,1,0,0,0,0,0,0,0,0] fun q hq=>⟨by simp,z1o hy hd hq⟩)
 ·rw[if_neg hi];refine z07 (by simp[h];omega) (z03 [0] fun q hq=>⟨rfl,hq⟩)
theorem z10m(v':Option MA)(b:Int):RO (F_0s N v' b):=by
 unfold F_0s;repeat' first
  | exact z5c _
  | exact ze1
  | exact zd5 _
  | exact zgw _ _
  | exact zx6 _ _
  | exact zx5 _ _
  | exact z14w _ _ _
  | (refine z60 ?_ fun _=>?_)
  | split
theorem zur{y:VH}{T:List HA}(hg:g.ok)(ok:MetaOk g V.n.m){b:Nat}(hb:b<g.B) :
  Tri (z00 [pts v (.cells (volC g y.x) false),z08 y.x.rows 2 (z13 V.n.m.rows),z08 y.x.own 1 (z3i V.n.m.own)]) (F_0s N (some ⟨v,0⟩) (b:Int)) fun r=>pu (r=(V.n.m.ownT g b:Nat)) (z00 [pts v (.cells (volC g y.x) false),z08 y.x.rows 2 (z13 V.n.m.rows),z08 y.x.own 1 (z3i V.n.m.own)]):=by
 have hp1:=hg.p1;have hgp:=hg.gp;have hk:b / g.P<g.G:=by
  rw[Nat.div_lt_iff_lt_mul (by omega)];exact hb
 have hkl:b / g.P<V.n.m.own.length:=by rw[ok.ownl];exact hk
 unfold F_0s;refine zao 0 rfl (z82 0 rfl ?_);rw[if_neg (by omega)];have e1:(b:Int).tdiv (g.P:Int)=((b / g.P:Nat):Int):=rfl;have hb5:b<512:=by unfold Geo.B at hb;omega
 have hb6:=Nat.div_le_self b g.P;rw[e1];unfold MetaS.ownT;generalize b / g.P=bq at hk hkl hb6;rw[z0i (by omega) (by omega)];refine z0c 2 rfl fun h2=>?_;refine z3h 2 rfl (z0k h2) (i:=bq) (k :=.i64) (v:=(V.n.m.own[bq]:Nat)) (by simp[i64s,hkl]) ?_;have ho:=ok.own16 _ (List.getElem_mem hkl);rw[List.getElem?_eq_getElem hkl];dsimp only[Option.getD_some];generalize V.n.m.own[bq]=o at ho;cases o with
 | zero=>exact z05 (by simp) (z03 [0,0,0] fun q hq=>⟨rfl,hq⟩)
 | succ o=>
  have hol:o<V.n.m.rows.length:=by rw[ok.rows.len];omega
  refine z07 (by simp) (zbl 0 rfl ?_);have e2:wr .i64 (((o+1:Nat):Int) - 1)=(o:Int):=by rw[z0i (by omega) (by omega)];omega
  rw[e2];refine z0c 1 rfl fun h1=>?_;rw[z0p z1c]at h1;refine z1s 1 rfl (z0k (by rw[z0p z1c];omega)) (i:=o) (o:=0) (by omega) (by omega) (v:=(V.n.m.rows[o].1:Nat)) (by rw[z2u z1c hol (by omega)];rfl) ?_;refine z03 [0,0,0] fun q hq=>⟨?_,hq⟩;simp[rowN,hol]
def NowS.write(g:Geo)(n:NowS)(b:Nat)(bs:List UInt8):NowS:={n with dirty:=z7c n.dirty b (bs,n.m.ownT g b)}
def VolS.write(g:Geo)(V:VolS)(b:Nat)(bs:List UInt8):VolS:={V with n:=V.n.write g b bs}
theorem z138(ok:MetaOk g V.n.m)(b:Nat):V.n.m.ownT g b<65536:=by
 unfold MetaS.ownT;split
 ·omega
 ·rename_i o _;unfold rowN;cases h:V.n.m.rows[o]? with
  | none=>simp
  | some r=>exact(ok.rows.rng _ (List.mem_of_getElem? h)).1
theorem zip(hg:g.ok)(ok:MetaOk g V.n.m){b:Nat}(hb:b<g.B){s:Sl}{bs:List UInt8}(hs:s.len=64)(h64:bs.length=64) :
  Tri (z00 [z1f v d g V,z08 s 1 (bytesOf bs)]) (F_1f N (some ⟨v,0⟩) (b:Int) s) fun _=>z00 [z1f v d g (V.write g b bs)]:=by
 have hall:=hg.all_le;have:g.all=g.blk+g.B:=rfl
 unfold F_1f;refine z2m 0 rfl fun y hy hd=>?_;dsimp only[sel,rem,nth,del,cat,upd,z2f];refine zq6 0 rfl (z105 0 rfl ?_);rw[za2 (z10m _ _)];refine z02 [0,0,0] (zur (T:=[]) hg ok hb) fun r=>z04 fun hr=>z01 ?_;dsimp only[sel,rem,nth,del,cat,upd];subst hr;have e1:(g.blk:Int)+(b:Int)=((g.blk+b:Nat):Int):=by simp
 rw[e1,z0i (by omega) (by omega)];refine zt2 5 rfl _ _ ?_;dsimp only[sel,rem,nth,del,cat,upd];refine z03 [0,0,0,0,0,0,5,0,0,0,0,0] fun q hq=>?_;let x:DV:=⟨s,bs,V.n.m.ownT g b⟩
 have e2:z6e (dkv g y.L) (b:Int) (.agg [.int .i64 ((g.blk+b:Nat):Int),.sl s.p s.len 1,.int .u16 (V.n.m.ownT g b:Nat)])=dkv g (z7c y.L b x):=by
  have:=zq3 (fun k z=>dvC g k z) x y.L (b:Int)
  rw[dkv,dkv,←this];congr 1
 rw[e2]at hq;dsimp only[sel,rem,nth,del,cat,upd]at hq;have hmem:∀e∈z7c y.L (b:Int) x,e=((b:Int),x)∨e∈y.L:=fun e he=>zja he;refine z1o (y:={y with L:=z7c y.L b x,P:=(s,bs)::y.P}) ⟨?_,⟨?_,?_,?_⟩,hy.safe,fun e he=>?_,hy.dead⟩ hd ?_
 ·show z5t (z7c y.L b x)=z7c V.n.dirty b (bs,V.n.m.ownT g b);rw[←hy.dirty];exact zq4 DV.f x y.L (b:Int)
 ·intro e he;rcases hmem e he with rfl | he
  ·exact List.mem_cons_self
  ·exact List.mem_cons_of_mem _ (hy.dok.mem e he)
 ·intro e he;rcases hmem e he with rfl | he
  ·exact⟨hs,h64⟩
  ·exact hy.dok.len e he
 ·intro e he;rcases hmem e he with rfl | he
  ·exact z138 ok b
  ·exact hy.dok.tag e he
 ·have:=hy.smem e he
  exact⟨List.mem_cons_of_mem _ this.1,this.2⟩
 ·refine z1d (fun q=>z1d (fun q=>z1d (fun q=>z1d (fun q=>z1d (fun q=>z1d (fun q hq=>zmw ?_))))) ) hq;exact z1d (fun q=>z1d (fun q=>z1d (fun q=>z1d (fun q=>z1d (fun q=>ent_head (zgx.mono _)))))) hq
theorem zn7(ok:RowsOk V.n.m.rows){i:Nat}(hi:i<16)(h0:0<(rowN V.n.m.rows i).2)(hN:100<N):Tri (z00 [z1f v d g V]) (F_1g N (some ⟨v,0⟩) (i:Int)) fun _=>z00 [z1f v d g (V.wRows (z7f V.n.m.rows i))]:=by
 unfold F_1g;refine z2m 0 rfl fun y hy hd=>?_;dsimp only[sel,rem,nth,del,cat,upd,z2f];refine zbl 0 rfl ?_;refine z0c 1 rfl fun h1=>?_;refine z02 [1] (zql ok (z0k h1) hi h0 hN) fun r=>z04 fun hr=>z01 ?_;dsimp only[sel,rem,nth,del,cat,upd];refine zgy 2 rfl ?_;dsimp only[sel,rem,nth,del,cat,upd];refine z03 [2,0,1,1,1,1,1,1,1,1,1] fun q hq=>?_;exact z1o (V:=V.wRows _) (y:={y with x:={y.x with rows:=r.1}}) (hy.wM _ _ rfl) hd hq
theorem zfn(n:Nat){s:Sl}{o:List Nat}(hl:l[n]? = some (z08 s 1 (z3i o))){k x:Nat}(hk:k<o.length){f:Unit→M β}(kk:Tri (z00 (upd l n (z08 s 1 (z3i (o.set k x))))) (f ()) S):Tri (z00 l) (bd (idx 1 s (k:Int)) fun q=>bd (stc q (.int .i64 x)) f) S:=by
 refine z6w n hl (fun h1 h2=>?_) fun b ln h1 h2=>?_
 ·have:=congrArg List.length h2
  rw[z34,List.length_nil]at this;omega
 ·subst h1;rw[z34]at h2;refine z1x (by omega) (z1v n (z30 l n _ hl) (by rw[z34];omega) rfl ?_);rw[z3p,Nat.zero_add,Nat.mul_one];have e:(z3i o).set k (.int .i64 x)=z3i (o.set k x):=by
   unfold z3i i64s;rw[List.map_set,List.map_set]
  rw[e];refine kk.pre fun q hq=>?_;have:=z2x n (l:=upd l n (pts b (.cells (z3i (o.set k x)) false))) (B:=z08 ⟨some ⟨b,0⟩,ln⟩ 1 (z3i (o.set k x))) (z30 l n _ hl) (fun q h =>.mk (by rw[z34,List.length_set];exact h2) h) q hq
  rwa [z3p]at this
theorem zaw(n:Nat){s:Sl}{o:List Ino}(hl:l[n]? = some (z08 s 14 (z2b o))){k:Nat}{x:Ino}(hk:k<o.length){f:Unit→M β}(kk:Tri (z00 (upd l n (z08 s 14 (z2b (o.set k x))))) (f ()) S):Tri (z00 l) (bd (idx 14 s (k:Int)) fun q=>bd (stn 14 q (z0u x)) f) S:=by
 have hb:k * 14+14≤o.length * 14:=z2t hk;refine z6w n hl (fun h1 h2=>?_) fun b ln h1 h2=>?_
 ·have:=congrArg List.length h2
  rw[z0p z0h,List.length_nil]at this;omega
 ·subst h1;rw[z0p z0h]at h2;refine z1x (by omega) (z5n n (z30 l n _ hl) (z0h x) (by rw[z0p z0h,z0h];omega) (z88 x) ?_);rw[z3p,Nat.zero_add,zfe z0h hk];refine kk.pre fun q hq=>?_;have:=z2x n (l:=upd l n (pts b (.cells (z2b (o.set k x)) false))) (B:=z08 ⟨some ⟨b,0⟩,ln⟩ 14 (z2b (o.set k x))) (z30 l n _ hl) (fun q h =>.mk (by rw[z0p z0h,List.length_set];exact h2) h) q hq
  rwa [z3p]at this
theorem zrw{T:HA}{s:Sl}{o:List Nat}(hr:RdC T s 1 (z3i o))(hl:o.length≤64)(hN:100<N):Tri (z00 [T]) (F_2m N s 0) fun r=>pu (r=fi z4v o) (z00 [T]):=by
 have hlen:s.len=o.length:=by
  have:=hr.1
  rw[z34]at this;omega
 unfold F_2m;refine zcs (A:=z00 [T]) z4v o (by omega) (fun rec i hi Q k=>?_) fun rec Q k=>?_
 ·unfold F_4q;refine z07 (by simp[hlen];omega) ?_;refine z3h 0 rfl hr (k :=.i64) (v:=(o[i]:Nat)) (by simp[i64s,hi]) ?_;rw[z0i (by omega) (by omega)];have:(decide ((0:Int)=((o[i]:Nat):Int)))=z4v o[i]:=by
   unfold z4v;congr 1;apply propext;omega
  rw[this];exact k
 ·unfold F_4q;exact z05 (by simp[hlen]) k
theorem ziq(hg:g.ok)(ok:MetaOk g V.n.m){a:Nat}(ha:a<65536)(hN:5000<N):Tri (z00 [z1f v d g V]) (F_07 N (some ⟨v,0⟩) (a:Int)) fun r=>pu (r=(V.n.m.alloc g a).1) (z00 [z1f v d g (V.wM (V.n.m.alloc g a).2)]):=by
 have hgp:=hg.gp;have hpp:=hg.pp;have hG:=hg.g2;have hp1:=hg.p1;have hB:g.B=g.G * g.P:=rfl;have hol:=ok.ownl;have hul:=ok.usedl;unfold F_07;refine z05 (by simp) ?_;refine z2m 0 rfl fun y hy hd=>?_;dsimp only[sel,rem,nth,del,cat,upd,z2f];refine zbl 0 rfl ?_;refine z0c 1 rfl fun h1=>z0c 2 rfl fun h2=>z0c 3 rfl fun h3=>?_;refine z02 [1] (zum ha ok.rows (z0k h1) (by omega)) fun r8=>z04 fun hr8=>z01 ?_;dsimp only[sel,rem,nth,del,cat,upd];refine zao 1 rfl ?_;rw[z34]at h2
 -- the groups
 have keep:VolS.wM V V.n.m=V:=rfl;have loop:∀(K k:Nat),g.G - k<K→k≤g.G→(∀r,V.n.m.rows.findIdx? (z2v a)=some r→∀i,i<k * g.P→V.n.m.isAt g r i=false) →
   Tri (z00 (z2f v d g V y)) (z0l K (F_3e N (some ⟨v,0⟩) r8 y.x.own) (k:Int)) fun r=>match V.n.m.atB g a with
    | some b=>pu (r=.inr ((b:Int),0)) (z00 [z1f v d g (V.wM {V.n.m with used:=z11 V.n.m.used b true})])
    | none=>pu (r=.inl ()) (z00 (z2f v d g V y)):=by
  intro K;induction K with
  | zero=>intro k h;omega
  | succ K ih=>
   intro k h hk hno;rw[z18];unfold F_3e;by_cases hkG:k<g.G
   ·refine z07 (by simp;omega) ?_;have hkl:k<V.n.m.own.length:=by omega
    have hb1:k * g.P≤(k+1) * g.P:=Nat.mul_le_mul_right _ (by omega);have hb2:(k+1) * g.P≤g.G * g.P:=Nat.mul_le_mul_right _ hkG;rw[z0i (n:=(k:Int)+1) (by omega) (by omega)];have next:(∀r,V.n.m.rows.findIdx? (z2v a)=some r→∀i,i<(k+1) * g.P→V.n.m.isAt g r i=false)→Tri (z00 (z2f v d g V y)) (z0l K (F_3e N (some ⟨v,0⟩) r8 y.x.own) ((k:Int)+1)) fun r=>match V.n.m.atB g a with
      | some b=>pu (r=.inr ((b:Int),0)) (z00 [z1f v d g (V.wM {V.n.m with used:=z11 V.n.m.used b true})])
      | none=>pu (r=.inl ()) (z00 (z2f v d g V y)):=fun hh=>ih (k+1) (by omega) (by omega) hh
    -- is it one of the label's?
    have hskip:(∀r,V.n.m.rows.findIdx? (z2v a)=some r→V.n.m.own[k]≠r+1)→∀r,V.n.m.rows.findIdx? (z2v a)=some r→∀i,i<(k+1) * g.P→V.n.m.isAt g r i=false:=by
     intro hne r hr i hi;by_cases hik:i<k * g.P
     ·exact hno r hr i hik
     ·have:i / g.P=k:=by
       rw[Nat.div_eq_iff (by omega)];have:(k+1) * g.P=k * g.P+g.P:=by rw[Nat.add_mul,Nat.one_mul]
       omega
      unfold MetaS.isAt;rw[this,List.getElem?_eq_getElem hkl];have:=hne r hr
      simp[this]
    cases hrow:V.n.m.rows.findIdx? (z2v a)with
    | none=>
     rw[hrow]at hr8;subst hr8;refine z02 [0,0,0,0,0,0,0,0,0,0,0] (Q:=fun r=>pu (r=.inl ()) (z00 (z2f v d g V y))) ?_ fun r=>z04 fun hr=>z01 ?_
     ·refine z3h 2 rfl (z0k (by rw[z34];exact h2)) (i:=k) (k :=.i64) (v:=(V.n.m.own[k]:Nat)) (by simp[i64s,hkl]) ?_;exact z07 rfl (z03 [0,0,0,0,0,0,0,0,0,0,0] fun q hq=>⟨rfl,hq⟩)
     ·subst hr;exact next (hskip fun r hr=>by rw[hrow]at hr;cases hr)
    | some r=>
     rw[hrow]at hr8;subst hr8;have hr16:r<16:=by
      have:=(List.findIdx?_eq_some_iff_getElem.1 hrow).1
      rw[ok.rows.len]at this;exact this
     by_cases hko:V.n.m.own[k]=r+1
     ·-- a bit of it
      have hfind:∀b,z69 V.n.m.used (k * g.P) ((k+1) * g.P) false=some b→V.n.m.atB g a=some b∧b<512:=by
       intro b hb;unfold z69 at hb;rw[List.find?_range'_eq_some]at hb;obtain⟨hb3,hb4,hb5⟩:=hb;obtain⟨hb6,hb7⟩:=List.mem_range'_1.1 hb4;refine⟨?_,by omega⟩;unfold MetaS.atB;rw[hrow];dsimp only;rw[List.find?_range'_eq_some];have hdiv:∀i,k * g.P≤i→i<(k+1) * g.P→i / g.P=k:=by
        intro i h1 h2;rw[Nat.div_eq_iff (by omega)];have:(k+1) * g.P=k * g.P+g.P:=by rw[Nat.add_mul,Nat.one_mul]
        omega
       have hat:∀i,k * g.P≤i→i<(k+1) * g.P→V.n.m.isAt g r i = !z0r V.n.m.used i:=by
        intro i h1 h2;unfold MetaS.isAt;rw[hdiv i h1 h2,List.getElem?_eq_getElem hkl,hko];simp
       refine⟨?_,?_,fun i h1 h2=>?_⟩
       ·rw[hat b hb6 (by omega)];simpa using hb3
       ·rw[List.mem_range'_1];omega
       ·by_cases hik:i<k * g.P
        ·rw[hno r hrow i hik];rfl
        ·rw[hat i (by omega) (by omega)];have:=hb5 i (by omega) h2
         simpa using this
      have hnone:z69 V.n.m.used (k * g.P) ((k+1) * g.P) false=none→∀r',V.n.m.rows.findIdx? (z2v a)=some r'→∀i,i<(k+1) * g.P→V.n.m.isAt g r' i=false:=by
       intro hn r' hr' i hi;by_cases hik:i<k * g.P
       ·exact hno r' hr' i hik
       ·unfold z69 at hn;rw[List.find?_eq_none]at hn;have:=hn i (by rw[List.mem_range'_1];omega)
        have hu:z0r V.n.m.used i=true:=by simpa using this
        unfold MetaS.isAt;rw[hu];simp
      cases hf:z69 V.n.m.used (k * g.P) ((k+1) * g.P) false with
      | none=>
       refine z02 [0,0,0,0,0,0,0,0,0,0,0] (Q:=fun r=>pu (r=.inl ()) (z00 (z2f v d g V y))) ?_ fun r=>z04 fun hr=>z01 ?_
       ·refine z3h 2 rfl (z0k (by rw[z34];exact h2)) (i:=k) (k :=.i64) (v:=(V.n.m.own[k]:Nat)) (by simp[i64s,hkl]) ?_;dsimp only;rw[z0i (n:=(r:Int)+1) (by omega) (by omega)];refine z05 (by simp[hko]) ?_;refine zbm 0 rfl (z82 0 rfl (z82 0 rfl ?_));have e1:(k:Int) * (g.P:Int)=((k * g.P:Nat):Int):=by simp
        have e2:((k:Int)+1) * (g.P:Int)=(((k+1) * g.P:Nat):Int):=by simp
        rw[e1,e2,z0i (by omega) (by omega),z0i (by omega) (by omega)];refine z02 [3] (zl3 (z0k h3) (by omega) hb1 (by omega) false hN) fun r31=>z04 fun hr31=>z01 ?_;rw[hf]at hr31;subst hr31;exact z05 (by simp) (z03 [1,1,1,0,0,0,0,0,0,0,0] fun q hq=>⟨rfl,hq⟩)
       ·subst hr;exact next (hnone hf)
      | some b=>
       obtain⟨hat,hb512⟩:=hfind b hf;rw[hat];refine z02 [0,0,0,0,0,0,0,0,0,0,0] (Q:=fun r=>pu (r=.inr ((b:Int),0)) (z00 [z1f v d g (V.wM {V.n.m with used:=z11 V.n.m.used b true})])) ?_ fun r=>z04 fun hr=>z01 ?_
       ·refine z3h 2 rfl (z0k (by rw[z34];exact h2)) (i:=k) (k :=.i64) (v:=(V.n.m.own[k]:Nat)) (by simp[i64s,hkl]) ?_;dsimp only;rw[z0i (n:=(r:Int)+1) (by omega) (by omega)];refine z05 (by simp[hko]) ?_;refine zbm 0 rfl (z82 0 rfl (z82 0 rfl ?_));have e1:(k:Int) * (g.P:Int)=((k * g.P:Nat):Int):=by simp
        have e2:((k:Int)+1) * (g.P:Int)=(((k+1) * g.P:Nat):Int):=by simp
        rw[e1,e2,z0i (by omega) (by omega),z0i (by omega) (by omega)];refine z02 [3] (zl3 (z0k h3) (by omega) hb1 (by omega) false hN) fun r31=>z04 fun hr31=>z01 ?_;rw[hf]at hr31;subst hr31;dsimp only[sel,rem,nth,del,cat,upd];refine z07 rfl ?_;refine Tri.pre (B:=z00 [z1f v d g V]) ?_ fun q hq=>z1o hy hd (zsy [1,1,1,0,0,0,0,0,0,0,0] hq);exact z02 [0] (zgz hul hb512 true) fun _=>z01 (z03 [0] fun q hq=>⟨rfl,hq⟩)
       ·subst hr;exact z03 [0] fun q hq=>⟨rfl,hq⟩
     ·refine z02 [0,0,0,0,0,0,0,0,0,0,0] (Q:=fun r=>pu (r=.inl ()) (z00 (z2f v d g V y))) ?_ fun r=>z04 fun hr=>z01 ?_
      ·refine z3h 2 rfl (z0k (by rw[z34];exact h2)) (i:=k) (k :=.i64) (v:=(V.n.m.own[k]:Nat)) (by simp[i64s,hkl]) ?_;dsimp only;rw[z0i (n:=(r:Int)+1) (by omega) (by omega)];exact z07 (by simp;omega) (z03 [0,0,0,0,0,0,0,0,0,0,0] fun q hq=>⟨rfl,hq⟩)
      ·subst hr;refine next (hskip fun r' hr'=>?_)
       rw[hrow]at hr';cases hr';exact hko
   ·obtain rfl:k=g.G:=by omega
    refine z05 (by simp;omega) ?_;have hat:V.n.m.atB g a=none:=by
     unfold MetaS.atB;cases hrow:V.n.m.rows.findIdx? (z2v a)with
     | none=>rfl
     | some r=>
      dsimp only;rw[List.find?_eq_none];intro i hi;rw[List.mem_range'_1]at hi;rw[hno r hrow i (by omega)];simp
    rw[hat];exact z1l fun q hq=>⟨rfl,hq⟩
 refine z02 [1,0,0,0,0,0,0,0,0,0,0] (loop N 0 (by omega) (by omega) fun r hr i hi=>by omega) fun r=>?_;cases hat:V.n.m.atB g a with
 | some b=>
  refine z04 fun hr=>z01 ?_;subst hr;refine z03 [0] fun q hq=>⟨?_,?_⟩
  ·unfold MetaS.alloc;rw[hat]
  ·unfold MetaS.alloc;rw[hat];exact hq
 | none=>
  refine z04 fun hr=>z01 ?_;subst hr;dsimp only[sel,rem,nth,del,cat,upd,z2f];refine zao 0 rfl ?_;refine z02 [2] (zrw (z0k (by rw[z34];exact h2)) (by omega) (by omega)) fun r44=>z04 fun hr44=>z01 ?_;dsimp only[sel,rem,nth,del,cat,upd];subst hr44;cases hfr:V.n.m.own.findIdx? z4v with
  | none=>
   rw[ze7 hfr];have hA:V.n.m.alloc g a=((0,5),V.n.m):=by unfold MetaS.alloc;rw[hat,hfr]
   rw[hA];exact z07 (by simp) (z03 [1,1,0,0,0,0,0,0,0,0,0] fun q hq=>⟨rfl,z1o hy hd hq⟩)
  | some k=>
   rw[ze8 hfr];have hkl:=(List.findIdx?_eq_some_iff_getElem.1 hfr).1;refine z05 (by simp) ?_;refine zbl 1 rfl ?_;refine z02 [2] (zin ha ok.rows (z0k h1) (by omega)) fun r50=>z04 fun hr50=>z01 ?_;dsimp only[sel,rem,nth,del,cat,upd];by_cases hE:z3a V.n.m.rows a=0
   ·have hA:V.n.m.alloc g a=((((k * g.P:Nat):Int),0),{V.n.m with rows:=za4 V.n.m.rows a,own:=V.n.m.own.set k (retI V.n.m.rows a+1),used:=z11 V.n.m.used (k * g.P) true}):=by unfold MetaS.alloc;rw[hat,hfr];dsimp only;rw[if_pos hE]
    rw[hA,if_pos hE];obtain⟨e22,e21⟩:=hr50;obtain⟨e21,hI⟩:=e21 hE;have hkP:k * g.P+g.P≤g.G * g.P:=z2t (by omega);refine z05 (by simp[e22,hE]) ?_;refine zao 3 rfl ?_;refine zgy 3 rfl ?_;dsimp only[sel,rem,nth,del,cat,upd];rw[e21];have e3:wr .i64 (((retI V.n.m.rows a:Nat):Int)+1)=((retI V.n.m.rows a+1:Nat):Int):=by rw[z0i (by omega) (by omega)];simp
    rw[e3];refine zfn 2 rfl hkl ?_;dsimp only[sel,rem,nth,del,cat,upd];refine z82 3 rfl ?_;have e4:(k:Int) * (g.P:Int)=((k * g.P:Nat):Int):=by simp
    rw[e4,z0i (by omega) (by omega)];let V1:VolS:=V.wM {V.n.m with rows:=za4 V.n.m.rows a,own:=V.n.m.own.set k (retI V.n.m.rows a+1)}
    refine tri_last [3,0,1,1,1,1,1,1,1,1,1] (Tri.pre (B:=z00 [z1f v d g V1]) ?_ fun q hq=>z1o (V:=V1) (y:={y with x:={y.x with rows:=r50.1}}) (hy.wM _ _ rfl) hd hq)
    ·refine z02 [0] (zgz (V:=V1) hul (by omega) true) fun _=>z01 ?_;dsimp only[sel,rem,nth,del,cat,upd];refine z2m 0 rfl fun y2 hy2 hd2=>?_;dsimp only[sel,rem,nth,del,cat,upd,z2f];refine z82 0 rfl ?_;rw[e4,z0i (by omega) (by omega)];exact z03 [0,0,0,0,0,0,0,0,0,0,0] fun q hq=>⟨rfl,z1o hy2 hd2 hq⟩
   ·have hA:V.n.m.alloc g a=((0,z3a V.n.m.rows a),V.n.m):=by unfold MetaS.alloc;rw[hat,hfr];dsimp only;rw[if_neg hE]
    rw[hA];refine z07 (by simp[hr50.1,hE]) (z03 [3,1,1,1,1,1,1,1,1,1,1] fun q hq=>⟨by rw[hr50.1],z1o hy hd hq⟩)
end
end Go.Moat

/- Layer 15: blocks and inodes. -/
namespace Go.Moat
open Go.Mini
def z14:List UInt8:=List.replicate 64 0
def zo0(g:Geo)(m:MetaS):Prop:=∀b,b<g.B→z0r m.used b=true→0<m.own[b / g.P]?.getD 0
def VolS.free(g:Geo)(V:VolS)(b:Nat):VolS:=(V.write g b z14).wM (V.n.m.free g b)
def VolS.readE(g:Geo)(V:VolS)(b:Int):Int:=if 0≤b∧b<g.B then(match z3o V.n.dirty b with
 | some _=>0
 | none=>z6d V.disk (g.blk+b))else 1
def VolS.readB(g:Geo)(V:VolS)(b:Int):List UInt8:=match z3o V.n.dirty b with
 | some x=>x.1
 | none=>(getS V.disk (g.blk+b)).b
def VolS.writeE(g:Geo)(V:VolS)(b:Int)(bs:List UInt8):Int:=if bs.length=64 then V.n.m.usedE g b else 1
section
variable{N:Nat}{β:Type}{l:List HA}{S:β→HA}{v d:Nat}{g:Geo}{V:VolS}{m:M β}{T:HA}
theorem za7{m:MetaS}{b:Int}(h:m.usedE g b=0):∃k:Nat,b=k∧k<g.B∧z0r m.used k=true:=by
 unfold MetaS.usedE at h;split at h
 ·rename_i hb;refine⟨b.toNat,by omega,by omega,?_⟩;cases hg:z0r m.used b.toNat with
  | true=>rfl
  | false=>rw[hg]at h;simp at h
 ·cases h
theorem zje(k:Tri (z00 [z1f v d g V]) m S){y:VH}(hy:VHok V y)(hd:y.x.d=d):Tri (z00 (z2f v d g V y)) m S:=k.pre fun q hq=>z1o hy hd hq
theorem zl7(hg:g.ok)(ok:MetaOk g V.n.m)(rf:RefOk V.n.m)(gr:zo0 g V.n.m)(b:Int)(hN:5000<N) :
  Tri (z00 [z1f v d g V]) (F_0k N (some ⟨v,0⟩) b) fun r=>pu (r=V.n.m.usedE g b) (z00 [z1f v d g (if V.n.m.usedE g b=0 then V.free g b.toNat else V)]):=by
 have hgp:=hg.gp;have hp1:=hg.p1;have hul:=ok.usedl;unfold F_0k;refine z02 [0] (zl6 hg hul b) fun r=>z04 fun h=>z01 ?_;subst h;dsimp only[sel,rem,nth,del,cat,upd];by_cases hE:V.n.m.usedE g b=0
 case neg=>exact z07 (by simpa using hE) (z03 [0] fun q hq=>⟨rfl,by rw[if_neg hE];exact hq⟩)
 rw[if_pos hE];refine z05 (by simpa using hE) ?_;rw[hE];obtain⟨k,rfl,hk,hbit⟩:=za7 hE;rw[Int.toNat_natCast];have hB:g.B=g.G * g.P:=rfl;have hkG:k / g.P<g.G:=by
  rw[Nat.div_lt_iff_lt_mul (by omega)];exact hk
 have hkl:k / g.P<V.n.m.own.length:=by rw[ok.ownl];exact hkG
 have h0:=gr k hk hbit;rw[List.getElem?_eq_getElem hkl,Option.getD_some]at h0;have h16:=ok.own16 _ (List.getElem_mem hkl);refine z6z 64 (by omega) fun sb=>?_;refine z02 [1,0] (zip (s:=⟨some ⟨sb,0⟩,64⟩) (bs:=z14) hg ok hk rfl (by simp[z14]) |>.pre fun q hq=>z1d (fun q=>ent_head fun q h =>.mk (by rw[z0e];simp[z14]) h) hq) fun _=>z01 ?_;dsimp only[sel,rem,nth,del,cat,upd];let V1:=V.write g k z14
 refine z02 [0] (zgz (V:=V1) (i:=k) hul (by omega) false) fun _=>z01 ?_;dsimp only[sel,rem,nth,del,cat,upd];let V2:=V1.wUsed (z11 V.n.m.used k false)
 have hu2:V2.n.m.used.length=64:=by show(z11 V.n.m.used k false).length=64;rw[z7e];exact hul
 have hb6:=Nat.div_le_self k g.P;have e1:(k:Int).tdiv (g.P:Int)=((k / g.P:Nat):Int):=rfl;have e2:wr .i64 ((k / g.P:Nat):Int)=((k / g.P:Nat):Int):=by
  generalize k / g.P=bq at hb6;exact z0i (by omega) (by omega)
 refine Tri.bd (Q:=fun _=>z00 [z1f v d g V2]) (m:=fun h=>some ((),h)) (f:=fun _=>_) (fun h q hq hh=>⟨(),h,q,rfl,hq,hh,Nat.le_refl _,fun _ _ _=>rfl,fun _ hb =>.inl hb⟩) fun _=>?_;refine z2m 0 rfl fun y hy hd=>?_;dsimp only[sel,rem,nth,del,cat,upd,z2f];refine z82 0 rfl ?_;rw[if_neg (by omega),e1,e2];refine zje (V:=V2) ?_ hy hd;refine z02 [0] (zrs hu2 hg hkG hN) fun r11=>z04 fun h11=>z01 ?_;subst h11;dsimp only[sel,rem,nth,del,cat,upd];have hcnt:z39 V2.n.m.used (k / g.P * g.P) ((k / g.P+1) * g.P)=z39 (z11 V.n.m.used k false) (k / g.P * g.P) ((k / g.P+1) * g.P):=rfl;rw[hcnt];refine z02 [0] (Q:=fun _=>z00 [z1f v d g (V.free g k)]) ?_ fun _=>z01 (z03 [0] fun q hq=>⟨rfl,hq⟩);by_cases hc:z39 (z11 V.n.m.used k false) (k / g.P * g.P) ((k / g.P+1) * g.P)=0
 ·have hF:V.free g k=((V2.wRows (z7f V.n.m.rows (V.n.m.own[k / g.P] - 1))).wOwn (V.n.m.own.set (k / g.P) 0)):=by
   unfold VolS.free MetaS.free;rw[if_pos hc,List.getElem?_eq_getElem hkl];rfl
  rw[hF];refine z07 (by rw[hc];rfl) ?_;refine z2m 0 rfl fun y hy hd=>?_;dsimp only[sel,rem,nth,del,cat,upd,z2f];refine zao 0 rfl ?_;refine z0c 2 rfl fun h2=>?_;refine z3h 2 rfl (z0k h2) (i:=k / g.P) (k :=.i64) (v:=(V.n.m.own[k / g.P]:Nat)) (by
   show(z3i V.n.m.own)[k / g.P]? = _;simp[i64s,hkl]) ?_
  have e3:wr .i64 (((V.n.m.own[k / g.P]:Nat):Int) - 1)=((V.n.m.own[k / g.P] - 1:Nat):Int):=by rw[z0i (by omega) (by omega)];omega
  rw[e3];refine zje (V:=V2) ?_ hy hd;refine z02 [0] (zn7 (V:=V2) ok.rows (by omega) (rf.own _ (List.getElem_mem hkl) h0) (by omega)) fun _=>z01 ?_;dsimp only[sel,rem,nth,del,cat,upd];refine z2m 0 rfl fun y hy hd=>?_;dsimp only[sel,rem,nth,del,cat,upd,z2f];refine zao 0 rfl ?_;refine zfn (x:=0) 2 rfl hkl ?_;refine z03 [0,0,0,0,0,0,0,0,0,0,0] fun q hq=>?_;exact z1o (V:=VolS.wOwn _ _) (y:=y) (hy.wM _ y.x rfl) hd hq
 ·have hF:V.free g k=V2:=by
   unfold VolS.free MetaS.free;rw[if_neg hc];rfl
  rw[hF];exact z05 (by simp;omega) (z03 [0] fun q hq=>hq)
theorem zir(hg:g.ok)(ok:MetaOk g V.n.m)(b:Int){s:Sl}{bs:List UInt8}(hr:RdC T s 1 (bytesOf bs))(hbs:bs.length≤100000) :
  Tri (z00 [z1f v d g V,T]) (F_1q N (some ⟨v,0⟩) b s) fun r=>pu (r=V.writeE g b bs) (z00 [z1f v d g (if V.writeE g b bs=0 then V.write g b.toNat bs else V),T]):=by
 have hlen:=z4o hr;unfold F_1q VolS.writeE;by_cases h64:bs.length=64
 case neg=>
  simp only[if_neg h64];rw[if_neg (show ¬((1:Int)=0) by decide)];exact z07 (by simp[hlen];omega) (z03 [0,0] fun q hq=>⟨rfl,hq⟩)
 simp only[if_pos h64];refine z05 (by simp[hlen];omega) ?_;refine z02 [0] (zl6 hg ok.usedl b) fun r=>z04 fun h=>z01 ?_;subst h;dsimp only[sel,rem,nth,del,cat,upd];by_cases hE:V.n.m.usedE g b=0
 case neg=>exact z07 (by simpa using hE) (z03 [0,0] fun q hq=>⟨rfl,by rw[if_neg hE];exact hq⟩)
 rw[if_pos hE];refine z05 (by simpa using hE) ?_;rw[hE];obtain⟨k,rfl,hk,hbit⟩:=za7 hE;refine z02 [1] (show Tri _ (zbq 1 1 _) _ from zat hr (by omega) (z4z _) (by
  have:most=70368744177664:=rfl
  omega)) fun r=>z01 ?_
 dsimp only[sel,rem,nth,del,cat,upd];refine z0c 0 rfl fun h0=>?_;rw[z0e]at h0;refine z02 [2,0] (zip hg ok hk (by omega) h64) fun _=>z01 ?_;exact z03 [0,0] fun q hq=>⟨rfl,hq⟩
theorem z1t{A:HA}{k:IntKind}{x:Int}{f:Int→M β}(kk:Tri A (f x) S):Tri A (bd (z09 (CTy.dec (.int k) (.int k x))) f) S:=by
 have e:CTy.dec (.int k) (.int k x)=some x:=by simp only[CTy.dec,if_true];rfl
 rw[e];exact z15 kk
theorem zfo(n:Ino):(z0u n)[0]? = some (.int .u8 n.k):=rfl
theorem zo1(n:Ino):(z0u n)[1]? = some (.int .u8 n.r):=rfl
theorem zn8(ok:MetaOk g V.n.m)(hg:g.ok)(i:Int):Tri (z00 [z1f v d g V]) (F_1s N (some ⟨v,0⟩) i) fun r=>pu (r=V.n.m.hasE i) (z00 [z1f v d g V]):=by
 have hil:=ok.inol;have hI:=hg.i2;unfold F_1s;refine z05 (by simp) ?_;refine z2m 0 rfl fun y hy hd=>?_;dsimp only[sel,rem,nth,del,cat,upd,z2f];refine z0c 4 rfl fun h4=>?_;have h4':y.x.ino.len=V.n.m.ino.length:=by rw[z0p z0h]at h4;omega
 unfold MetaS.hasE;refine z02 [0,0,0,0,0,0,0,0,0,0,0] (Q:=fun c=>pu (c = !decide (0≤i∧i<V.n.m.ino.length)) (z00 (z2f v d g V y))) ?_ fun c=>z04 fun hc=>z01 ?_
 ·by_cases h0:i<0
  ·exact z05 (by simpa using h0) (z03 [0,0,0,0,0,0,0,0,0,0,0] fun q hq=>⟨by simp;omega,hq⟩)
  ·refine z07 (by simpa using h0) (z7d 0 rfl (z03 [0,0,0,0,0,0,0,0,0,0,0] fun q hq=>⟨?_,hq⟩));rw[h4'];rw[Bool.eq_iff_iff];simp;omega
 ·subst hc;dsimp only[sel,rem,nth,del,cat,upd,z2f];by_cases hi:0≤i∧i<V.n.m.ino.length
  ·rw[if_pos hi];refine z05 (by simp;omega) (z7d 0 rfl ?_);obtain⟨k,rfl⟩:∃k:Nat,i=k:=⟨i.toNat,by omega⟩;rw[Int.toNat_natCast];have hk:k<V.n.m.ino.length:=by omega
   have hn:z4k V.n.m.ino k=V.n.m.ino[k]:=by simp[z4k,hk]
   rw[hn];refine z1s 4 rfl (z0k h4) (i:=k) (o:=0) (by omega) (by omega) (v:=(V.n.m.ino[k].k:Nat)) (by rw[z2u z0h hk (by omega)];rfl) ?_;by_cases hz:V.n.m.ino[k].k=0
   ·exact z07 (by simp[hz]) (z03 [0,0,0,0,0,0,0,0,0,0,0] fun q hq=>⟨by rw[if_pos hz],z1o hy hd hq⟩)
   ·exact z05 (by simp;omega) (z03 [0,0,0,0,0,0,0,0,0,0,0] fun q hq=>⟨by rw[if_neg hz],z1o hy hd hq⟩)
  ·rw[if_neg hi];exact z07 (by simp;omega) (z03 [0,0,0,0,0,0,0,0,0,0,0] fun q hq=>⟨rfl,z1o hy hd hq⟩)
theorem z8a{m:MetaS}{i:Int}(h:m.hasE i=0):∃(k:Nat)(hk:k<m.ino.length),i=k∧m.ino[k].k≠0:=by
 unfold MetaS.hasE at h;split at h
 ·rename_i hi;have hk:i.toNat<m.ino.length:=by omega
  refine⟨i.toNat,hk,by omega,?_⟩;have hn:z4k m.ino i.toNat=m.ino[i.toNat]:=by simp[z4k,hk]
  rw[hn]at h;intro c;rw[if_pos c]at h;cases h
 ·cases h
theorem zus(hg:g.ok)(ok:MetaOk g V.n.m){kind a:Nat}(hk:kind<256)(ha:a<65536)(hN:5000<N):Tri (z00 [z1f v d g V]) (F_34 N (some ⟨v,0⟩) (kind:Int) (a:Int)) fun r=>pu (r=(V.n.m.make kind a).1) (z00 [z1f v d g (V.wM (V.n.m.make kind a).2)]):=by
 have hil:=ok.inol;have hI:=hg.i2;unfold F_34 MetaS.make;refine z05 (by simp) ?_;by_cases hkind:kind=1∨kind=2
 case neg=>
  rw[if_neg hkind];exact z07 (by simp;omega) (z03 [0] fun q hq=>⟨rfl,hq⟩)
 rw[if_pos hkind];refine z05 (by simp;omega) ?_;refine z2m 0 rfl fun y hy hd=>?_;dsimp only[sel,rem,nth,del,cat,upd,z2f];refine z7d 0 rfl ?_;refine z0c 1 rfl fun h1=>z0c 4 rfl fun h4=>?_;have h4':y.x.ino.len=V.n.m.ino.length:=by rw[z0p z0h]at h4;omega
 have find:Tri (z00 [z08 y.x.ino 14 (z2b V.n.m.ino)]) (F_33 N y.x.ino ()) fun r=>pu (r=fi z4f V.n.m.ino) (z00 [z08 y.x.ino 14 (z2b V.n.m.ino)]):=by
  unfold F_33;refine zcs (A:=z00 [z08 y.x.ino 14 (z2b V.n.m.ino)]) z4f V.n.m.ino (by omega) (fun rec i hi Q k=>?_) fun rec Q k=>?_
  ·unfold F_57;refine z07 (by simp[h4'];omega) ?_;refine z8n 0 rfl (z0k h4) hi ?_;unfold F_42;rw[zfo,z0i (by omega) (by omega)];have:(decide ((V.n.m.ino[i].k:Int)=0))=z4f V.n.m.ino[i]:=by
    unfold z4f;congr 1;apply propext;omega
   show Tri _ (bd (ret (decide ((V.n.m.ino[i].k:Int)=0))) _) _;rw[this];exact z0s k
  ·unfold F_57;exact z05 (by simp[h4']) k
 refine z02 [4] find fun r9=>z04 fun h9=>z01 ?_;subst h9;dsimp only[sel,rem,nth,del,cat,upd];cases hx:V.n.m.ino.findIdx? z4f with
 | none=>
  rw[ze7 hx];exact z07 (by simp) (z03 [1,1,1,1,0,0,0,0,0,0,0] fun q hq=>⟨rfl,z1o hy hd hq⟩)
 | some i=>
  rw[ze8 hx];dsimp only;have hi:=(List.findIdx?_eq_some_iff_getElem.1 hx).1;refine z05 (by simp) (zbl 1 rfl ?_);refine z02 [2] (zin ha ok.rows (z0k h1) (by omega)) fun r15=>z04 fun h15=>z01 ?_;dsimp only[sel,rem,nth,del,cat,upd];by_cases hE:z3a V.n.m.rows a=0
  ·rw[if_pos hE,if_pos hE];obtain⟨e22,e21⟩:=h15;obtain⟨e21,hI2⟩:=e21 hE;refine z05 (by simp[e22,hE]) (z7d 3 rfl (zgy 3 rfl ?_));rw[e21,wr8 (by omega) (by omega)];have e3:([MV.int .u8 (kind:Int),MV.int .u8 ((retI V.n.m.rows a:Nat):Int)]++z0q 12 [MV.int .i64 (0:Int)])=z0u (zd9 kind (retI V.n.m.rows a)):=rfl;rw[e3];dsimp only[sel,rem,nth,del,cat,upd];refine zaw 2 rfl hi ?_;dsimp only[sel,rem,nth,del,cat,upd];refine z03 [3,0,2,2,1,1,1,1,1,1,1] fun q hq=>⟨rfl,?_⟩;exact z1o (V:=V.wM _) (y:={y with x:={y.x with rows:=r15.1}}) (hy.wM _ _ rfl) hd hq
  ·rw[if_neg hE,if_neg hE];exact z07 (by simp[h15.1,hE]) (z03 [3,1,2,2,1,1,1,1,1,1,1] fun q hq=>⟨by rw[h15.1],z1o hy hd hq⟩)
theorem zqp(hg:g.ok)(ok:MetaOk g V.n.m)(rf:RefOk V.n.m)(i:Int)(hN:5000<N):Tri (z00 [z1f v d g V]) (F_36 N (some ⟨v,0⟩) i) fun r=>pu (r=V.n.m.hasE i) (z00 [z1f v d g (if V.n.m.hasE i=0 then V.wM (V.n.m.unmake i.toNat)else V)]):=by
 have hil:=ok.inol;have hI:=hg.i2;unfold F_36;refine z02 [0] (zn8 ok hg i) fun r=>z04 fun h=>z01 ?_;subst h;dsimp only[sel,rem,nth,del,cat,upd];by_cases hE:V.n.m.hasE i=0
 case neg=>exact z07 (by simpa using hE) (z03 [0] fun q hq=>⟨rfl,by rw[if_neg hE];exact hq⟩)
 rw[if_pos hE];refine z05 (by simpa using hE) ?_;rw[hE];obtain⟨k,hk,rfl,hkk⟩:=z8a hE;rw[Int.toNat_natCast];have hn:z4k V.n.m.ino k=V.n.m.ino[k]:=by simp[z4k,hk]
 have hm:=List.getElem_mem hk;have hr:=(ok.inok _ hm).r;refine z2m 0 rfl fun y hy hd=>?_;dsimp only[sel,rem,nth,del,cat,upd,z2f];refine z7d 0 rfl ?_;refine z0c 4 rfl fun h4=>?_;have h4':y.x.ino.len=V.n.m.ino.length:=by rw[z0p z0h]at h4;omega
 refine z1s 4 rfl (z0k h4) (i:=k) (o:=1) (by omega) (by omega) (v:=(V.n.m.ino[k].r:Nat)) (by rw[z2u z0h hk (by omega)];rfl) ?_;rw[z0i (by omega) (by omega)];refine zje (V:=V) ?_ hy hd;refine z02 [0] (zn7 ok.rows hr (rf.ino _ hm hkk) (by omega)) fun _=>z01 ?_;dsimp only[sel,rem,nth,del,cat,upd];refine z2m 0 rfl fun y hy hd=>?_;dsimp only[sel,rem,nth,del,cat,upd,z2f];refine z7d 0 rfl ?_;rw[z89];refine zaw 4 rfl hk ?_;refine z03 [0,0,0,0,0,0,0,0,0,0,0] fun q hq=>⟨rfl,?_⟩;have e:V.wM (V.n.m.unmake k)=(V.wRows (z7f V.n.m.rows V.n.m.ino[k].r)).wIno (V.n.m.ino.set k Ino.z):=by
  unfold MetaS.unmake;rw[hn];rfl
 rw[e];exact z1o (V:=VolS.wIno _ _) (y:=y) (hy.wM _ y.x rfl) hd hq
def MetaS.inodeN(m:MetaS)(i:Int):Ino:=if m.hasE i=0 then z4k m.ino i.toNat else Ino.z
def MetaS.inodeL(m:MetaS)(i:Int):Nat:=if m.hasE i=0 then(rowN m.rows (z4k m.ino i.toNat).r).1 else 0
def MetaS.set(m:MetaS)(i:Nat)(n:Ino):MetaS:={m with ino:=m.ino.set i n}
theorem zxz(hg:g.ok)(ok:MetaOk g V.n.m)(i:Int)(n:Ino)(hN:5000<N):Tri (z00 [z1f v d g V]) (F_39 N (some ⟨v,0⟩) i (z0u n)) fun r=>pu (r=V.n.m.setE i n) (z00 [z1f v d g (if V.n.m.setE i n=0 then V.wM (V.n.m.set i.toNat n)else V)]):=by
 have hil:=ok.inol;have hI:=hg.i2;have e14:0+14≤(z0u n).length:=by rw[z0h];omega
 have t14:((z0u n).drop 0).take 14=z0u n:=by rw[List.drop_zero,List.take_of_length_le (by rw[z0h];omega)]
 unfold F_39;refine z02 [0] (zn8 ok hg i) fun r=>z04 fun h=>z01 ?_;subst h;dsimp only[sel,rem,nth,del,cat,upd];unfold MetaS.setE;by_cases h1:V.n.m.hasE i=1
 ·rw[if_pos h1,if_neg (show ¬((1:Int)=0) by decide)];exact z07 (by simp[h1]) (z03 [0] fun q hq=>⟨h1,hq⟩)
 rw[if_neg h1];refine z05 (by simp[h1]) ?_;rw[if_pos e14,t14];refine z0s ?_;rw[zb9 (by omega)];refine z0s ?_;refine z02 [0] (Q:=fun c=>pu (c=decide (n.ok=false∨n.k=0)) (z00 [z1f v d g V])) ?_ fun c=>z04 fun hc=>z01 ?_
 ·cases hok:n.ok
  ·exact z05 (by simp) (z03 [0] fun q hq=>⟨by simp,hq⟩)
  ·refine z07 rfl ?_;rw[zfo];show Tri _ (ret (decide ((n.k:Int)=0))) _;refine z03 [0] fun q hq=>⟨?_,hq⟩;rw[Bool.eq_iff_iff];simp
 subst hc;dsimp only[sel,rem,nth,del,cat,upd];by_cases h2:n.ok=false∨n.k=0
 ·rw[if_pos h2,if_neg (show ¬((1:Int)=0) by decide)];exact z07 (by simpa using h2) (z03 [0] fun q hq=>⟨rfl,hq⟩)
 rw[if_neg h2];refine z05 (by simpa using h2) ?_;by_cases h3:V.n.m.hasE i=0
 case neg=>
  have h32:V.n.m.hasE i=2:=by
   unfold MetaS.hasE at h1 h3 ⊢;split
   ·split
    ·rfl
    ·rename_i ha hb;rw[if_pos ha,if_neg hb]at h3;exact absurd rfl h3
   ·rename_i ha;rw[if_neg ha]at h1;exact absurd rfl h1
  rw[if_pos (show V.n.m.hasE i≠0 from h3),if_neg (show ¬((2:Int)=0) by decide)];exact z07 (by simpa using h3) (z03 [0] fun q hq=>⟨h32,hq⟩)
 rw[if_neg (show ¬V.n.m.hasE i≠0 by omega)];refine z05 (by simpa using h3) ?_;obtain⟨k,hk,rfl,hkk⟩:=z8a h3;rw[Int.toNat_natCast];have hn:z4k V.n.m.ino k=V.n.m.ino[k]:=by simp[z4k,hk]
 rw[hn];refine z2m 0 rfl fun y hy hd=>?_;dsimp only[sel,rem,nth,del,cat,upd,z2f];refine z0c 4 rfl fun h4=>?_;have h4':y.x.ino.len=V.n.m.ino.length:=by rw[z0p z0h]at h4;omega
 rw[zfo,zo1];refine z15 (z1t ?_);refine z7d 0 rfl ?_;refine z1s 4 rfl (z0k h4) (i:=k) (o:=0) (by omega) (by omega) (v:=(V.n.m.ino[k].k:Nat)) (by rw[z2u z0h hk (by omega)];rfl) ?_;refine z02 [0,0,0,0,0,0,0,0,0,0,0] (Q:=fun c=>pu (c=decide (n.k≠V.n.m.ino[k].k∨n.r≠V.n.m.ino[k].r)) (z00 (z2f v d g V y))) ?_ fun c=>z04 fun hc=>z01 ?_
 ·by_cases hkq:n.k=V.n.m.ino[k].k
  ·refine z07 (by simp[hkq]) ?_;refine z15 (z1t ?_);refine z7d 0 rfl ?_;refine z1s 4 rfl (z0k h4) (i:=k) (o:=1) (by omega) (by omega) (v:=(V.n.m.ino[k].r:Nat)) (by rw[z2u z0h hk (by omega)];rfl) ?_;refine z03 [0,0,0,0,0,0,0,0,0,0,0] fun q hq=>⟨?_,hq⟩;rw[Bool.eq_iff_iff];simp[hkq];omega
  ·refine z05 (by simp;omega) (z03 [0,0,0,0,0,0,0,0,0,0,0] fun q hq=>⟨by simp[hkq],hq⟩)
 subst hc;dsimp only[sel,rem,nth,del,cat,upd,z2f];by_cases h5:n.k≠V.n.m.ino[k].k∨n.r≠V.n.m.ino[k].r
 ·rw[if_pos h5,if_neg (show ¬((1:Int)=0) by decide)];exact z07 (by simpa using h5) (z03 [0,0,0,0,0,0,0,0,0,0,0] fun q hq=>⟨rfl,z1o hy hd hq⟩)
 rw[if_neg h5,if_pos (show((0:Int)=0)from rfl)];refine z05 (by simpa using h5) (z7d 0 rfl ?_);refine z0s (zaw 4 rfl hk ?_);refine z03 [0,0,0,0,0,0,0,0,0,0,0] fun q hq=>⟨rfl,?_⟩;exact z1o (V:=V.wIno _) (y:=y) (hy.wM _ y.x rfl) hd hq
end
end Go.Moat
