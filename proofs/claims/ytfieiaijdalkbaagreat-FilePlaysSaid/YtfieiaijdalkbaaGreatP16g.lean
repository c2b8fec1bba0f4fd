/- Layer 15: what a volume is, in memory. -/
import Derived.Test.YtfieiaijdalkbaaGreatP16d
namespace Go.Mini
def RO{α:Type}(m:M α):Prop:=∀h a h',m h=some (a,h')→h'=h
theorem z5m{α:Type}(a:α):RO (ret a):=fun h b h' e=>by cases e;rfl
theorem zfr{α:Type}:RO (z0h:M α):=fun h b h' e=>by cases e
theorem z6b{α γ:Type}{m:M α}{f:α→M γ}(hm:RO m)(hf:∀a,RO (f a)):RO (bd m f):=by
 intro h b h' e;unfold bd at e;cases hx:m h with
 | none=>rw[hx]at e;cases e
 | some r=>
  obtain⟨a,h1⟩:=r;rw[hx]at e;have:=hm h a h1 hx
  subst this;exact hf a _ b h' e
theorem zti(p:Option MA):RO (ldc p):=by
 intro h a h' e;unfold ldc at e;repeat (split at e<;>first | (cases e;done) | skip)
 cases e;rfl
theorem zil{α:Type}(o:Option α):RO (z0p o):=by
 intro h a h' e;unfold z0p at e;split at e<;>cases e;rfl
theorem zep(p:Option MA):RO (nonNil p):=by cases p<;>first | exact zfr | exact z5m _
theorem zim(p:Option MA)(n:Nat):RO (fld p n):=by cases p<;>first | exact zfr | exact z5m _
theorem z1a4(e:Nat)(s:Sl)(i:Int):RO (idx e s i):=by
 unfold idx;split
 ·split
  ·exact z5m _
  ·exact zfr
 ·exact zfr
theorem z11g(k:IntKind)(p:Option MA):RO (ldI k p):=z6b (zti p) fun _=>zil _
theorem z1a5(p:Option MA):RO (ldM p):=z6b (zti p) fun _=>zil _
theorem z11h(e:Nat)(p:Option MA):RO (ldL e p):=z6b (zti p) fun _=>zil _
theorem z11i(r:Option Nat):RO (z8e r):=by
 intro h a h' e;unfold z8e at e;split at e
 ·cases e;rfl
 ·split at e<;>cases e;rfl
theorem z11j(r:Option Nat):RO (mapLen r):=z6b (z11i r) fun _=>z5m _
theorem zau{α:Type}{m:M α}(k:RO m):frz m=m:=by
 funext h;unfold frz;cases hx:m h with
 | none=>rfl
 | some r=>
  obtain⟨a,h'⟩:=r;have:=k h a h' hx
  subst this;dsimp only;rw[(zgm _ _).2 (z4g.refl _)];rfl
theorem z154{α:Type}{f:Nat→M α}(k:∀b,RO (f b)):RO (bd (z4y 0) f):=fun h a h' e=>k h.size h a h' e
section
variable{α:Type}
def z43:List (Int×α)→Int→Option α
 | [],_=>none
 | e::r,k=>if k=e.1 then some e.2 else z43 r k
def z6r:List (Int×α)→Int→α→List (Int×α)
 | [],k,v=>[(k,v)]
 | e::r,k,v=>if k=e.1 then(k,v)::r else e::z6r r k v
theorem zl9(f:Int→α→MV):∀(L:List (Int×α))(k:Int),z6t (L.map fun e=>(e.1,f e.1 e.2)) k=(z43 L k).map (f k)
 | [],_=>rfl
 | e::r,k=>by
  simp only[List.map_cons,z6t,z43];split
  ·rename_i h;rw[h];rfl
  ·exact zl9 f r k
theorem ztj(f:Int→α→MV)(v:α):∀(L:List (Int×α))(k:Int),z6u (L.map fun e=>(e.1,f e.1 e.2)) k (f k v)=(z6r L k v).map fun e=>(e.1,f e.1 e.2)
 | [],_=>rfl
 | e::r,k=>by
  simp only[List.map_cons,z6u,z6r];split
  ·rfl
  ·rw[ztj f v r k];rfl
theorem ztk{γ:Type}(f:α→γ)(v:α):∀(L:List (Int×α))(k:Int),(z6r L k v).map (fun e=>(e.1,f e.2))=z6r (L.map fun e=>(e.1,f e.2)) k (f v)
 | [],_=>rfl
 | e::r,k=>by
  simp only[List.map_cons,z6r];split
  ·rfl
  ·rw[List.map_cons,ztk f v r k]
theorem zla{γ:Type}(f:α→γ):∀(L:List (Int×α))(k:Int),z43 (L.map fun e=>(e.1,f e.2)) k=(z43 L k).map f
 | [],_=>rfl
 | e::r,k=>by
  simp only[List.map_cons,z43];split
  ·rfl
  ·exact zla f r k
theorem ztl{v:α}:∀{L:List (Int×α)}{k:Int}{e:Int×α},e∈z6r L k v→e=(k,v)∨e∈L
 | [],k,e,h=>by simpa[z6r]using h
 | x::r,k,e,h=>by
  unfold z6r at h;split at h
  ·rcases List.mem_cons.1 h with h | h
   ·exact .inl h
   ·exact .inr (List.mem_cons_of_mem _ h)
  ·rcases List.mem_cons.1 h with h | h
   ·exact .inr (by rw[h];simp)
   ·rcases ztl h with h | h
    ·exact .inl h
    ·exact .inr (List.mem_cons_of_mem _ h)
theorem zlb(v:α):∀(L:List (Int×α))(k k':Int),z43 (z6r L k v) k'=if k'=k then some v else z43 L k'
 | [],k,k'=>by simp[z6r,z43]
 | e::r,k,k'=>by
  have ih:=zlb v r k k';unfold z6r;by_cases h:k=e.1
  ·rw[if_pos h];simp only[z43,←h];split<;>rfl
  ·rw[if_neg h];simp only[z43,ih];by_cases h2:k'=e.1
   ·rw[if_pos h2,if_pos h2,if_neg (fun c:k'=k=>h (c.symm.trans h2))]
   ·rw[if_neg h2,if_neg h2]
theorem ze0{L:List (Int×α)}{k:Int}{v:α}(h:z43 L k=some v):(k,v)∈L:=by
 induction L with
 | nil=>cases h
 | cons e r ih=>
  unfold z43 at h;split at h
  ·rename_i hk;cases h;rw[hk];exact List.mem_cons_self
  ·exact List.mem_cons_of_mem _ (ih h)
end
end Go.Mini
namespace Go.Moat
open Go.Mini
theorem ztm{N:Nat}(d:Option MA):RO (F_02 N d):=by
 unfold F_02;split
 ·exact z5m _
 ·exact z6b (zep _) fun _=>z6b (zim _ _) fun _=>z6b (z11h _ _) fun _=>z5m _
def z1v(P:List (Sl×List UInt8)):HA:=z00 (P.map fun x=>z06 x.1 1 (bytesOf x.2))
theorem zq0{P:List (Sl×List UInt8)}{s:Sl}{bs:List UInt8}{q:PH}{l:List HA}(h:z00 (z06 s 1 (bytesOf bs)::z1v P::l) q):z00 (z1v ((s,bs)::P)::l) q:=by
 have:z00 (z1v ((s,bs)::P)::l)=z00 (z06 s 1 (bytesOf bs)::z1v P::l):=by
  show z18 (z18 _ _) _=z18 _ (z18 _ _);rw[z4h];rfl
 rw[this];exact h
theorem zbk{P:List (Sl×List UInt8)}{s:Sl}{bs:List UInt8}(h:(s,bs)∈P)(hl:s.len=bs.length):RdC (z1v P) s 1 (bytesOf bs):=by
 induction P with
 | nil=>cases h
 | cons x r ih=>
  have e:z1v (x::r)=z18 (z06 x.1 1 (bytesOf x.2)) (z1v r):=rfl;rw[e];rcases List.mem_cons.1 h with h | h
  ·subst h;exact(z0k (by rw[z0d];dsimp only;omega)).star_l
  ·exact(ih h).star_r
structure DV where
 s:Sl
 b:List UInt8
 t:Nat
def DV.f(x:DV):List UInt8×Nat:=(x.b,x.t)
def dvC(g:Geo)(k:Int)(x:DV):MV :=.agg [.int .i64 (g.blk+k),.sl x.s.p x.s.len 1,.int .u16 x.t]
def dkv(g:Geo)(L:List (Int×DV)):List (Int×MV):=L.map fun e=>(e.1,dvC g e.1 e.2)
structure NowS where
 m:MetaS
 dirty:List (Int×(List UInt8×Nat))
structure VolS where
 n:NowS
 disk:DskS
 seq:Nat
 safe:List (List UInt8)
 before:Option NowS
 dead:Bool
structure VC where
 rows:Sl
 own:Sl
 used:Sl
 ino:Sl
 mp:Nat
 d:Nat
 j:Nat
 safe:Sl
 bp:Option MA
 dead:Bool
def z39(g:Geo)(x:VC):List MV:=[.sl x.rows.p x.rows.len 2,.sl x.own.p x.own.len 1,.sl x.used.p x.used.len 1,.sl x.ino.p x.ino.len 14,.map (some x.mp),.ptr (some ⟨x.d,0⟩),
 .int .i64 g.J,.int .i64 g.I,.int .i64 g.G,.int .i64 g.P,.int .i64 1,.int .i64 g.lab,.int .i64 (2+g.J:Nat),.int .i64 (3+g.J:Nat),.int .i64 (4+g.J:Nat),.int .i64 g.blk,.int .i64 g.all,
 .ptr (some ⟨x.j,0⟩),.sl x.safe.p x.safe.len 1,.ptr x.bp,.bool x.dead]
structure DOk(P:List (Sl×List UInt8))(L:List (Int×DV)):Prop where
 mem:∀e∈L,(e.2.s,e.2.b)∈P
 len:∀e∈L,e.2.s.len=64∧e.2.b.length=64
 tag:∀e∈L,e.2.t<65536
def forget(L:List (Int×DV)):List (Int×(List UInt8×Nat)):=L.map fun e=>(e.1,e.2.f)
structure NC where
 rows:Sl
 own:Sl
 used:Sl
 ino:Sl
 mp:Nat
def nowC(x:NC):List MV:=[.sl x.rows.p x.rows.len 2,.sl x.own.p x.own.len 1,.sl x.used.p x.used.len 1,.sl x.ino.p x.ino.len 14,.map (some x.mp)]
def zgu(g:Geo)(x:NC)(n:NowS)(L:List (Int×DV)):List HA:=[z06 x.rows 2 (z1t n.m.rows),z06 x.own 1 (z1c n.m.own),z06 x.used 1 (bytesOf n.m.used),z06 x.ino 14 (z2m n.m.ino),z65 .i64 x.mp (dkv g L)]
def zin(g:Geo)(P:List (Sl×List UInt8)):Option MA→Option NowS→HA
 | none,none=>emp
 | some a,some n=>exA fun x:NC×List (Int×DV)=>pu (a.off=0∧forget x.2=n.dirty∧DOk P x.2) (z00 (pts a.blk (.cells (nowC x.1) false)::zgu g x.1 n x.2))
 | _,_=>fun _=>False
theorem DOk.mono{P:List (Sl×List UInt8)}{L:List (Int×DV)}(h:DOk P L)(x:Sl×List UInt8):DOk (x::P) L:=⟨fun e he=>List.mem_cons_of_mem _ (h.mem e he),h.len,h.tag⟩
theorem zin.mono{g:Geo}{P:List (Sl×List UInt8)}{bp:Option MA}{b:Option NowS}(x:Sl×List UInt8):∀q,zin g P bp b q→zin g (x::P) bp b q:=by
 intro q h;cases bp<;>cases b<;>first | exact h | skip
 obtain⟨y,⟨h1,h2,h3⟩,h4⟩:=h;exact⟨y,⟨h1,h2,h3.mono x⟩,h4⟩
def z3d(d:Nat)(g:Geo)(seq:Nat):List MV:=[.ptr (some ⟨d,0⟩),.int .i64 1,.int .i64 g.J,.int .u64 seq]
structure VH where
 x:VC
 L:List (Int×DV)
 P:List (Sl×List UInt8)
 sf:List (Sl×List UInt8)
structure VHok(V:VolS)(y:VH):Prop where
 dirty:forget y.L=V.n.dirty
 dok:DOk y.P y.L
 safe:y.sf.map (·.2)=V.safe
 smem:∀e∈y.sf,e∈y.P∧e.1.len=64∧e.2.length=64
 dead:y.x.dead=V.dead
def z2c(v d:Nat)(g:Geo)(V:VolS)(y:VH):List HA:=[pts v (.cells (z39 g y.x) false),z06 y.x.rows 2 (z1t V.n.m.rows),z06 y.x.own 1 (z1c V.n.m.own),z06 y.x.used 1 (bytesOf V.n.m.used),z06 y.x.ino 14 (z2m V.n.m.ino),z65 .i64 y.x.mp (dkv g y.L),
 z1v y.P,z1e d V.disk,pts y.x.j (.cells (z3d d g V.seq) false),z06 y.x.safe 1 (z3u y.sf),zin g y.P y.x.bp V.before]
def z0l(v d:Nat)(g:Geo)(V:VolS):HA:=exA fun y:VH=>pu (VHok V y∧y.x.d=d) (z00 (z2c v d g V y))
section
variable{N:Nat}{β:Type}{l:List HA}{S:β→HA}{v d:Nat}{g:Geo}{V:VolS}{m:M β}
theorem tri_vol(n:Nat)(hl:l[n]? = some (z0l v d g V))(k:∀y,VHok V y→y.x.d=d→Tri (z00 (cat (z2c v d g V y) (del l n))) m S):Tri (z00 l) m S:=
 zh0 (γ:=VH) (φ:=fun y=>VHok V y∧y.x.d=d) (L:=fun y=>z2c v d g V y) n hl (fun _ ⟨x,h1,h2⟩=>⟨x,h1,h2⟩) fun x h=>k x h.1 h.2
theorem z1r{y:VH}{q:PH}(hy:VHok V y)(hd:y.x.d=d)(h:z00 (z2c v d g V y) q):z00 [z0l v d g V] q:=by
 rw[stars_one];exact⟨y,⟨hy,hd⟩,h⟩
theorem vol_fold'{y:VH}{q:PH}{l:List HA}(hy:VHok V y)(hd:y.x.d=d)(h:z00 (cat (z2c v d g V y) l) q):z00 (z0l v d g V::l) q:=
 zgz (z2c v d g V y) (fun q h=>⟨y,⟨hy,hd⟩,h⟩) h
theorem za8(n:Nat){x:VC}(hl:l[n]? = some (pts v (.cells (z39 g x) false))){f:Sl→M β}(kk:Tri (z00 l) (f x.rows) S):Tri (z00 l) (bd (nonNil (some ⟨v,0⟩)) fun q=>bd (fld q 0) fun q=>bd (fld q 0) fun q=>bd (fld q 0) fun q=>bd (ldL 2 q) f) S:=
 z0r (z0b (z0b (z0b (z78 n hl rfl kk))))
theorem zbl(n:Nat){x:VC}(hl:l[n]? = some (pts v (.cells (z39 g x) false))){f:Sl→M β}(kk:Tri (z00 l) (f x.own) S):Tri (z00 l) (bd (nonNil (some ⟨v,0⟩)) fun q=>bd (fld q 0) fun q=>bd (fld q 0) fun q=>bd (fld q 1) fun q=>bd (ldL 1 q) f) S:=
 z0r (z0b (z0b (z0b (z78 n hl rfl kk))))
theorem zcr(n:Nat){x:VC}(hl:l[n]? = some (pts v (.cells (z39 g x) false))){f:Sl→M β}(kk:Tri (z00 l) (f x.used) S):Tri (z00 l) (bd (nonNil (some ⟨v,0⟩)) fun q=>bd (fld q 0) fun q=>bd (fld q 0) fun q=>bd (fld q 2) fun q=>bd (ldL 1 q) f) S:=
 z0r (z0b (z0b (z0b (z78 n hl rfl kk))))
theorem z8j(n:Nat){x:VC}(hl:l[n]? = some (pts v (.cells (z39 g x) false))){f:Sl→M β}(kk:Tri (z00 l) (f x.ino) S):Tri (z00 l) (bd (nonNil (some ⟨v,0⟩)) fun q=>bd (fld q 0) fun q=>bd (fld q 0) fun q=>bd (fld q 3) fun q=>bd (ldL 14 q) f) S:=
 z0r (z0b (z0b (z0b (z78 n hl rfl kk))))
theorem zlc(n:Nat){x:VC}(hl:l[n]? = some (pts v (.cells (z39 g x) false))){f:Option Nat→M β}(kk:Tri (z00 l) (f (some x.mp)) S):Tri (z00 l) (bd (nonNil (some ⟨v,0⟩)) fun q=>bd (fld q 0) fun q=>bd (fld q 4) fun q=>bd (ldM q) f) S:=
 z0r (z0b (z0b (tri_read n hl (fun _ hg=>zn5 hg rfl) kk)))
theorem z1a6(n:Nat){x:VC}(hl:l[n]? = some (pts v (.cells (z39 g x) false))){f:Int→M β}(kk:Tri (z00 l) (f g.G) S):Tri (z00 l) (bd (nonNil (some ⟨v,0⟩)) fun q=>bd (fld q 6) fun q=>bd (fld q 2) fun q=>bd (ldI .i64 q) f) S:=
 z0r (z0b (z0b (tri_ldI n hl rfl kk)))
theorem z8k(n:Nat){x:VC}(hl:l[n]? = some (pts v (.cells (z39 g x) false))){f:Int→M β}(kk:Tri (z00 l) (f g.P) S):Tri (z00 l) (bd (nonNil (some ⟨v,0⟩)) fun q=>bd (fld q 6) fun q=>bd (fld q 3) fun q=>bd (ldI .i64 q) f) S:=
 z0r (z0b (z0b (tri_ldI n hl rfl kk)))
theorem ztn(n:Nat){x:VC}(hl:l[n]? = some (pts v (.cells (z39 g x) false))){f:Int→M β}(kk:Tri (z00 l) (f g.blk) S):Tri (z00 l) (bd (nonNil (some ⟨v,0⟩)) fun q=>bd (fld q 10) fun q=>bd (fld q 5) fun q=>bd (ldI .i64 q) f) S:=
 z0r (z0b (z0b (tri_ldI n hl rfl kk)))
theorem zio(n:Nat){x:VC}(hl:l[n]? = some (pts v (.cells (z39 g x) false))){s:Sl}{f:Unit→M β}(kk:Tri (z00 (upd l n (pts v (.cells (z39 g {x with rows:=s}) false)))) (f ()) S):Tri (z00 l) (bd (nonNil (some ⟨v,0⟩)) fun q=>bd (fld q 0) fun q=>bd (fld q 0) fun q=>bd (fld q 0) fun q=>bd (stc q (.sl s.p s.len 2)) f) S:=
 z0r (z0b (z0b (z0b (z21 n hl (by simp[z39]) rfl kk))))
theorem z11k(n:Nat){x:VC}(hl:l[n]? = some (pts v (.cells (z39 g x) false))){s:Sl}{f:Unit→M β}(kk:Tri (z00 (upd l n (pts v (.cells (z39 g {x with used:=s}) false)))) (f ()) S):Tri (z00 l) (bd (nonNil (some ⟨v,0⟩)) fun q=>bd (fld q 0) fun q=>bd (fld q 0) fun q=>bd (fld q 2) fun q=>bd (stc q (.sl s.p s.len 1)) f) S:=
 z0r (z0b (z0b (z0b (z21 n hl (by simp[z39]) rfl kk))))
def VolS.wM(V:VolS)(m:MetaS):VolS:={V with n:={V.n with m:=m}}
def VolS.wRows(V:VolS)(r:List Row):VolS:=V.wM {V.n.m with rows:=r}
def VolS.wOwn(V:VolS)(r:List Nat):VolS:=V.wM {V.n.m with own:=r}
def VolS.wUsed(V:VolS)(r:List UInt8):VolS:=V.wM {V.n.m with used:=r}
def VolS.wIno(V:VolS)(r:List Ino):VolS:=V.wM {V.n.m with ino:=r}
theorem VHok.wM{y:VH}(h:VHok V y)(mm:MetaS)(x:VC)(hx:x.dead=y.x.dead):VHok (V.wM mm) {y with x:=x}:=⟨h.1,h.2,h.3,h.4,hx.trans h.5⟩
theorem zip{i:Nat}(hu:V.n.m.used.length=64)(hi:i<512)(on:Bool):Tri (z00 [z0l v d g V]) (F_0x N (some ⟨v,0⟩) (i:Int) on) fun _=>z00 [z0l v d g (V.wUsed (z1x V.n.m.used i on))]:=by
 unfold F_0x;refine tri_vol 0 rfl fun y hy hd=>?_;dsimp only[sel,rem,nth,del,cat,upd,z2c];refine zcr 0 rfl ?_;refine z0c 3 rfl fun h3=>?_;refine z02 [3] (z127 (z0k h3) (by omega) (by omega) on) fun r=>z04 fun hr=>z01 ?_;dsimp only[sel,rem,nth,del,cat,upd];refine z11k 2 rfl ?_;dsimp only[sel,rem,nth,del,cat,upd] ;refine z03 [2,2,2,0,1,1,1,1,1,1,1] fun q hq=>?_;exact z1r (V:=V.wUsed _) (y:={y with x:={y.x with used:=r.1}}) (hy.wM _ _ rfl) hd hq
theorem zvl{k:Nat}(hu:V.n.m.used.length=64)(hg:g.ok)(hk:k<g.G)(hN:5000<N):Tri (z00 [z0l v d g V]) (F_0u N (some ⟨v,0⟩) (k:Int)) fun r=>pu (r=(z6g V.n.m.used (k * g.P) ((k+1) * g.P):Nat)) (z00 [z0l v d g V]):=by
 have hgp:=hg.gp;have hpp:=hg.pp;have hb:(k+1) * g.P≤g.G * g.P:=Nat.mul_le_mul_right _ hk;have hb2:k * g.P≤(k+1) * g.P:=Nat.mul_le_mul_right _ (by omega);unfold F_0u;refine tri_vol 0 rfl fun y hy hd=>?_;dsimp only[sel,rem,nth,del,cat,upd,z2c];refine zcr 0 rfl (z8k 0 rfl (z8k 0 rfl ?_));have e1:(k:Int) * (g.P:Int)=((k * g.P:Nat):Int):=by simp
 have e2:wr .i64 ((k:Int)+1)=((k+1:Nat):Int):=by rw[z09 (by have:=hg.g2;omega) (by have:=hg.g2;omega)];simp
 have e3:((k+1:Nat):Int) * (g.P:Int)=(((k+1) * g.P:Nat):Int):=by simp
 rw[e1,e2,e3,z09 (by omega) (by omega),z09 (by omega) (by omega)];refine z0c 3 rfl fun h3=>?_;refine z02 [3] (zh4 (z0k h3) (by omega) hb2 (by omega) hN) fun r=>z04 fun hr=>z01 ?_;dsimp only[sel,rem,nth,del,cat,upd];refine z03 [1,1,1,0,0,0,0,0,0,0,0] fun q hq=>⟨hr,z1r hy hd hq⟩
end
end Go.Moat

/- Layer 15: the volume's functions that leave the disk alone. -/
namespace Go.Moat
open Go.Mini
def MetaS.isAt(g:Geo)(m:MetaS)(row:Nat)(i:Nat):Bool:=decide (m.own[i / g.P]? = some (row+1)) && !z0y m.used i
def MetaS.atB(g:Geo)(m:MetaS)(a:Nat):Option Nat:=match m.rows.findIdx? (z3z a)with
 | some r=>(List.range' 0 g.B).find? (m.isAt g r)
 | none=>none
def z34(o:Nat):Bool:=decide (o=0)
def MetaS.alloc(g:Geo)(m:MetaS)(a:Nat):(Int×Int)×MetaS:=match m.atB g a with
 | some b=>(((b:Int),0),{m with used:=z1x m.used b true})
 | none=>match m.own.findIdx? z34 with
  | none=>((0,5),m)
  | some k=>if z3w m.rows a=0 then((((k * g.P:Nat):Int),0),{m with rows:=z99 m.rows a,own:=m.own.set k (z3x m.rows a+1),used:=z1x m.used (k * g.P) true})else((0,z3w m.rows a),m)
def MetaS.usedE(g:Geo)(m:MetaS)(b:Int):Int:=if 0≤b∧b<g.B then(if z0y m.used b.toNat then 0 else 2)else 1
def MetaS.ownT(g:Geo)(m:MetaS)(b:Nat):Nat:=match m.own[b / g.P]?.getD 0 with
 | 0=>0
 | o+1=>(z1a m.rows o).1
def MetaS.free(g:Geo)(m:MetaS)(b:Nat):MetaS:=
 if z6g (z1x m.used b false) (b / g.P * g.P) ((b / g.P+1) * g.P)=0 then {m with used:=z1x m.used b false,rows:=zbq m.rows (m.own[b / g.P]?.getD 0 - 1),own:=m.own.set (b / g.P) 0}else {m with used:=z1x m.used b false}
def zad(n:Ino):Bool:=decide (n.k=0)
def z95(k r:Nat):Ino:=⟨k,r,⟨List.replicate 12 0,by simp⟩⟩
def MetaS.make(m:MetaS)(kind a:Nat):(Int×Int)×MetaS:=
 if kind=1∨kind=2 then(match m.ino.findIdx? zad with
  | none=>((0,5),m)
  | some i=>if z3w m.rows a=0 then(((i:Int),0),{m with rows:=z99 m.rows a,ino:=m.ino.set i (z95 kind (z3x m.rows a))})else((0,z3w m.rows a),m))
 else((0,1),m)
def z15(l:List Ino)(i:Nat):Ino:=l[i]?.getD Ino.z
def MetaS.hasE(m:MetaS)(i:Int):Int:=if 0≤i∧i<m.ino.length then(if(z15 m.ino i.toNat).k=0 then 2 else 0)else 1
def MetaS.unmake(m:MetaS)(i:Nat):MetaS:={m with rows:=zbq m.rows (z15 m.ino i).r,ino:=m.ino.set i Ino.z}
def MetaS.setE(m:MetaS)(i:Int)(n:Ino):Int:=if m.hasE i=1 then 1 else if n.ok=false∨n.k=0 then 1 else if m.hasE i≠0 then 2 else if n.k≠(z15 m.ino i.toNat).k∨n.r≠(z15 m.ino i.toNat).r then 1 else 0
structure RefOk(m:MetaS):Prop where
 own:∀o∈m.own,0<o→0<(z1a m.rows (o - 1)).2
 ino:∀n∈m.ino,n.k≠0→0<(z1a m.rows n.r).2
section
variable{N:Nat}{β:Type}{l:List HA}{S:β→HA}{v d:Nat}{g:Geo}{V:VolS}{m:M β}
theorem zkq(hg:g.ok)(i:Int):Tri (z00 [z0l v d g V]) (F_1r N (some ⟨v,0⟩) i) fun r=>pu (r=decide (0≤i∧i<g.B)) (z00 [z0l v d g V]):=by
 have hgp:=hg.gp;unfold F_1r;refine z02 [0] (Q:=fun r=>pu (r=decide (0≤i∧i<g.B)) (z00 [z0l v d g V])) ?_ fun r=>z04 fun h=>z01 (z03 [0] fun q hq=>⟨h,hq⟩);by_cases h:0≤i
 ·refine z07 (by simpa using h) ?_;refine tri_vol 0 rfl fun y hy hd=>?_;dsimp only[sel,rem,nth,del,cat,upd,z2c];refine z1a6 0 rfl (z8k 0 rfl ?_);have e1:(g.G:Int) * (g.P:Int)=((g.G * g.P:Nat):Int):=by simp
  rw[e1,z09 (by omega) (by omega)];refine z03 [0,0,0,0,0,0,0,0,0,0,0] fun q hq=>⟨?_,z1r hy hd hq⟩;simp[h,Geo.B]
 ·refine z05 (by simpa using h) (z03 [0] fun q hq=>⟨by simp[h],hq⟩)
theorem znh(hg:g.ok)(hu:V.n.m.used.length=64)(i:Int):Tri (z00 [z0l v d g V]) (F_1t N (some ⟨v,0⟩) i) fun r=>pu (r=V.n.m.usedE g i) (z00 [z0l v d g V]):=by
 unfold F_1t;refine z05 (by simp) ?_;refine z02 [0] (zkq hg i) fun r=>z04 fun h=>z01 ?_;dsimp only[sel,rem,nth,del,cat,upd];unfold MetaS.usedE;by_cases hi:0≤i∧i<g.B
 ·rw[if_pos hi];refine z05 (by simp[h,hi]) ?_;refine tri_vol 0 rfl fun y hy hd=>?_;dsimp only[sel,rem,nth,del,cat,upd,z2c];refine zcr 0 rfl ?_;refine z0c 3 rfl fun h3=>?_;refine z02 [3] (zty (z0k h3) (by omega) i) fun r=>z04 fun hr=>z01 ?_;dsimp only[sel,rem,nth,del,cat,upd];have e:decide (0≤i)=true:=by simp[hi.1]
  rw[e,Bool.true_and]at hr;subst hr;cases hb:z0y V.n.m.used i.toNat
  ·refine z07 rfl (z03 [1,1,1,0,0,0,0,0,0,0,0] fun q hq=>⟨by simp,z1r hy hd hq⟩)
  ·refine z05 (by simp) (z03 [1,1,1,0,0,0,0,0,0,0,0] fun q hq=>⟨by simp,z1r hy hd hq⟩)
 ·rw[if_neg hi];refine z07 (by simp[h];omega) (z03 [0] fun q hq=>⟨rfl,hq⟩)
theorem z15m(v':Option MA)(b:Int):RO (F_0y N v' b):=by
 unfold F_0y;repeat' first
  | exact z5m _
  | exact zfr
  | exact zep _
  | exact zim _ _
  | exact z11h _ _
  | exact z11g _ _
  | exact z1a4 _ _ _
  | (refine z6b ?_ fun _=>?_)
  | split
theorem zyy{y:VH}{T:List HA}(hg:g.ok)(ok:MetaOk g V.n.m){b:Nat}(hb:b<g.B) :
  Tri (z00 [pts v (.cells (z39 g y.x) false),z06 y.x.rows 2 (z1t V.n.m.rows),z06 y.x.own 1 (z1c V.n.m.own)]) (F_0y N (some ⟨v,0⟩) (b:Int)) fun r=>pu (r=(V.n.m.ownT g b:Nat)) (z00 [pts v (.cells (z39 g y.x) false),z06 y.x.rows 2 (z1t V.n.m.rows),z06 y.x.own 1 (z1c V.n.m.own)]):=by
 have hp1:=hg.p1;have hgp:=hg.gp;have hk:b / g.P<g.G:=by
  rw[Nat.div_lt_iff_lt_mul (by omega)];exact hb
 have hkl:b / g.P<V.n.m.own.length:=by rw[ok.ownl];exact hk
 unfold F_0y;refine zbl 0 rfl (z8k 0 rfl ?_);rw[if_neg (by omega)];have e1:(b:Int).tdiv (g.P:Int)=((b / g.P:Nat):Int):=rfl;have hb5:b<512:=by unfold Geo.B at hb;omega
 have hb6:=Nat.div_le_self b g.P;rw[e1];unfold MetaS.ownT;generalize b / g.P=bq at hk hkl hb6;rw[z09 (by omega) (by omega)];refine z0c 2 rfl fun h2=>?_;refine z2a 2 rfl (z0k h2) (i:=bq) (k :=.i64) (v:=(V.n.m.own[bq]:Nat)) (by simp[z1w,hkl]) ?_;have ho:=ok.own16 _ (List.getElem_mem hkl);rw[List.getElem?_eq_getElem hkl];dsimp only[Option.getD_some];generalize V.n.m.own[bq]=o at ho;cases o with
 | zero=>exact z05 (by simp) (z03 [0,0,0] fun q hq=>⟨rfl,hq⟩)
 | succ o=>
  have hol:o<V.n.m.rows.length:=by rw[ok.rows.len];omega
  refine z07 (by simp) (za8 0 rfl ?_);have e2:wr .i64 (((o+1:Nat):Int) - 1)=(o:Int):=by rw[z09 (by omega) (by omega)];omega
  rw[e2];refine z0c 1 rfl fun h1=>?_;rw[z0u z2e]at h1;refine z7a 1 rfl (z0k (by rw[z0u z2e];omega)) (i:=o) (o:=0) (by omega) (by omega) (v:=(V.n.m.rows[o].1:Nat)) (by rw[z3l z2e hol (by omega)];rfl) ?_;refine z03 [0,0,0] fun q hq=>⟨?_,hq⟩;simp[z1a,hol]
def NowS.write(g:Geo)(n:NowS)(b:Nat)(bs:List UInt8):NowS:={n with dirty:=z6r n.dirty b (bs,n.m.ownT g b)}
def VolS.write(g:Geo)(V:VolS)(b:Nat)(bs:List UInt8):VolS:={V with n:=V.n.write g b bs}
theorem z18d(ok:MetaOk g V.n.m)(b:Nat):V.n.m.ownT g b<65536:=by
 unfold MetaS.ownT;split
 ·omega
 ·rename_i o _;unfold z1a;cases h:V.n.m.rows[o]? with
  | none=>simp
  | some r=>exact(ok.rows.rng _ (List.mem_of_getElem? h)).1
theorem zkr(hg:g.ok)(ok:MetaOk g V.n.m){b:Nat}(hb:b<g.B){s:Sl}{bs:List UInt8}(hs:s.len=64)(h64:bs.length=64) :
  Tri (z00 [z0l v d g V,z06 s 1 (bytesOf bs)]) (F_1u N (some ⟨v,0⟩) (b:Int) s) fun _=>z00 [z0l v d g (V.write g b bs)]:=by
 have hall:=hg.all_le;have:g.all=g.blk+g.B:=rfl
 unfold F_1u;refine tri_vol 0 rfl fun y hy hd=>?_;dsimp only[sel,rem,nth,del,cat,upd,z2c];refine zlc 0 rfl (ztn 0 rfl ?_);rw[zau (z15m _ _)];refine z02 [0,0,0] (zyy (T:=[]) hg ok hb) fun r=>z04 fun hr=>z01 ?_;dsimp only[sel,rem,nth,del,cat,upd];subst hr;have e1:(g.blk:Int)+(b:Int)=((g.blk+b:Nat):Int):=by simp
 rw[e1,z09 (by omega) (by omega)];refine zx3 5 rfl _ _ ?_;dsimp only[sel,rem,nth,del,cat,upd];refine z03 [0,0,0,0,0,0,5,0,0,0,0,0] fun q hq=>?_;let x:DV:=⟨s,bs,V.n.m.ownT g b⟩
 have e2:z6u (dkv g y.L) (b:Int) (.agg [.int .i64 ((g.blk+b:Nat):Int),.sl s.p s.len 1,.int .u16 (V.n.m.ownT g b:Nat)])=dkv g (z6r y.L b x):=by
  have:=ztj (fun k z=>dvC g k z) x y.L (b:Int)
  rw[dkv,dkv,←this];congr 1
 rw[e2]at hq;dsimp only[sel,rem,nth,del,cat,upd]at hq;have hmem:∀e∈z6r y.L (b:Int) x,e=((b:Int),x)∨e∈y.L:=fun e he=>ztl he;refine z1r (y:={y with L:=z6r y.L b x,P:=(s,bs)::y.P}) ⟨?_,⟨?_,?_,?_⟩,hy.safe,fun e he=>?_,hy.dead⟩ hd ?_
 ·show forget (z6r y.L b x)=z6r V.n.dirty b (bs,V.n.m.ownT g b);rw[←hy.dirty];exact ztk DV.f x y.L (b:Int)
 ·intro e he;rcases hmem e he with rfl | he
  ·exact List.mem_cons_self
  ·exact List.mem_cons_of_mem _ (hy.dok.mem e he)
 ·intro e he;rcases hmem e he with rfl | he
  ·exact⟨hs,h64⟩
  ·exact hy.dok.len e he
 ·intro e he;rcases hmem e he with rfl | he
  ·exact z18d ok b
  ·exact hy.dok.tag e he
 ·have:=hy.smem e he
  exact⟨List.mem_cons_of_mem _ this.1,this.2⟩
 ·refine z1g (fun q=>z1g (fun q=>z1g (fun q=>z1g (fun q=>z1g (fun q=>z1g (fun q hq=>zq0 ?_))))) ) hq;exact z1g (fun q=>z1g (fun q=>z1g (fun q=>z1g (fun q=>z1g (fun q=>z4k (zin.mono _)))))) hq
theorem z129(ok:RowsOk V.n.m.rows){i:Nat}(hi:i<16)(h0:0<(z1a V.n.m.rows i).2)(hN:100<N):Tri (z00 [z0l v d g V]) (F_33 N (some ⟨v,0⟩) (i:Int)) fun _=>z00 [z0l v d g (V.wRows (zbq V.n.m.rows i))]:=by
 unfold F_33;refine tri_vol 0 rfl fun y hy hd=>?_;dsimp only[sel,rem,nth,del,cat,upd,z2c];refine za8 0 rfl ?_;refine z0c 1 rfl fun h1=>?_;refine z02 [1] (zu0 ok (z0k h1) hi h0 hN) fun r=>z04 fun hr=>z01 ?_;dsimp only[sel,rem,nth,del,cat,upd];refine zio 2 rfl ?_;dsimp only[sel,rem,nth,del,cat,upd];refine z03 [2,0,1,1,1,1,1,1,1,1,1] fun q hq=>?_;exact z1r (V:=V.wRows _) (y:={y with x:={y.x with rows:=r.1}}) (hy.wM _ _ rfl) hd hq
theorem zea(n:Nat){s:Sl}{o:List Nat}(hl:l[n]? = some (z06 s 1 (z1c o))){k x:Nat}(hk:k<o.length){f:Unit→M β}(kk:Tri (z00 (upd l n (z06 s 1 (z1c (o.set k x))))) (f ()) S):Tri (z00 l) (bd (idx 1 s (k:Int)) fun q=>bd (stc q (.int .i64 x)) f) S:=by
 refine z93 n hl (fun h1 h2=>?_) fun b ln h1 h2=>?_
 ·have:=congrArg List.length h2
  rw[z1n,List.length_nil]at this;omega
 ·subst h1;rw[z1n]at h2;refine z2l (by omega) (z21 n (z60 l n _ hl) (by rw[z1n];omega) rfl ?_);rw[z79,Nat.zero_add,Nat.mul_one];have e:(z1c o).set k (.int .i64 x)=z1c (o.set k x):=by
   unfold z1c z1w;rw[List.map_set,List.map_set]
  rw[e];refine kk.pre fun q hq=>?_;have:=z5j n (l:=upd l n (pts b (.cells (z1c (o.set k x)) false))) (B:=z06 ⟨some ⟨b,0⟩,ln⟩ 1 (z1c (o.set k x))) (z60 l n _ hl) (fun q h =>.mk (by rw[z1n,List.length_set];exact h2) h) q hq
  rwa [z79]at this
theorem zu5(n:Nat){s:Sl}{o:List Ino}(hl:l[n]? = some (z06 s 14 (z2m o))){k:Nat}{x:Ino}(hk:k<o.length){f:Unit→M β}(kk:Tri (z00 (upd l n (z06 s 14 (z2m (o.set k x))))) (f ()) S):Tri (z00 l) (bd (idx 14 s (k:Int)) fun q=>bd (stn 14 q (z16 x)) f) S:=by
 have hb:k * 14+14≤o.length * 14:=z3s hk;refine z93 n hl (fun h1 h2=>?_) fun b ln h1 h2=>?_
 ·have:=congrArg List.length h2
  rw[z0u z0n,List.length_nil]at this;omega
 ·subst h1;rw[z0u z0n]at h2;refine z2l (by omega) (z50 n (z60 l n _ hl) (z0n x) (by rw[z0u z0n,z0n];omega) (z8l x) ?_);rw[z79,Nat.zero_add,zlg z0n hk];refine kk.pre fun q hq=>?_;have:=z5j n (l:=upd l n (pts b (.cells (z2m (o.set k x)) false))) (B:=z06 ⟨some ⟨b,0⟩,ln⟩ 14 (z2m (o.set k x))) (z60 l n _ hl) (fun q h =>.mk (by rw[z0u z0n,List.length_set];exact h2) h) q hq
  rwa [z79]at this
theorem zvp{T:HA}{s:Sl}{o:List Nat}(hr:RdC T s 1 (z1c o))(hl:o.length≤64)(hN:100<N):Tri (z00 [T]) (F_2v N s 0) fun r=>pu (r=fi z34 o) (z00 [T]):=by
 have hlen:s.len=o.length:=by
  have:=hr.1
  rw[z1n]at this;omega
 unfold F_2v;refine ze7 (A:=z00 [T]) z34 o (by omega) (fun rec i hi Q k=>?_) fun rec Q k=>?_
 ·unfold F_5e;refine z07 (by simp[hlen];omega) ?_;refine z2a 0 rfl hr (k :=.i64) (v:=(o[i]:Nat)) (by simp[z1w,hi]) ?_;rw[z09 (by omega) (by omega)];have:(decide ((0:Int)=((o[i]:Nat):Int)))=z34 o[i]:=by
   unfold z34;congr 1;apply propext;omega
  rw[this];exact k
 ·unfold F_5e;exact z05 (by simp[hlen]) k
theorem zvq(hg:g.ok)(ok:MetaOk g V.n.m){a:Nat}(ha:a<65536)(hN:5000<N):Tri (z00 [z0l v d g V]) (F_2w N (some ⟨v,0⟩) (a:Int)) fun r=>pu (r=(V.n.m.alloc g a).1) (z00 [z0l v d g (V.wM (V.n.m.alloc g a).2)]):=by
 have hgp:=hg.gp;have hpp:=hg.pp;have hG:=hg.g2;have hp1:=hg.p1;have hB:g.B=g.G * g.P:=rfl;have hol:=ok.ownl;have hul:=ok.usedl;unfold F_2w;refine z05 (by simp) ?_;refine tri_vol 0 rfl fun y hy hd=>?_;dsimp only[sel,rem,nth,del,cat,upd,z2c];refine za8 0 rfl ?_;refine z0c 1 rfl fun h1=>z0c 2 rfl fun h2=>z0c 3 rfl fun h3=>?_;refine z02 [1] (zyv ha ok.rows (z0k h1) (by omega)) fun r8=>z04 fun hr8=>z01 ?_;dsimp only[sel,rem,nth,del,cat,upd];refine zbl 1 rfl ?_;rw[z1n]at h2
 -- the groups
 have keep:VolS.wM V V.n.m=V:=rfl;have loop:∀(K k:Nat),g.G - k<K→k≤g.G→(∀r,V.n.m.rows.findIdx? (z3z a)=some r→∀i,i<k * g.P→V.n.m.isAt g r i=false) →
   Tri (z00 (z2c v d g V y)) (z0e K (F_3o N (some ⟨v,0⟩) r8 y.x.own) (k:Int)) fun r=>match V.n.m.atB g a with
    | some b=>pu (r=.inr ((b:Int),0)) (z00 [z0l v d g (V.wM {V.n.m with used:=z1x V.n.m.used b true})])
    | none=>pu (r=.inl ()) (z00 (z2c v d g V y)):=by
  intro K;induction K with
  | zero=>intro k h;omega
  | succ K ih=>
   intro k h hk hno;rw[z13];unfold F_3o;by_cases hkG:k<g.G
   ·refine z07 (by simp;omega) ?_;have hkl:k<V.n.m.own.length:=by omega
    have hb1:k * g.P≤(k+1) * g.P:=Nat.mul_le_mul_right _ (by omega);have hb2:(k+1) * g.P≤g.G * g.P:=Nat.mul_le_mul_right _ hkG;rw[z09 (n:=(k:Int)+1) (by omega) (by omega)];have next:(∀r,V.n.m.rows.findIdx? (z3z a)=some r→∀i,i<(k+1) * g.P→V.n.m.isAt g r i=false)→Tri (z00 (z2c v d g V y)) (z0e K (F_3o N (some ⟨v,0⟩) r8 y.x.own) ((k:Int)+1)) fun r=>match V.n.m.atB g a with
      | some b=>pu (r=.inr ((b:Int),0)) (z00 [z0l v d g (V.wM {V.n.m with used:=z1x V.n.m.used b true})])
      | none=>pu (r=.inl ()) (z00 (z2c v d g V y)):=fun hh=>ih (k+1) (by omega) (by omega) hh
    -- is it one of the label's?
    have hskip:(∀r,V.n.m.rows.findIdx? (z3z a)=some r→V.n.m.own[k]≠r+1)→∀r,V.n.m.rows.findIdx? (z3z a)=some r→∀i,i<(k+1) * g.P→V.n.m.isAt g r i=false:=by
     intro hne r hr i hi;by_cases hik:i<k * g.P
     ·exact hno r hr i hik
     ·have:i / g.P=k:=by
       rw[Nat.div_eq_iff (by omega)];have:(k+1) * g.P=k * g.P+g.P:=by rw[Nat.add_mul,Nat.one_mul]
       omega
      unfold MetaS.isAt;rw[this,List.getElem?_eq_getElem hkl];have:=hne r hr
      simp[this]
    cases hrow:V.n.m.rows.findIdx? (z3z a)with
    | none=>
     rw[hrow]at hr8;subst hr8;refine z02 [0,0,0,0,0,0,0,0,0,0,0] (Q:=fun r=>pu (r=.inl ()) (z00 (z2c v d g V y))) ?_ fun r=>z04 fun hr=>z01 ?_
     ·refine z2a 2 rfl (z0k (by rw[z1n];exact h2)) (i:=k) (k :=.i64) (v:=(V.n.m.own[k]:Nat)) (by simp[z1w,hkl]) ?_;exact z07 rfl (z03 [0,0,0,0,0,0,0,0,0,0,0] fun q hq=>⟨rfl,hq⟩)
     ·subst hr;exact next (hskip fun r hr=>by rw[hrow]at hr;cases hr)
    | some r=>
     rw[hrow]at hr8;subst hr8;have hr16:r<16:=by
      have:=(List.findIdx?_eq_some_iff_getElem.1 hrow).1
      rw[ok.rows.len]at this;exact this
     by_cases hko:V.n.m.own[k]=r+1
     ·-- a bit of it
      have hfind:∀b,z6m V.n.m.used (k * g.P) ((k+1) * g.P) false=some b→V.n.m.atB g a=some b∧b<512:=by
       intro b hb;unfold z6m at hb;rw[List.find?_range'_eq_some]at hb;obtain⟨hb3,hb4,hb5⟩:=hb;obtain⟨hb6,hb7⟩:=List.mem_range'_1.1 hb4;refine⟨?_,by omega⟩;unfold MetaS.atB;rw[hrow];dsimp only;rw[List.find?_range'_eq_some];have hdiv:∀i,k * g.P≤i→i<(k+1) * g.P→i / g.P=k:=by
        intro i h1 h2;rw[Nat.div_eq_iff (by omega)];have:(k+1) * g.P=k * g.P+g.P:=by rw[Nat.add_mul,Nat.one_mul]
        omega
       have hat:∀i,k * g.P≤i→i<(k+1) * g.P→V.n.m.isAt g r i = !z0y V.n.m.used i:=by
        intro i h1 h2;unfold MetaS.isAt;rw[hdiv i h1 h2,List.getElem?_eq_getElem hkl,hko];simp
       refine⟨?_,?_,fun i h1 h2=>?_⟩
       ·rw[hat b hb6 (by omega)];simpa using hb3
       ·rw[List.mem_range'_1];omega
       ·by_cases hik:i<k * g.P
        ·rw[hno r hrow i hik];rfl
        ·rw[hat i (by omega) (by omega)];have:=hb5 i (by omega) h2
         simpa using this
      have hnone:z6m V.n.m.used (k * g.P) ((k+1) * g.P) false=none→∀r',V.n.m.rows.findIdx? (z3z a)=some r'→∀i,i<(k+1) * g.P→V.n.m.isAt g r' i=false:=by
       intro hn r' hr' i hi;by_cases hik:i<k * g.P
       ·exact hno r' hr' i hik
       ·unfold z6m at hn;rw[List.find?_eq_none]at hn;have:=hn i (by rw[List.mem_range'_1];omega)
        have hu:z0y V.n.m.used i=true:=by simpa using this
        unfold MetaS.isAt;rw[hu];simp
      cases hf:z6m V.n.m.used (k * g.P) ((k+1) * g.P) false with
      | none=>
       refine z02 [0,0,0,0,0,0,0,0,0,0,0] (Q:=fun r=>pu (r=.inl ()) (z00 (z2c v d g V y))) ?_ fun r=>z04 fun hr=>z01 ?_
       ·refine z2a 2 rfl (z0k (by rw[z1n];exact h2)) (i:=k) (k :=.i64) (v:=(V.n.m.own[k]:Nat)) (by simp[z1w,hkl]) ?_;dsimp only;rw[z09 (n:=(r:Int)+1) (by omega) (by omega)];refine z05 (by simp[hko]) ?_;refine zcr 0 rfl (z8k 0 rfl (z8k 0 rfl ?_));have e1:(k:Int) * (g.P:Int)=((k * g.P:Nat):Int):=by simp
        have e2:((k:Int)+1) * (g.P:Int)=(((k+1) * g.P:Nat):Int):=by simp
        rw[e1,e2,z09 (by omega) (by omega),z09 (by omega) (by omega)];refine z02 [3] (znc (z0k h3) (by omega) hb1 (by omega) false hN) fun r31=>z04 fun hr31=>z01 ?_;rw[hf]at hr31;subst hr31;exact z05 (by simp) (z03 [1,1,1,0,0,0,0,0,0,0,0] fun q hq=>⟨rfl,hq⟩)
       ·subst hr;exact next (hnone hf)
      | some b=>
       obtain⟨hat,hb512⟩:=hfind b hf;rw[hat];refine z02 [0,0,0,0,0,0,0,0,0,0,0] (Q:=fun r=>pu (r=.inr ((b:Int),0)) (z00 [z0l v d g (V.wM {V.n.m with used:=z1x V.n.m.used b true})])) ?_ fun r=>z04 fun hr=>z01 ?_
       ·refine z2a 2 rfl (z0k (by rw[z1n];exact h2)) (i:=k) (k :=.i64) (v:=(V.n.m.own[k]:Nat)) (by simp[z1w,hkl]) ?_;dsimp only;rw[z09 (n:=(r:Int)+1) (by omega) (by omega)];refine z05 (by simp[hko]) ?_;refine zcr 0 rfl (z8k 0 rfl (z8k 0 rfl ?_));have e1:(k:Int) * (g.P:Int)=((k * g.P:Nat):Int):=by simp
        have e2:((k:Int)+1) * (g.P:Int)=(((k+1) * g.P:Nat):Int):=by simp
        rw[e1,e2,z09 (by omega) (by omega),z09 (by omega) (by omega)];refine z02 [3] (znc (z0k h3) (by omega) hb1 (by omega) false hN) fun r31=>z04 fun hr31=>z01 ?_;rw[hf]at hr31;subst hr31;dsimp only[sel,rem,nth,del,cat,upd];refine z07 rfl ?_;refine Tri.pre (B:=z00 [z0l v d g V]) ?_ fun q hq=>z1r hy hd (zom [1,1,1,0,0,0,0,0,0,0,0] hq);exact z02 [0] (zip hul hb512 true) fun _=>z01 (z03 [0] fun q hq=>⟨rfl,hq⟩)
       ·subst hr;exact z03 [0] fun q hq=>⟨rfl,hq⟩
     ·refine z02 [0,0,0,0,0,0,0,0,0,0,0] (Q:=fun r=>pu (r=.inl ()) (z00 (z2c v d g V y))) ?_ fun r=>z04 fun hr=>z01 ?_
      ·refine z2a 2 rfl (z0k (by rw[z1n];exact h2)) (i:=k) (k :=.i64) (v:=(V.n.m.own[k]:Nat)) (by simp[z1w,hkl]) ?_;dsimp only;rw[z09 (n:=(r:Int)+1) (by omega) (by omega)];exact z07 (by simp;omega) (z03 [0,0,0,0,0,0,0,0,0,0,0] fun q hq=>⟨rfl,hq⟩)
      ·subst hr;refine next (hskip fun r' hr'=>?_)
       rw[hrow]at hr';cases hr';exact hko
   ·obtain rfl:k=g.G:=by omega
    refine z05 (by simp;omega) ?_;have hat:V.n.m.atB g a=none:=by
     unfold MetaS.atB;cases hrow:V.n.m.rows.findIdx? (z3z a)with
     | none=>rfl
     | some r=>
      dsimp only;rw[List.find?_eq_none];intro i hi;rw[List.mem_range'_1]at hi;rw[hno r hrow i (by omega)];simp
    rw[hat];exact z1m fun q hq=>⟨rfl,hq⟩
 refine z02 [1,0,0,0,0,0,0,0,0,0,0] (loop N 0 (by omega) (by omega) fun r hr i hi=>by omega) fun r=>?_;cases hat:V.n.m.atB g a with
 | some b=>
  refine z04 fun hr=>z01 ?_;subst hr;refine z03 [0] fun q hq=>⟨?_,?_⟩
  ·unfold MetaS.alloc;rw[hat]
  ·unfold MetaS.alloc;rw[hat];exact hq
 | none=>
  refine z04 fun hr=>z01 ?_;subst hr;dsimp only[sel,rem,nth,del,cat,upd,z2c];refine zbl 0 rfl ?_;refine z02 [2] (zvp (z0k (by rw[z1n];exact h2)) (by omega) (by omega)) fun r44=>z04 fun hr44=>z01 ?_;dsimp only[sel,rem,nth,del,cat,upd];subst hr44;cases hfr:V.n.m.own.findIdx? z34 with
  | none=>
   rw[zfx hfr];have hA:V.n.m.alloc g a=((0,5),V.n.m):=by unfold MetaS.alloc;rw[hat,hfr]
   rw[hA];exact z07 (by simp) (z03 [1,1,0,0,0,0,0,0,0,0,0] fun q hq=>⟨rfl,z1r hy hd hq⟩)
  | some k=>
   rw[zfy hfr];have hkl:=(List.findIdx?_eq_some_iff_getElem.1 hfr).1;refine z05 (by simp) ?_;refine za8 1 rfl ?_;refine z02 [2] (zko ha ok.rows (z0k h1) (by omega)) fun r50=>z04 fun hr50=>z01 ?_;dsimp only[sel,rem,nth,del,cat,upd];by_cases hE:z3w V.n.m.rows a=0
   ·have hA:V.n.m.alloc g a=((((k * g.P:Nat):Int),0),{V.n.m with rows:=z99 V.n.m.rows a,own:=V.n.m.own.set k (z3x V.n.m.rows a+1),used:=z1x V.n.m.used (k * g.P) true}):=by unfold MetaS.alloc;rw[hat,hfr];dsimp only;rw[if_pos hE]
    rw[hA,if_pos hE];obtain⟨e22,e21⟩:=hr50;obtain⟨e21,hI⟩:=e21 hE;have hkP:k * g.P+g.P≤g.G * g.P:=z3s (by omega);refine z05 (by simp[e22,hE]) ?_;refine zbl 3 rfl ?_;refine zio 3 rfl ?_;dsimp only[sel,rem,nth,del,cat,upd];rw[e21];have e3:wr .i64 (((z3x V.n.m.rows a:Nat):Int)+1)=((z3x V.n.m.rows a+1:Nat):Int):=by rw[z09 (by omega) (by omega)];simp
    rw[e3];refine zea 2 rfl hkl ?_;dsimp only[sel,rem,nth,del,cat,upd];refine z8k 3 rfl ?_;have e4:(k:Int) * (g.P:Int)=((k * g.P:Nat):Int):=by simp
    rw[e4,z09 (by omega) (by omega)];let V1:VolS:=V.wM {V.n.m with rows:=z99 V.n.m.rows a,own:=V.n.m.own.set k (z3x V.n.m.rows a+1)}
    refine z1u [3,0,1,1,1,1,1,1,1,1,1] (Tri.pre (B:=z00 [z0l v d g V1]) ?_ fun q hq=>z1r (V:=V1) (y:={y with x:={y.x with rows:=r50.1}}) (hy.wM _ _ rfl) hd hq)
    ·refine z02 [0] (zip (V:=V1) hul (by omega) true) fun _=>z01 ?_;dsimp only[sel,rem,nth,del,cat,upd];refine tri_vol 0 rfl fun y2 hy2 hd2=>?_;dsimp only[sel,rem,nth,del,cat,upd,z2c];refine z8k 0 rfl ?_;rw[e4,z09 (by omega) (by omega)];exact z03 [0,0,0,0,0,0,0,0,0,0,0] fun q hq=>⟨rfl,z1r hy2 hd2 hq⟩
   ·have hA:V.n.m.alloc g a=((0,z3w V.n.m.rows a),V.n.m):=by unfold MetaS.alloc;rw[hat,hfr];dsimp only;rw[if_neg hE]
    rw[hA];refine z07 (by simp[hr50.1,hE]) (z03 [3,1,1,1,1,1,1,1,1,1,1] fun q hq=>⟨by rw[hr50.1],z1r hy hd hq⟩)
end
end Go.Moat

/- Layer 15: blocks and inodes. -/
namespace Go.Moat
open Go.Mini
def z1h:List UInt8:=List.replicate 64 0
def zrg(g:Geo)(m:MetaS):Prop:=∀b,b<g.B→z0y m.used b=true→0<m.own[b / g.P]?.getD 0
def VolS.free(g:Geo)(V:VolS)(b:Nat):VolS:=(V.write g b z1h).wM (V.n.m.free g b)
def VolS.readE(g:Geo)(V:VolS)(b:Int):Int:=if 0≤b∧b<g.B then(match z43 V.n.dirty b with
 | some _=>0
 | none=>z7y V.disk (g.blk+b))else 1
def VolS.readB(g:Geo)(V:VolS)(b:Int):List UInt8:=match z43 V.n.dirty b with
 | some x=>x.1
 | none=>(z48 V.disk (g.blk+b)).b
def VolS.writeE(g:Geo)(V:VolS)(b:Int)(bs:List UInt8):Int:=if bs.length=64 then V.n.m.usedE g b else 1
section
variable{N:Nat}{β:Type}{l:List HA}{S:β→HA}{v d:Nat}{g:Geo}{V:VolS}{m:M β}{T:HA}
theorem zni{m:MetaS}{b:Int}(h:m.usedE g b=0):∃k:Nat,b=k∧k<g.B∧z0y m.used k=true:=by
 unfold MetaS.usedE at h;split at h
 ·rename_i hb;refine⟨b.toNat,by omega,by omega,?_⟩;cases hg:z0y m.used b.toNat with
  | true=>rfl
  | false=>rw[hg]at h;simp at h
 ·cases h
theorem zu6(k:Tri (z00 [z0l v d g V]) m S){y:VH}(hy:VHok V y)(hd:y.x.d=d):Tri (z00 (z2c v d g V y)) m S:=k.pre fun q hq=>z1r hy hd hq
theorem znj(hg:g.ok)(ok:MetaOk g V.n.m)(rf:RefOk V.n.m)(gr:zrg g V.n.m)(b:Int)(hN:5000<N) :
  Tri (z00 [z0l v d g V]) (F_1y N (some ⟨v,0⟩) b) fun r=>pu (r=V.n.m.usedE g b) (z00 [z0l v d g (if V.n.m.usedE g b=0 then V.free g b.toNat else V)]):=by
 have hgp:=hg.gp;have hp1:=hg.p1;have hul:=ok.usedl;unfold F_1y;refine z02 [0] (znh hg hul b) fun r=>z04 fun h=>z01 ?_;subst h;dsimp only[sel,rem,nth,del,cat,upd];by_cases hE:V.n.m.usedE g b=0
 case neg=>exact z07 (by simpa using hE) (z03 [0] fun q hq=>⟨rfl,by rw[if_neg hE];exact hq⟩)
 rw[if_pos hE];refine z05 (by simpa using hE) ?_;rw[hE];obtain⟨k,rfl,hk,hbit⟩:=zni hE;rw[Int.toNat_natCast];have hB:g.B=g.G * g.P:=rfl;have hkG:k / g.P<g.G:=by
  rw[Nat.div_lt_iff_lt_mul (by omega)];exact hk
 have hkl:k / g.P<V.n.m.own.length:=by rw[ok.ownl];exact hkG
 have h0:=gr k hk hbit;rw[List.getElem?_eq_getElem hkl,Option.getD_some]at h0;have h16:=ok.own16 _ (List.getElem_mem hkl);refine z85 64 (by omega) fun sb=>?_;refine z02 [1,0] (zkr (s:=⟨some ⟨sb,0⟩,64⟩) (bs:=z1h) hg ok hk rfl (by simp[z1h]) |>.pre fun q hq=>z1g (fun q=>z4k fun q h =>.mk (by rw[z0d];simp[z1h]) h) hq) fun _=>z01 ?_;dsimp only[sel,rem,nth,del,cat,upd];let V1:=V.write g k z1h
 refine z02 [0] (zip (V:=V1) (i:=k) hul (by omega) false) fun _=>z01 ?_;dsimp only[sel,rem,nth,del,cat,upd];let V2:=V1.wUsed (z1x V.n.m.used k false)
 have hu2:V2.n.m.used.length=64:=by show(z1x V.n.m.used k false).length=64;rw[zax];exact hul
 have hb6:=Nat.div_le_self k g.P;have e1:(k:Int).tdiv (g.P:Int)=((k / g.P:Nat):Int):=rfl;have e2:wr .i64 ((k / g.P:Nat):Int)=((k / g.P:Nat):Int):=by
  generalize k / g.P=bq at hb6;exact z09 (by omega) (by omega)
 refine Tri.bd (Q:=fun _=>z00 [z0l v d g V2]) (m:=fun h=>some ((),h)) (f:=fun _=>_) (fun h q hq hh=>⟨(),h,q,rfl,hq,hh,Nat.le_refl _,fun _ _ _=>rfl,fun _ hb =>.inl hb⟩) fun _=>?_;refine tri_vol 0 rfl fun y hy hd=>?_;dsimp only[sel,rem,nth,del,cat,upd,z2c];refine z8k 0 rfl ?_;rw[if_neg (by omega),e1,e2];refine zu6 (V:=V2) ?_ hy hd;refine z02 [0] (zvl hu2 hg hkG hN) fun r11=>z04 fun h11=>z01 ?_;subst h11;dsimp only[sel,rem,nth,del,cat,upd];have hcnt:z6g V2.n.m.used (k / g.P * g.P) ((k / g.P+1) * g.P)=z6g (z1x V.n.m.used k false) (k / g.P * g.P) ((k / g.P+1) * g.P):=rfl;rw[hcnt];refine z02 [0] (Q:=fun _=>z00 [z0l v d g (V.free g k)]) ?_ fun _=>z01 (z03 [0] fun q hq=>⟨rfl,hq⟩);by_cases hc:z6g (z1x V.n.m.used k false) (k / g.P * g.P) ((k / g.P+1) * g.P)=0
 ·have hF:V.free g k=((V2.wRows (zbq V.n.m.rows (V.n.m.own[k / g.P] - 1))).wOwn (V.n.m.own.set (k / g.P) 0)):=by
   unfold VolS.free MetaS.free;rw[if_pos hc,List.getElem?_eq_getElem hkl];rfl
  rw[hF];refine z07 (by rw[hc];rfl) ?_;refine tri_vol 0 rfl fun y hy hd=>?_;dsimp only[sel,rem,nth,del,cat,upd,z2c];refine zbl 0 rfl ?_;refine z0c 2 rfl fun h2=>?_;refine z2a 2 rfl (z0k h2) (i:=k / g.P) (k :=.i64) (v:=(V.n.m.own[k / g.P]:Nat)) (by
   show(z1c V.n.m.own)[k / g.P]? = _;simp[z1w,hkl]) ?_
  have e3:wr .i64 (((V.n.m.own[k / g.P]:Nat):Int) - 1)=((V.n.m.own[k / g.P] - 1:Nat):Int):=by rw[z09 (by omega) (by omega)];omega
  rw[e3];refine zu6 (V:=V2) ?_ hy hd;refine z02 [0] (z129 (V:=V2) ok.rows (by omega) (rf.own _ (List.getElem_mem hkl) h0) (by omega)) fun _=>z01 ?_;dsimp only[sel,rem,nth,del,cat,upd];refine tri_vol 0 rfl fun y hy hd=>?_;dsimp only[sel,rem,nth,del,cat,upd,z2c];refine zbl 0 rfl ?_;refine zea (x:=0) 2 rfl hkl ?_;refine z03 [0,0,0,0,0,0,0,0,0,0,0] fun q hq=>?_;exact z1r (V:=VolS.wOwn _ _) (y:=y) (hy.wM _ y.x rfl) hd hq
 ·have hF:V.free g k=V2:=by
   unfold VolS.free MetaS.free;rw[if_neg hc];rfl
  rw[hF];exact z05 (by simp;omega) (z03 [0] fun q hq=>hq)
theorem zdh(hg:g.ok)(b:Int):Tri (z00 [z0l v d g V]) (F_0f N (some ⟨v,0⟩) b) fun r=>pu (r.2=V.readE g b) (z00 [z0l v d g V,if V.readE g b=0 then z06 r.1 1 (bytesOf (V.readB g b))else emp]):=by
 have hall:=hg.all_le;have:g.all=g.blk+g.B:=rfl
 unfold F_0f;refine z05 (by simp) ?_;refine z02 [0] (zkq hg b) fun r=>z04 fun h=>z01 ?_;subst h;dsimp only[sel,rem,nth,del,cat,upd];unfold VolS.readE;by_cases hb:0≤b∧b<g.B
 case neg=>
  rw[if_neg hb];refine z07 (by simp;omega) (z03 [0] fun q hq=>⟨rfl,?_⟩);rw[if_neg (by decide)];show z18 (z0l v d g V) (z18 emp emp) q;rw[star_emp emp];exact hq
 rw[if_pos hb];refine z05 (by simp;omega) ?_;refine tri_vol 0 rfl fun y hy hd=>?_;dsimp only[sel,rem,nth,del,cat,upd,z2c];refine zlc 0 rfl ?_;refine ztx 5 rfl _ ?_;have hget:z43 V.n.dirty b=(z43 y.L b).map DV.f:=by
  rw[←hy.dirty];exact zla DV.f y.L b
 have hgk:z6t (dkv g y.L) b=(z43 y.L b).map (dvC g b):=zl9 (fun k z=>dvC g k z) y.L b;rw[hgk];unfold VolS.readB;cases hx:z43 y.L b with
 | some x=>
  rw[hx]at hget;rw[hget];dsimp only[Option.map_some,Option.getD_some];refine Tri.bd (Q:=fun z=>pu (z=((g.blk:Int)+b,x.s,(x.t:Int))) (z00 (z2c v d g V y))) (z1m fun q hq=>⟨rfl,hq⟩) fun z=>zrf fun hz=>?_;subst hz;refine z07 rfl ?_;have hm:=ze0 hx;have hmem:=hy.dok.mem _ hm;have hlen:=hy.dok.len _ hm;have hrd:RdC (z1v y.P) x.s 1 (bytesOf x.b):=zbk hmem (by dsimp only at hlen;omega);dsimp only[sel,rem,nth,del,cat,upd,z2c];refine z02 [6] (show Tri _ (z9j 1 1 _) _ from z8o hrd (by omega) (bytes_cell _) (by
   have:most=70368744177664:=rfl
   dsimp only at hlen ⊢;omega)) fun r=>z01 ?_
  dsimp only[sel,rem,nth,del,cat,upd];refine z03 [2,2,2,2,2,2,1,1,1,1,1,0] fun q hq=>⟨rfl,?_⟩;rw[if_pos rfl];exact vol_fold' hy hd hq
 | none=>
  rw[hx]at hget;rw[hget];dsimp only[Option.map_none,Option.getD_none];refine Tri.bd (Q:=fun(z:Int×Sl×Int)=>pu (z=((0:Int),(⟨none,0⟩:Sl),(0:Int))) (z00 (z2c v d g V y))) (z1m fun q hq=>⟨rfl,hq⟩) fun z=>zrf fun hz=>?_;refine z05 (by simp) ?_;dsimp only[sel,rem,nth,del,cat,upd,z2c];refine zct 0 rfl (o:=5) (v:=some ⟨y.x.d,0⟩) rfl ?_;refine ztn 0 rfl ?_;rw[z09 (by omega) (by omega),hd];refine z02 [7] (zq7 (N:=N) ((g.blk:Int)+b)) fun r=>z04 fun ⟨h1,h2⟩=>z01 ?_;dsimp only[sel,rem,nth,del,cat,upd];refine z03 [2,2,2,2,2,2,2,0,1,1,1,0] fun q hq=>⟨h1,?_⟩;exact vol_fold' hy hd hq
theorem zce(hg:g.ok)(ok:MetaOk g V.n.m)(b:Int){s:Sl}{bs:List UInt8}(hr:RdC T s 1 (bytesOf bs))(hbs:bs.length≤100000) :
  Tri (z00 [z0l v d g V,T]) (F_0g N (some ⟨v,0⟩) b s) fun r=>pu (r=V.writeE g b bs) (z00 [z0l v d g (if V.writeE g b bs=0 then V.write g b.toNat bs else V),T]):=by
 have hlen:=z4m hr;unfold F_0g VolS.writeE;by_cases h64:bs.length=64
 case neg=>
  simp only[if_neg h64];rw[if_neg (show ¬((1:Int)=0) by decide)];exact z07 (by simp[hlen];omega) (z03 [0,0] fun q hq=>⟨rfl,hq⟩)
 simp only[if_pos h64];refine z05 (by simp[hlen];omega) ?_;refine z02 [0] (znh hg ok.usedl b) fun r=>z04 fun h=>z01 ?_;subst h;dsimp only[sel,rem,nth,del,cat,upd];by_cases hE:V.n.m.usedE g b=0
 case neg=>exact z07 (by simpa using hE) (z03 [0,0] fun q hq=>⟨rfl,by rw[if_neg hE];exact hq⟩)
 rw[if_pos hE];refine z05 (by simpa using hE) ?_;rw[hE];obtain⟨k,rfl,hk,hbit⟩:=zni hE;refine z02 [1] (show Tri _ (z9j 1 1 _) _ from z8o hr (by omega) (bytes_cell _) (by
  have:most=70368744177664:=rfl
  omega)) fun r=>z01 ?_
 dsimp only[sel,rem,nth,del,cat,upd];refine z0c 0 rfl fun h0=>?_;rw[z0d]at h0;refine z02 [2,0] (zkr hg ok hk (by omega) h64) fun _=>z01 ?_;exact z03 [0,0] fun q hq=>⟨rfl,hq⟩
theorem z7c{A:HA}{k:IntKind}{x:Int}{f:Int→M β}(kk:Tri A (f x) S):Tri A (bd (z0p (CTy.dec (.int k) (.int k x))) f) S:=by
 have e:CTy.dec (.int k) (.int k x)=some x:=by simp only[CTy.dec,if_true];rfl
 rw[e];exact z4j kk
theorem zrh(n:Ino):(z16 n)[0]? = some (.int .u8 n.k):=rfl
theorem zyz(n:Ino):(z16 n)[1]? = some (.int .u8 n.r):=rfl
theorem zqa(ok:MetaOk g V.n.m)(hg:g.ok)(i:Int):Tri (z00 [z0l v d g V]) (F_1p N (some ⟨v,0⟩) i) fun r=>pu (r=V.n.m.hasE i) (z00 [z0l v d g V]):=by
 have hil:=ok.inol;have hI:=hg.i2;unfold F_1p;refine z05 (by simp) ?_;refine tri_vol 0 rfl fun y hy hd=>?_;dsimp only[sel,rem,nth,del,cat,upd,z2c];refine z0c 4 rfl fun h4=>?_;have h4':y.x.ino.len=V.n.m.ino.length:=by rw[z0u z0n]at h4;omega
 unfold MetaS.hasE;refine z02 [0,0,0,0,0,0,0,0,0,0,0] (Q:=fun c=>pu (c = !decide (0≤i∧i<V.n.m.ino.length)) (z00 (z2c v d g V y))) ?_ fun c=>z04 fun hc=>z01 ?_
 ·by_cases h0:i<0
  ·exact z05 (by simpa using h0) (z03 [0,0,0,0,0,0,0,0,0,0,0] fun q hq=>⟨by simp;omega,hq⟩)
  ·refine z07 (by simpa using h0) (z8j 0 rfl (z03 [0,0,0,0,0,0,0,0,0,0,0] fun q hq=>⟨?_,hq⟩));rw[h4'];rw[Bool.eq_iff_iff];simp;omega
 ·subst hc;dsimp only[sel,rem,nth,del,cat,upd,z2c];by_cases hi:0≤i∧i<V.n.m.ino.length
  ·rw[if_pos hi];refine z05 (by simp;omega) (z8j 0 rfl ?_);obtain⟨k,rfl⟩:∃k:Nat,i=k:=⟨i.toNat,by omega⟩;rw[Int.toNat_natCast];have hk:k<V.n.m.ino.length:=by omega
   have hn:z15 V.n.m.ino k=V.n.m.ino[k]:=by simp[z15,hk]
   rw[hn];refine z7a 4 rfl (z0k h4) (i:=k) (o:=0) (by omega) (by omega) (v:=(V.n.m.ino[k].k:Nat)) (by rw[z3l z0n hk (by omega)];rfl) ?_;by_cases hz:V.n.m.ino[k].k=0
   ·exact z07 (by simp[hz]) (z03 [0,0,0,0,0,0,0,0,0,0,0] fun q hq=>⟨by rw[if_pos hz],z1r hy hd hq⟩)
   ·exact z05 (by simp;omega) (z03 [0,0,0,0,0,0,0,0,0,0,0] fun q hq=>⟨by rw[if_neg hz],z1r hy hd hq⟩)
  ·rw[if_neg hi];exact z07 (by simp;omega) (z03 [0,0,0,0,0,0,0,0,0,0,0] fun q hq=>⟨rfl,z1r hy hd hq⟩)
theorem zev{m:MetaS}{i:Int}(h:m.hasE i=0):∃(k:Nat)(hk:k<m.ino.length),i=k∧m.ino[k].k≠0:=by
 unfold MetaS.hasE at h;split at h
 ·rename_i hi;have hk:i.toNat<m.ino.length:=by omega
  refine⟨i.toNat,hk,by omega,?_⟩;have hn:z15 m.ino i.toNat=m.ino[i.toNat]:=by simp[z15,hk]
  rw[hn]at h;intro c;rw[if_pos c]at h;cases h
 ·cases h
theorem zz0(hg:g.ok)(ok:MetaOk g V.n.m){kind a:Nat}(hk:kind<256)(ha:a<65536)(hN:5000<N):Tri (z00 [z0l v d g V]) (F_2r N (some ⟨v,0⟩) (kind:Int) (a:Int)) fun r=>pu (r=(V.n.m.make kind a).1) (z00 [z0l v d g (V.wM (V.n.m.make kind a).2)]):=by
 have hil:=ok.inol;have hI:=hg.i2;unfold F_2r MetaS.make;refine z05 (by simp) ?_;by_cases hkind:kind=1∨kind=2
 case neg=>
  rw[if_neg hkind];exact z07 (by simp;omega) (z03 [0] fun q hq=>⟨rfl,hq⟩)
 rw[if_pos hkind];refine z05 (by simp;omega) ?_;refine tri_vol 0 rfl fun y hy hd=>?_;dsimp only[sel,rem,nth,del,cat,upd,z2c];refine z8j 0 rfl ?_;refine z0c 1 rfl fun h1=>z0c 4 rfl fun h4=>?_;have h4':y.x.ino.len=V.n.m.ino.length:=by rw[z0u z0n]at h4;omega
 have find:Tri (z00 [z06 y.x.ino 14 (z2m V.n.m.ino)]) (F_2p N y.x.ino ()) fun r=>pu (r=fi zad V.n.m.ino) (z00 [z06 y.x.ino 14 (z2m V.n.m.ino)]):=by
  unfold F_2p;refine ze7 (A:=z00 [z06 y.x.ino 14 (z2m V.n.m.ino)]) zad V.n.m.ino (by omega) (fun rec i hi Q k=>?_) fun rec Q k=>?_
  ·unfold F_5a;refine z07 (by simp[h4'];omega) ?_;refine z94 0 rfl (z0k h4) hi ?_;unfold F_4d;rw[zrh,z09 (by omega) (by omega)];have:(decide ((V.n.m.ino[i].k:Int)=0))=zad V.n.m.ino[i]:=by
    unfold zad;congr 1;apply propext;omega
   show Tri _ (bd (ret (decide ((V.n.m.ino[i].k:Int)=0))) _) _;rw[this];exact z0j k
  ·unfold F_5a;exact z05 (by simp[h4']) k
 refine z02 [4] find fun r9=>z04 fun h9=>z01 ?_;subst h9;dsimp only[sel,rem,nth,del,cat,upd];cases hx:V.n.m.ino.findIdx? zad with
 | none=>
  rw[zfx hx];exact z07 (by simp) (z03 [1,1,1,1,0,0,0,0,0,0,0] fun q hq=>⟨rfl,z1r hy hd hq⟩)
 | some i=>
  rw[zfy hx];dsimp only;have hi:=(List.findIdx?_eq_some_iff_getElem.1 hx).1;refine z05 (by simp) (za8 1 rfl ?_);refine z02 [2] (zko ha ok.rows (z0k h1) (by omega)) fun r15=>z04 fun h15=>z01 ?_;dsimp only[sel,rem,nth,del,cat,upd];by_cases hE:z3w V.n.m.rows a=0
  ·rw[if_pos hE,if_pos hE];obtain⟨e22,e21⟩:=h15;obtain⟨e21,hI2⟩:=e21 hE;refine z05 (by simp[e22,hE]) (z8j 3 rfl (zio 3 rfl ?_));rw[e21,wr8 (by omega) (by omega)];have e3:([MV.int .u8 (kind:Int),MV.int .u8 ((z3x V.n.m.rows a:Nat):Int)]++z0t 12 [MV.int .i64 (0:Int)])=z16 (z95 kind (z3x V.n.m.rows a)):=rfl;rw[e3];dsimp only[sel,rem,nth,del,cat,upd];refine zu5 2 rfl hi ?_;dsimp only[sel,rem,nth,del,cat,upd];refine z03 [3,0,2,2,1,1,1,1,1,1,1] fun q hq=>⟨rfl,?_⟩;exact z1r (V:=V.wM _) (y:={y with x:={y.x with rows:=r15.1}}) (hy.wM _ _ rfl) hd hq
  ·rw[if_neg hE,if_neg hE];exact z07 (by simp[h15.1,hE]) (z03 [3,1,2,2,1,1,1,1,1,1,1] fun q hq=>⟨by rw[h15.1],z1r hy hd hq⟩)
def MetaS.inodeN(m:MetaS)(i:Int):Ino:=if m.hasE i=0 then z15 m.ino i.toNat else Ino.z
def MetaS.inodeL(m:MetaS)(i:Int):Nat:=if m.hasE i=0 then(z1a m.rows (z15 m.ino i.toNat).r).1 else 0
theorem zf4(hg:g.ok)(ok:MetaOk g V.n.m)(i:Int):Tri (z00 [z0l v d g V]) (F_0w N (some ⟨v,0⟩) i) fun r=>pu (r=(z16 (V.n.m.inodeN i),((V.n.m.inodeL i:Nat):Int),V.n.m.hasE i)) (z00 [z0l v d g V]):=by
 have hil:=ok.inol;have hI:=hg.i2;unfold F_0w MetaS.inodeN MetaS.inodeL;refine z02 [0] (zqa ok hg i) fun r=>z04 fun h=>z01 ?_;subst h;dsimp only[sel,rem,nth,del,cat,upd];rw[z9g];by_cases hE:V.n.m.hasE i=0
 case neg=>
  refine z07 (by simpa using hE) (zu1 ?_);rw[if_neg hE,if_neg hE];exact z03 [0] fun q hq=>⟨rfl,hq⟩
 refine z05 (by simpa using hE) ?_;rw[if_pos hE,if_pos hE,hE];obtain⟨k,hk,rfl,hkk⟩:=zev hE;rw[Int.toNat_natCast];have hn:z15 V.n.m.ino k=V.n.m.ino[k]:=by simp[z15,hk]
 rw[hn];have hm:=List.getElem_mem hk;have hr:=(ok.inok _ hm).r;have hrl:V.n.m.ino[k].r<V.n.m.rows.length:=by rw[ok.rows.len];exact hr
 refine tri_vol 0 rfl fun y hy hd=>?_;dsimp only[sel,rem,nth,del,cat,upd,z2c];refine z8j 0 rfl ?_;refine z0c 4 rfl fun h4=>z0c 1 rfl fun h1=>?_;refine z94 4 rfl (z0k h4) hk ?_;refine zac (z8q fun _=>zj1 ?_);refine za8 0 rfl ?_;rw[zh7,zyz];show Tri _ (bd (idx 2 y.x.rows ((V.n.m.ino[k].r:Nat):Int)) _) _;rw[z0u z2e]at h1;refine z7a 1 rfl (z0k (by rw[z0u z2e];omega)) (i:=V.n.m.ino[k].r) (o:=0) (by omega) (by omega) (v:=(V.n.m.rows[V.n.m.ino[k].r].1:Nat)) (by rw[z3l z2e hrl (by omega)];rfl) ?_;refine zac ?_;show Tri _ (bd (if 0+14≤(z16 V.n.m.ino[k]).length then ret (((z16 V.n.m.ino[k]).drop 0).take 14)else z0h) _) _;rw[if_pos (by rw[z0n];omega),List.drop_zero,List.take_of_length_le (by rw[z0n];omega)];refine z0j ?_;refine z03 [0,0,0,0,0,0,0,0,0,0,0] fun q hq=>⟨?_,z1r hy hd hq⟩;simp[z1a,hrl]
def MetaS.set(m:MetaS)(i:Nat)(n:Ino):MetaS:={m with ino:=m.ino.set i n}
theorem z12a(hg:g.ok)(ok:MetaOk g V.n.m)(i:Int)(n:Ino)(hN:5000<N):Tri (z00 [z0l v d g V]) (F_2z N (some ⟨v,0⟩) i (z16 n)) fun r=>pu (r=V.n.m.setE i n) (z00 [z0l v d g (if V.n.m.setE i n=0 then V.wM (V.n.m.set i.toNat n)else V)]):=by
 have hil:=ok.inol;have hI:=hg.i2;have e14:0+14≤(z16 n).length:=by rw[z0n];omega
 have t14:((z16 n).drop 0).take 14=z16 n:=by rw[List.drop_zero,List.take_of_length_le (by rw[z0n];omega)]
 unfold F_2z;refine z02 [0] (zqa ok hg i) fun r=>z04 fun h=>z01 ?_;subst h;dsimp only[sel,rem,nth,del,cat,upd];unfold MetaS.setE;by_cases h1:V.n.m.hasE i=1
 ·rw[if_pos h1,if_neg (show ¬((1:Int)=0) by decide)];exact z07 (by simp[h1]) (z03 [0] fun q hq=>⟨h1,hq⟩)
 rw[if_neg h1];refine z05 (by simp[h1]) ?_;rw[if_pos e14,t14];refine z0j ?_;rw[zcb (by omega)];refine z0j ?_;refine z02 [0] (Q:=fun c=>pu (c=decide (n.ok=false∨n.k=0)) (z00 [z0l v d g V])) ?_ fun c=>z04 fun hc=>z01 ?_
 ·cases hok:n.ok
  ·exact z05 (by simp) (z03 [0] fun q hq=>⟨by simp,hq⟩)
  ·refine z07 rfl ?_;rw[zrh];show Tri _ (ret (decide ((n.k:Int)=0))) _;refine z03 [0] fun q hq=>⟨?_,hq⟩;rw[Bool.eq_iff_iff];simp
 subst hc;dsimp only[sel,rem,nth,del,cat,upd];by_cases h2:n.ok=false∨n.k=0
 ·rw[if_pos h2,if_neg (show ¬((1:Int)=0) by decide)];exact z07 (by simpa using h2) (z03 [0] fun q hq=>⟨rfl,hq⟩)
 rw[if_neg h2];refine z05 (by simpa using h2) ?_;by_cases h3:V.n.m.hasE i=0
 case neg=>
  have h32:V.n.m.hasE i=2:=by
   unfold MetaS.hasE at h1 h3 ⊢;split
   ·split
    ·rfl
    ·rename_i ha hb;rw[if_pos ha,if_neg hb]at h3;exact absurd rfl h3
   ·rename_i ha;rw[if_neg ha]at h1;exact absurd rfl h1
  rw[if_pos (show V.n.m.hasE i≠0 from h3),if_neg (show ¬((2:Int)=0) by decide)];exact z07 (by simpa using h3) (z03 [0] fun q hq=>⟨h32,hq⟩)
 rw[if_neg (show ¬V.n.m.hasE i≠0 by omega)];refine z05 (by simpa using h3) ?_;obtain⟨k,hk,rfl,hkk⟩:=zev h3;rw[Int.toNat_natCast];have hn:z15 V.n.m.ino k=V.n.m.ino[k]:=by simp[z15,hk]
 rw[hn];refine tri_vol 0 rfl fun y hy hd=>?_;dsimp only[sel,rem,nth,del,cat,upd,z2c];refine z0c 4 rfl fun h4=>?_;have h4':y.x.ino.len=V.n.m.ino.length:=by rw[z0u z0n]at h4;omega
 rw[zrh,zyz];refine z4j (z7c ?_);refine z8j 0 rfl ?_;refine z7a 4 rfl (z0k h4) (i:=k) (o:=0) (by omega) (by omega) (v:=(V.n.m.ino[k].k:Nat)) (by rw[z3l z0n hk (by omega)];rfl) ?_;refine z02 [0,0,0,0,0,0,0,0,0,0,0] (Q:=fun c=>pu (c=decide (n.k≠V.n.m.ino[k].k∨n.r≠V.n.m.ino[k].r)) (z00 (z2c v d g V y))) ?_ fun c=>z04 fun hc=>z01 ?_
 ·by_cases hkq:n.k=V.n.m.ino[k].k
  ·refine z07 (by simp[hkq]) ?_;refine z4j (z7c ?_);refine z8j 0 rfl ?_;refine z7a 4 rfl (z0k h4) (i:=k) (o:=1) (by omega) (by omega) (v:=(V.n.m.ino[k].r:Nat)) (by rw[z3l z0n hk (by omega)];rfl) ?_;refine z03 [0,0,0,0,0,0,0,0,0,0,0] fun q hq=>⟨?_,hq⟩;rw[Bool.eq_iff_iff];simp[hkq];omega
  ·refine z05 (by simp;omega) (z03 [0,0,0,0,0,0,0,0,0,0,0] fun q hq=>⟨by simp[hkq],hq⟩)
 subst hc;dsimp only[sel,rem,nth,del,cat,upd,z2c];by_cases h5:n.k≠V.n.m.ino[k].k∨n.r≠V.n.m.ino[k].r
 ·rw[if_pos h5,if_neg (show ¬((1:Int)=0) by decide)];exact z07 (by simpa using h5) (z03 [0,0,0,0,0,0,0,0,0,0,0] fun q hq=>⟨rfl,z1r hy hd hq⟩)
 rw[if_neg h5,if_pos (show((0:Int)=0)from rfl)];refine z05 (by simpa using h5) (z8j 0 rfl ?_);refine z0j (zu5 4 rfl hk ?_);refine z03 [0,0,0,0,0,0,0,0,0,0,0] fun q hq=>⟨rfl,?_⟩;exact z1r (V:=V.wIno _) (y:=y) (hy.wM _ y.x rfl) hd hq
end
end Go.Moat
