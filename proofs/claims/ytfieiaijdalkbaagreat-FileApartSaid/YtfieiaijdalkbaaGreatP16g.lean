/- Layer 15: what a volume is, in memory. -/
import Derived.Test.YtfieiaijdalkbaaGreatP16d
namespace Go.Mini
def RO{α:Type}(m:M α):Prop:=∀h a h',m h=some (a,h')→h'=h
theorem z5g{α:Type}(a:α):RO (ret a):=fun h b h' e=>by cases e;rfl
theorem zf7{α:Type}:RO (z0h:M α):=fun h b h' e=>by cases e
theorem z66{α γ:Type}{m:M α}{f:α→M γ}(hm:RO m)(hf:∀a,RO (f a)):RO (bd m f):=by
 intro h b h' e;unfold bd at e;cases hx:m h with
 | none=>rw[hx]at e;cases e
 | some r=>
  obtain⟨a,h1⟩:=r;rw[hx]at e;have:=hm h a h1 hx
  subst this;exact hf a _ b h' e
theorem zsi(p:Option MA):RO (ldc p):=by
 intro h a h' e;unfold ldc at e;repeat (split at e<;>first | (cases e;done) | skip)
 cases e;rfl
theorem zi1{α:Type}(o:Option α):RO (z0o o):=by
 intro h a h' e;unfold z0o at e;split at e<;>cases e;rfl
theorem zea(p:Option MA):RO (nonNil p):=by cases p<;>first | exact zf7 | exact z5g _
theorem zi2(p:Option MA)(n:Nat):RO (fld p n):=by cases p<;>first | exact zf7 | exact z5g _
theorem z18m(e:Nat)(s:Sl)(i:Int):RO (idx e s i):=by
 unfold idx;split
 ·split
  ·exact z5g _
  ·exact zf7
 ·exact zf7
theorem z104(k:IntKind)(p:Option MA):RO (ldI k p):=z66 (zsi p) fun _=>zi1 _
theorem z18n(p:Option MA):RO (ldM p):=z66 (zsi p) fun _=>zi1 _
theorem z105(e:Nat)(p:Option MA):RO (ldL e p):=z66 (zsi p) fun _=>zi1 _
theorem z106(r:Option Nat):RO (z85 r):=by
 intro h a h' e;unfold z85 at e;split at e
 ·cases e;rfl
 ·split at e<;>cases e;rfl
theorem z107(r:Option Nat):RO (mapLen r):=z66 (z106 r) fun _=>z5g _
theorem zaj{α:Type}{m:M α}(k:RO m):frz m=m:=by
 funext h;unfold frz;cases hx:m h with
 | none=>rfl
 | some r=>
  obtain⟨a,h'⟩:=r;have:=k h a h' hx
  subst this;dsimp only;rw[(zg2 _ _).2 (z4d.refl _)];rfl
theorem z13q{α:Type}{f:Nat→M α}(k:∀b,RO (f b)):RO (bd (z5b 0) f):=fun h a h' e=>k h.size h a h' e
section
variable{α:Type}
def z40:List (Int×α)→Int→Option α
 | [],_=>none
 | e::r,k=>if k=e.1 then some e.2 else z40 r k
def z6n:List (Int×α)→Int→α→List (Int×α)
 | [],k,v=>[(k,v)]
 | e::r,k,v=>if k=e.1 then(k,v)::r else e::z6n r k v
theorem zkq(f:Int→α→MV):∀(L:List (Int×α))(k:Int),z6q (L.map fun e=>(e.1,f e.1 e.2)) k=(z40 L k).map (f k)
 | [],_=>rfl
 | e::r,k=>by
  simp only[List.map_cons,z6q,z40];split
  ·rename_i h;rw[h];rfl
  ·exact zkq f r k
theorem zsj(f:Int→α→MV)(v:α):∀(L:List (Int×α))(k:Int),z6r (L.map fun e=>(e.1,f e.1 e.2)) k (f k v)=(z6n L k v).map fun e=>(e.1,f e.1 e.2)
 | [],_=>rfl
 | e::r,k=>by
  simp only[List.map_cons,z6r,z6n];split
  ·rfl
  ·rw[zsj f v r k];rfl
theorem zsk{γ:Type}(f:α→γ)(v:α):∀(L:List (Int×α))(k:Int),(z6n L k v).map (fun e=>(e.1,f e.2))=z6n (L.map fun e=>(e.1,f e.2)) k (f v)
 | [],_=>rfl
 | e::r,k=>by
  simp only[List.map_cons,z6n];split
  ·rfl
  ·rw[List.map_cons,zsk f v r k]
theorem zkr{γ:Type}(f:α→γ):∀(L:List (Int×α))(k:Int),z40 (L.map fun e=>(e.1,f e.2)) k=(z40 L k).map f
 | [],_=>rfl
 | e::r,k=>by
  simp only[List.map_cons,z40];split
  ·rfl
  ·exact zkr f r k
theorem zsl{v:α}:∀{L:List (Int×α)}{k:Int}{e:Int×α},e∈z6n L k v→e=(k,v)∨e∈L
 | [],k,e,h=>by simpa[z6n]using h
 | x::r,k,e,h=>by
  unfold z6n at h;split at h
  ·rcases List.mem_cons.1 h with h | h
   ·exact .inl h
   ·exact .inr (List.mem_cons_of_mem _ h)
  ·rcases List.mem_cons.1 h with h | h
   ·exact .inr (by rw[h];simp)
   ·rcases zsl h with h | h
    ·exact .inl h
    ·exact .inr (List.mem_cons_of_mem _ h)
theorem zks(v:α):∀(L:List (Int×α))(k k':Int),z40 (z6n L k v) k'=if k'=k then some v else z40 L k'
 | [],k,k'=>by simp[z6n,z40]
 | e::r,k,k'=>by
  have ih:=zks v r k k';unfold z6n;by_cases h:k=e.1
  ·rw[if_pos h];simp only[z40,←h];split<;>rfl
  ·rw[if_neg h];simp only[z40,ih];by_cases h2:k'=e.1
   ·rw[if_pos h2,if_pos h2,if_neg (fun c:k'=k=>h (c.symm.trans h2))]
   ·rw[if_neg h2,if_neg h2]
theorem zdn{L:List (Int×α)}{k:Int}{v:α}(h:z40 L k=some v):(k,v)∈L:=by
 induction L with
 | nil=>cases h
 | cons e r ih=>
  unfold z40 at h;split at h
  ·rename_i hk;cases h;rw[hk];exact List.mem_cons_self
  ·exact List.mem_cons_of_mem _ (ih h)
end
end Go.Mini
namespace Go.Moat
open Go.Mini
theorem zsm{N:Nat}(d:Option MA):RO (F_02 N d):=by
 unfold F_02;split
 ·exact z5g _
 ·exact z66 (zea _) fun _=>z66 (zi2 _ _) fun _=>z66 (z105 _ _) fun _=>z5g _
def z1x(P:List (Sl×List UInt8)):HA:=z00 (P.map fun x=>z06 x.1 1 (bytesOf x.2))
theorem zp8{P:List (Sl×List UInt8)}{s:Sl}{bs:List UInt8}{q:PH}{l:List HA}(h:z00 (z06 s 1 (bytesOf bs)::z1x P::l) q):z00 (z1x ((s,bs)::P)::l) q:=by
 have:z00 (z1x ((s,bs)::P)::l)=z00 (z06 s 1 (bytesOf bs)::z1x P::l):=by
  show z17 (z17 _ _) _=z17 _ (z17 _ _);rw[z4e];rfl
 rw[this];exact h
theorem zb9{P:List (Sl×List UInt8)}{s:Sl}{bs:List UInt8}(h:(s,bs)∈P)(hl:s.len=bs.length):RdC (z1x P) s 1 (bytesOf bs):=by
 induction P with
 | nil=>cases h
 | cons x r ih=>
  have e:z1x (x::r)=z17 (z06 x.1 1 (bytesOf x.2)) (z1x r):=rfl;rw[e];rcases List.mem_cons.1 h with h | h
  ·subst h;exact(z0j (by rw[z0c];dsimp only;omega)).star_l
  ·exact(ih h).star_r
structure DV where
 s:Sl
 b:List UInt8
 t:Nat
def DV.f(x:DV):List UInt8×Nat:=(x.b,x.t)
def dvC(g:Geo)(k:Int)(x:DV):MV :=.agg [.int .i64 (g.blk+k),.sl x.s.p x.s.len 1,.int .u16 x.t]
def dkv(g:Geo)(L:List (Int×DV)):List (Int×MV):=L.map fun e=>(e.1,dvC g e.1 e.2)
structure NowS where
 m:MetaS
 dirty:List (Int×(List UInt8×Nat))
structure VolS where
 n:NowS
 disk:DskS
 seq:Nat
 safe:List (List UInt8)
 before:Option NowS
 dead:Bool
structure VC where
 rows:Sl
 own:Sl
 used:Sl
 ino:Sl
 mp:Nat
 d:Nat
 j:Nat
 safe:Sl
 bp:Option MA
 dead:Bool
def z31(g:Geo)(x:VC):List MV:=[.sl x.rows.p x.rows.len 2,.sl x.own.p x.own.len 1,.sl x.used.p x.used.len 1,.sl x.ino.p x.ino.len 14,.map (some x.mp),.ptr (some ⟨x.d,0⟩),
 .int .i64 g.J,.int .i64 g.I,.int .i64 g.G,.int .i64 g.P,.int .i64 1,.int .i64 g.lab,.int .i64 (2+g.J:Nat),.int .i64 (3+g.J:Nat),.int .i64 (4+g.J:Nat),.int .i64 g.blk,.int .i64 g.all,
 .ptr (some ⟨x.j,0⟩),.sl x.safe.p x.safe.len 1,.ptr x.bp,.bool x.dead]
structure DOk(P:List (Sl×List UInt8))(L:List (Int×DV)):Prop where
 mem:∀e∈L,(e.2.s,e.2.b)∈P
 len:∀e∈L,e.2.s.len=64∧e.2.b.length=64
 tag:∀e∈L,e.2.t<65536
def forget(L:List (Int×DV)):List (Int×(List UInt8×Nat)):=L.map fun e=>(e.1,e.2.f)
structure NC where
 rows:Sl
 own:Sl
 used:Sl
 ino:Sl
 mp:Nat
def nowC(x:NC):List MV:=[.sl x.rows.p x.rows.len 2,.sl x.own.p x.own.len 1,.sl x.used.p x.used.len 1,.sl x.ino.p x.ino.len 14,.map (some x.mp)]
def zgb(g:Geo)(x:NC)(n:NowS)(L:List (Int×DV)):List HA:=[z06 x.rows 2 (z1s n.m.rows),z06 x.own 1 (z18 n.m.own),z06 x.used 1 (bytesOf n.m.used),z06 x.ino 14 (z2j n.m.ino),z3u .i64 x.mp (dkv g L)]
def zi3(g:Geo)(P:List (Sl×List UInt8)):Option MA→Option NowS→HA
 | none,none=>emp
 | some a,some n=>exA fun x:NC×List (Int×DV)=>pu (a.off=0∧forget x.2=n.dirty∧DOk P x.2) (z00 (pts a.blk (.cells (nowC x.1) false)::zgb g x.1 n x.2))
 | _,_=>fun _=>False
theorem DOk.mono{P:List (Sl×List UInt8)}{L:List (Int×DV)}(h:DOk P L)(x:Sl×List UInt8):DOk (x::P) L:=⟨fun e he=>List.mem_cons_of_mem _ (h.mem e he),h.len,h.tag⟩
theorem zi3.mono{g:Geo}{P:List (Sl×List UInt8)}{bp:Option MA}{b:Option NowS}(x:Sl×List UInt8):∀q,zi3 g P bp b q→zi3 g (x::P) bp b q:=by
 intro q h;cases bp<;>cases b<;>first | exact h | skip
 obtain⟨y,⟨h1,h2,h3⟩,h4⟩:=h;exact⟨y,⟨h1,h2,h3.mono x⟩,h4⟩
def z37(d:Nat)(g:Geo)(seq:Nat):List MV:=[.ptr (some ⟨d,0⟩),.int .i64 1,.int .i64 g.J,.int .u64 seq]
structure VH where
 x:VC
 L:List (Int×DV)
 P:List (Sl×List UInt8)
 sf:List (Sl×List UInt8)
structure VHok(V:VolS)(y:VH):Prop where
 dirty:forget y.L=V.n.dirty
 dok:DOk y.P y.L
 safe:y.sf.map (·.2)=V.safe
 smem:∀e∈y.sf,e∈y.P∧e.1.len=64∧e.2.length=64
 dead:y.x.dead=V.dead
def volL(v d:Nat)(g:Geo)(V:VolS)(y:VH):List HA:=[pts v (.cells (z31 g y.x) false),z06 y.x.rows 2 (z1s V.n.m.rows),z06 y.x.own 1 (z18 V.n.m.own),z06 y.x.used 1 (bytesOf V.n.m.used),z06 y.x.ino 14 (z2j V.n.m.ino),z3u .i64 y.x.mp (dkv g y.L),
 z1x y.P,z1d d V.disk,pts y.x.j (.cells (z37 d g V.seq) false),z06 y.x.safe 1 (z3r y.sf),zi3 g y.P y.x.bp V.before]
def z0l(v d:Nat)(g:Geo)(V:VolS):HA:=exA fun y:VH=>pu (VHok V y∧y.x.d=d) (z00 (volL v d g V y))
section
variable{N:Nat}{β:Type}{l:List HA}{S:β→HA}{v d:Nat}{g:Geo}{V:VolS}{m:M β}
theorem z2m(n:Nat)(hl:l[n]? = some (z0l v d g V))(k:∀y,VHok V y→y.x.d=d→Tri (z00 (cat (volL v d g V y) (del l n))) m S):Tri (z00 l) m S:=
 zgh (γ:=VH) (φ:=fun y=>VHok V y∧y.x.d=d) (L:=fun y=>volL v d g V y) n hl (fun _ ⟨x,h1,h2⟩=>⟨x,h1,h2⟩) fun x h=>k x h.1 h.2
theorem z1r{y:VH}{q:PH}(hy:VHok V y)(hd:y.x.d=d)(h:z00 (volL v d g V y) q):z00 [z0l v d g V] q:=by
 rw[z2z];exact⟨y,⟨hy,hd⟩,h⟩
theorem vol_fold'{y:VH}{q:PH}{l:List HA}(hy:VHok V y)(hd:y.x.d=d)(h:z00 (cat (volL v d g V y) l) q):z00 (z0l v d g V::l) q:=
 zgg (volL v d g V y) (fun q h=>⟨y,⟨hy,hd⟩,h⟩) h
theorem z9x(n:Nat){x:VC}(hl:l[n]? = some (pts v (.cells (z31 g x) false))){f:Sl→M β}(kk:Tri (z00 l) (f x.rows) S):Tri (z00 l) (bd (nonNil (some ⟨v,0⟩)) fun q=>bd (fld q 0) fun q=>bd (fld q 0) fun q=>bd (fld q 0) fun q=>bd (ldL 2 q) f) S:=
 z0u (z0b (z0b (z0b (z75 n hl rfl kk))))
theorem zba(n:Nat){x:VC}(hl:l[n]? = some (pts v (.cells (z31 g x) false))){f:Sl→M β}(kk:Tri (z00 l) (f x.own) S):Tri (z00 l) (bd (nonNil (some ⟨v,0⟩)) fun q=>bd (fld q 0) fun q=>bd (fld q 0) fun q=>bd (fld q 1) fun q=>bd (ldL 1 q) f) S:=
 z0u (z0b (z0b (z0b (z75 n hl rfl kk))))
theorem zce(n:Nat){x:VC}(hl:l[n]? = some (pts v (.cells (z31 g x) false))){f:Sl→M β}(kk:Tri (z00 l) (f x.used) S):Tri (z00 l) (bd (nonNil (some ⟨v,0⟩)) fun q=>bd (fld q 0) fun q=>bd (fld q 0) fun q=>bd (fld q 2) fun q=>bd (ldL 1 q) f) S:=
 z0u (z0b (z0b (z0b (z75 n hl rfl kk))))
theorem z6o(n:Nat){x:VC}(hl:l[n]? = some (pts v (.cells (z31 g x) false))){f:Sl→M β}(kk:Tri (z00 l) (f x.ino) S):Tri (z00 l) (bd (nonNil (some ⟨v,0⟩)) fun q=>bd (fld q 0) fun q=>bd (fld q 0) fun q=>bd (fld q 3) fun q=>bd (ldL 14 q) f) S:=
 z0u (z0b (z0b (z0b (z75 n hl rfl kk))))
theorem zkt(n:Nat){x:VC}(hl:l[n]? = some (pts v (.cells (z31 g x) false))){f:Option Nat→M β}(kk:Tri (z00 l) (f (some x.mp)) S):Tri (z00 l) (bd (nonNil (some ⟨v,0⟩)) fun q=>bd (fld q 0) fun q=>bd (fld q 4) fun q=>bd (ldM q) f) S:=
 z0u (z0b (z0b (z38 n hl (fun _ hg=>zmm hg rfl) kk)))
theorem z18o(n:Nat){x:VC}(hl:l[n]? = some (pts v (.cells (z31 g x) false))){f:Int→M β}(kk:Tri (z00 l) (f g.G) S):Tri (z00 l) (bd (nonNil (some ⟨v,0⟩)) fun q=>bd (fld q 6) fun q=>bd (fld q 2) fun q=>bd (ldI .i64 q) f) S:=
 z0u (z0b (z0b (tri_ldI n hl rfl kk)))
theorem z8a(n:Nat){x:VC}(hl:l[n]? = some (pts v (.cells (z31 g x) false))){f:Int→M β}(kk:Tri (z00 l) (f g.P) S):Tri (z00 l) (bd (nonNil (some ⟨v,0⟩)) fun q=>bd (fld q 6) fun q=>bd (fld q 3) fun q=>bd (ldI .i64 q) f) S:=
 z0u (z0b (z0b (tri_ldI n hl rfl kk)))
theorem zsn(n:Nat){x:VC}(hl:l[n]? = some (pts v (.cells (z31 g x) false))){f:Int→M β}(kk:Tri (z00 l) (f g.blk) S):Tri (z00 l) (bd (nonNil (some ⟨v,0⟩)) fun q=>bd (fld q 10) fun q=>bd (fld q 5) fun q=>bd (ldI .i64 q) f) S:=
 z0u (z0b (z0b (tri_ldI n hl rfl kk)))
theorem zi4(n:Nat){x:VC}(hl:l[n]? = some (pts v (.cells (z31 g x) false))){s:Sl}{f:Unit→M β}(kk:Tri (z00 (upd l n (pts v (.cells (z31 g {x with rows:=s}) false)))) (f ()) S):Tri (z00 l) (bd (nonNil (some ⟨v,0⟩)) fun q=>bd (fld q 0) fun q=>bd (fld q 0) fun q=>bd (fld q 0) fun q=>bd (stc q (.sl s.p s.len 2)) f) S:=
 z0u (z0b (z0b (z0b (tri_stc n hl (by simp[z31]) rfl kk))))
theorem z108(n:Nat){x:VC}(hl:l[n]? = some (pts v (.cells (z31 g x) false))){s:Sl}{f:Unit→M β}(kk:Tri (z00 (upd l n (pts v (.cells (z31 g {x with used:=s}) false)))) (f ()) S):Tri (z00 l) (bd (nonNil (some ⟨v,0⟩)) fun q=>bd (fld q 0) fun q=>bd (fld q 0) fun q=>bd (fld q 2) fun q=>bd (stc q (.sl s.p s.len 1)) f) S:=
 z0u (z0b (z0b (z0b (tri_stc n hl (by simp[z31]) rfl kk))))
def VolS.wM(V:VolS)(m:MetaS):VolS:={V with n:={V.n with m:=m}}
def VolS.wRows(V:VolS)(r:List Row):VolS:=V.wM {V.n.m with rows:=r}
def VolS.wOwn(V:VolS)(r:List Nat):VolS:=V.wM {V.n.m with own:=r}
def VolS.wUsed(V:VolS)(r:List UInt8):VolS:=V.wM {V.n.m with used:=r}
def VolS.wIno(V:VolS)(r:List Ino):VolS:=V.wM {V.n.m with ino:=r}
theorem VHok.wM{y:VH}(h:VHok V y)(mm:MetaS)(x:VC)(hx:x.dead=y.x.dead):VHok (V.wM mm) {y with x:=x}:=⟨h.1,h.2,h.3,h.4,hx.trans h.5⟩
theorem zi5{i:Nat}(hu:V.n.m.used.length=64)(hi:i<512)(on:Bool):Tri (z00 [z0l v d g V]) (F_0w N (some ⟨v,0⟩) (i:Int) on) fun _=>z00 [z0l v d g (V.wUsed (z21 V.n.m.used i on))]:=by
 unfold F_0w;refine z2m 0 rfl fun y hy hd=>?_;dsimp only[sel,rem,nth,del,cat,upd,volL];refine zce 0 rfl ?_;refine z0a 3 rfl fun h3=>?_;refine z02 [3] (z10v (z0j h3) (by omega) (by omega) on) fun r=>z04 fun hr=>z01 ?_;dsimp only[sel,rem,nth,del,cat,upd];refine z108 2 rfl ?_;dsimp only[sel,rem,nth,del,cat,upd] ;refine z03 [2,2,2,0,1,1,1,1,1,1,1] fun q hq=>?_;exact z1r (V:=V.wUsed _) (y:={y with x:={y.x with used:=r.1}}) (hy.wM _ _ rfl) hd hq
theorem zud{k:Nat}(hu:V.n.m.used.length=64)(hg:g.ok)(hk:k<g.G)(hN:5000<N):Tri (z00 [z0l v d g V]) (F_0t N (some ⟨v,0⟩) (k:Int)) fun r=>pu (r=(z6a V.n.m.used (k * g.P) ((k+1) * g.P):Nat)) (z00 [z0l v d g V]):=by
 have hgp:=hg.gp;have hpp:=hg.pp;have hb:(k+1) * g.P≤g.G * g.P:=Nat.mul_le_mul_right _ hk;have hb2:k * g.P≤(k+1) * g.P:=Nat.mul_le_mul_right _ (by omega);unfold F_0t;refine z2m 0 rfl fun y hy hd=>?_;dsimp only[sel,rem,nth,del,cat,upd,volL];refine zce 0 rfl (z8a 0 rfl (z8a 0 rfl ?_));have e1:(k:Int) * (g.P:Int)=((k * g.P:Nat):Int):=by simp
 have e2:wr .i64 ((k:Int)+1)=((k+1:Nat):Int):=by rw[z0d (by have:=hg.g2;omega) (by have:=hg.g2;omega)];simp
 have e3:((k+1:Nat):Int) * (g.P:Int)=(((k+1) * g.P:Nat):Int):=by simp
 rw[e1,e2,e3,z0d (by omega) (by omega),z0d (by omega) (by omega)];refine z0a 3 rfl fun h3=>?_;refine z02 [3] (zgo (z0j h3) (by omega) hb2 (by omega) hN) fun r=>z04 fun hr=>z01 ?_;dsimp only[sel,rem,nth,del,cat,upd];refine z03 [1,1,1,0,0,0,0,0,0,0,0] fun q hq=>⟨hr,z1r hy hd hq⟩
end
end Go.Moat

/- Layer 15: the volume's functions that leave the disk alone. -/
namespace Go.Moat
open Go.Mini
def MetaS.isAt(g:Geo)(m:MetaS)(row:Nat)(i:Nat):Bool:=decide (m.own[i / g.P]? = some (row+1)) && !z0v m.used i
def MetaS.atB(g:Geo)(m:MetaS)(a:Nat):Option Nat:=match m.rows.findIdx? (z3w a)with
 | some r=>(List.range' 0 g.B).find? (m.isAt g r)
 | none=>none
def z3s(o:Nat):Bool:=decide (o=0)
def MetaS.alloc(g:Geo)(m:MetaS)(a:Nat):(Int×Int)×MetaS:=match m.atB g a with
 | some b=>(((b:Int),0),{m with used:=z21 m.used b true})
 | none=>match m.own.findIdx? z3s with
  | none=>((0,5),m)
  | some k=>if z4j m.rows a=0 then((((k * g.P:Nat):Int),0),{m with rows:=z9j m.rows a,own:=m.own.set k (z4a m.rows a+1),used:=z21 m.used (k * g.P) true})else((0,z4j m.rows a),m)
def MetaS.usedE(g:Geo)(m:MetaS)(b:Int):Int:=if 0≤b∧b<g.B then(if z0v m.used b.toNat then 0 else 2)else 1
def MetaS.ownT(g:Geo)(m:MetaS)(b:Nat):Nat:=match m.own[b / g.P]?.getD 0 with
 | 0=>0
 | o+1=>(z1c m.rows o).1
def MetaS.free(g:Geo)(m:MetaS)(b:Nat):MetaS:=
 if z6a (z21 m.used b false) (b / g.P * g.P) ((b / g.P+1) * g.P)=0 then {m with used:=z21 m.used b false,rows:=zap m.rows (m.own[b / g.P]?.getD 0 - 1),own:=m.own.set (b / g.P) 0}else {m with used:=z21 m.used b false}
def za5(n:Ino):Bool:=decide (n.k=0)
def z8t(k r:Nat):Ino:=⟨k,r,⟨List.replicate 12 0,by simp⟩⟩
def MetaS.make(m:MetaS)(kind a:Nat):(Int×Int)×MetaS:=
 if kind=1∨kind=2 then(match m.ino.findIdx? za5 with
  | none=>((0,5),m)
  | some i=>if z4j m.rows a=0 then(((i:Int),0),{m with rows:=z9j m.rows a,ino:=m.ino.set i (z8t kind (z4a m.rows a))})else((0,z4j m.rows a),m))
 else((0,1),m)
def z14(l:List Ino)(i:Nat):Ino:=l[i]?.getD Ino.z
def MetaS.hasE(m:MetaS)(i:Int):Int:=if 0≤i∧i<m.ino.length then(if(z14 m.ino i.toNat).k=0 then 2 else 0)else 1
def MetaS.unmake(m:MetaS)(i:Nat):MetaS:={m with rows:=zap m.rows (z14 m.ino i).r,ino:=m.ino.set i Ino.z}
def MetaS.setE(m:MetaS)(i:Int)(n:Ino):Int:=if m.hasE i=1 then 1 else if n.ok=false∨n.k=0 then 1 else if m.hasE i≠0 then 2 else if n.k≠(z14 m.ino i.toNat).k∨n.r≠(z14 m.ino i.toNat).r then 1 else 0
structure RefOk(m:MetaS):Prop where
 own:∀o∈m.own,0<o→0<(z1c m.rows (o - 1)).2
 ino:∀n∈m.ino,n.k≠0→0<(z1c m.rows n.r).2
section
variable{N:Nat}{β:Type}{l:List HA}{S:β→HA}{v d:Nat}{g:Geo}{V:VolS}{m:M β}
theorem zk8(hg:g.ok)(i:Int):Tri (z00 [z0l v d g V]) (F_1o N (some ⟨v,0⟩) i) fun r=>pu (r=decide (0≤i∧i<g.B)) (z00 [z0l v d g V]):=by
 have hgp:=hg.gp;unfold F_1o;refine z02 [0] (Q:=fun r=>pu (r=decide (0≤i∧i<g.B)) (z00 [z0l v d g V])) ?_ fun r=>z04 fun h=>z01 (z03 [0] fun q hq=>⟨h,hq⟩);by_cases h:0≤i
 ·refine z07 (by simpa using h) ?_;refine z2m 0 rfl fun y hy hd=>?_;dsimp only[sel,rem,nth,del,cat,upd,volL];refine z18o 0 rfl (z8a 0 rfl ?_);have e1:(g.G:Int) * (g.P:Int)=((g.G * g.P:Nat):Int):=by simp
  rw[e1,z0d (by omega) (by omega)];refine z03 [0,0,0,0,0,0,0,0,0,0,0] fun q hq=>⟨?_,z1r hy hd hq⟩;simp[h,Geo.B]
 ·refine z05 (by simpa using h) (z03 [0] fun q hq=>⟨by simp[h],hq⟩)
theorem zmy(hg:g.ok)(hu:V.n.m.used.length=64)(i:Int):Tri (z00 [z0l v d g V]) (F_1q N (some ⟨v,0⟩) i) fun r=>pu (r=V.n.m.usedE g i) (z00 [z0l v d g V]):=by
 unfold F_1q;refine z05 (by simp) ?_;refine z02 [0] (zk8 hg i) fun r=>z04 fun h=>z01 ?_;dsimp only[sel,rem,nth,del,cat,upd];unfold MetaS.usedE;by_cases hi:0≤i∧i<g.B
 ·rw[if_pos hi];refine z05 (by simp[h,hi]) ?_;refine z2m 0 rfl fun y hy hd=>?_;dsimp only[sel,rem,nth,del,cat,upd,volL];refine zce 0 rfl ?_;refine z0a 3 rfl fun h3=>?_;refine z02 [3] (zsx (z0j h3) (by omega) i) fun r=>z04 fun hr=>z01 ?_;dsimp only[sel,rem,nth,del,cat,upd];have e:decide (0≤i)=true:=by simp[hi.1]
  rw[e,Bool.true_and]at hr;subst hr;cases hb:z0v V.n.m.used i.toNat
  ·refine z07 rfl (z03 [1,1,1,0,0,0,0,0,0,0,0] fun q hq=>⟨by simp,z1r hy hd hq⟩)
  ·refine z05 (by simp) (z03 [1,1,1,0,0,0,0,0,0,0,0] fun q hq=>⟨by simp,z1r hy hd hq⟩)
 ·rw[if_neg hi];refine z07 (by simp[h];omega) (z03 [0] fun q hq=>⟨rfl,hq⟩)
theorem z149(v':Option MA)(b:Int):RO (F_0x N v' b):=by
 unfold F_0x;repeat' first
  | exact z5g _
  | exact zf7
  | exact zea _
  | exact zi2 _ _
  | exact z105 _ _
  | exact z104 _ _
  | exact z18m _ _ _
  | (refine z66 ?_ fun _=>?_)
  | split
theorem zxk{y:VH}{T:List HA}(hg:g.ok)(ok:MetaOk g V.n.m){b:Nat}(hb:b<g.B) :
  Tri (z00 [pts v (.cells (z31 g y.x) false),z06 y.x.rows 2 (z1s V.n.m.rows),z06 y.x.own 1 (z18 V.n.m.own)]) (F_0x N (some ⟨v,0⟩) (b:Int)) fun r=>pu (r=(V.n.m.ownT g b:Nat)) (z00 [pts v (.cells (z31 g y.x) false),z06 y.x.rows 2 (z1s V.n.m.rows),z06 y.x.own 1 (z18 V.n.m.own)]):=by
 have hp1:=hg.p1;have hgp:=hg.gp;have hk:b / g.P<g.G:=by
  rw[Nat.div_lt_iff_lt_mul (by omega)];exact hb
 have hkl:b / g.P<V.n.m.own.length:=by rw[ok.ownl];exact hk
 unfold F_0x;refine zba 0 rfl (z8a 0 rfl ?_);rw[if_neg (by omega)];have e1:(b:Int).tdiv (g.P:Int)=((b / g.P:Nat):Int):=rfl;have hb5:b<512:=by unfold Geo.B at hb;omega
 have hb6:=Nat.div_le_self b g.P;rw[e1];unfold MetaS.ownT;generalize b / g.P=bq at hk hkl hb6;rw[z0d (by omega) (by omega)];refine z0a 2 rfl fun h2=>?_;refine tri_rI 2 rfl (z0j h2) (i:=bq) (k :=.i64) (v:=(V.n.m.own[bq]:Nat)) (by simp[z1w,hkl]) ?_;have ho:=ok.own16 _ (List.getElem_mem hkl);rw[List.getElem?_eq_getElem hkl];dsimp only[Option.getD_some];generalize V.n.m.own[bq]=o at ho;cases o with
 | zero=>exact z05 (by simp) (z03 [0,0,0] fun q hq=>⟨rfl,hq⟩)
 | succ o=>
  have hol:o<V.n.m.rows.length:=by rw[ok.rows.len];omega
  refine z07 (by simp) (z9x 0 rfl ?_);have e2:wr .i64 (((o+1:Nat):Int) - 1)=(o:Int):=by rw[z0d (by omega) (by omega)];omega
  rw[e2];refine z0a 1 rfl fun h1=>?_;rw[z0x z2b]at h1;refine z6h 1 rfl (z0j (by rw[z0x z2b];omega)) (i:=o) (o:=0) (by omega) (by omega) (v:=(V.n.m.rows[o].1:Nat)) (by rw[z5e z2b hol (by omega)];rfl) ?_;refine z03 [0,0,0] fun q hq=>⟨?_,hq⟩;simp[z1c,hol]
def NowS.write(g:Geo)(n:NowS)(b:Nat)(bs:List UInt8):NowS:={n with dirty:=z6n n.dirty b (bs,n.m.ownT g b)}
def VolS.write(g:Geo)(V:VolS)(b:Nat)(bs:List UInt8):VolS:={V with n:=V.n.write g b bs}
theorem z170(ok:MetaOk g V.n.m)(b:Nat):V.n.m.ownT g b<65536:=by
 unfold MetaS.ownT;split
 ·omega
 ·rename_i o _;unfold z1c;cases h:V.n.m.rows[o]? with
  | none=>simp
  | some r=>exact(ok.rows.rng _ (List.mem_of_getElem? h)).1
theorem zk9(hg:g.ok)(ok:MetaOk g V.n.m){b:Nat}(hb:b<g.B){s:Sl}{bs:List UInt8}(hs:s.len=64)(h64:bs.length=64) :
  Tri (z00 [z0l v d g V,z06 s 1 (bytesOf bs)]) (F_1r N (some ⟨v,0⟩) (b:Int) s) fun _=>z00 [z0l v d g (V.write g b bs)]:=by
 have hall:=hg.all_le;have:g.all=g.blk+g.B:=rfl
 unfold F_1r;refine z2m 0 rfl fun y hy hd=>?_;dsimp only[sel,rem,nth,del,cat,upd,volL];refine zkt 0 rfl (zsn 0 rfl ?_);rw[zaj (z149 _ _)];refine z02 [0,0,0] (zxk (T:=[]) hg ok hb) fun r=>z04 fun hr=>z01 ?_;dsimp only[sel,rem,nth,del,cat,upd];subst hr;have e1:(g.blk:Int)+(b:Int)=((g.blk+b:Nat):Int):=by simp
 rw[e1,z0d (by omega) (by omega)];refine zo3 5 rfl _ _ ?_;dsimp only[sel,rem,nth,del,cat,upd];refine z03 [0,0,0,0,0,0,5,0,0,0,0,0] fun q hq=>?_;let x:DV:=⟨s,bs,V.n.m.ownT g b⟩
 have e2:z6r (dkv g y.L) (b:Int) (.agg [.int .i64 ((g.blk+b:Nat):Int),.sl s.p s.len 1,.int .u16 (V.n.m.ownT g b:Nat)])=dkv g (z6n y.L b x):=by
  have:=zsj (fun k z=>dvC g k z) x y.L (b:Int)
  rw[dkv,dkv,←this];congr 1
 rw[e2]at hq;dsimp only[sel,rem,nth,del,cat,upd]at hq;have hmem:∀e∈z6n y.L (b:Int) x,e=((b:Int),x)∨e∈y.L:=fun e he=>zsl he;refine z1r (y:={y with L:=z6n y.L b x,P:=(s,bs)::y.P}) ⟨?_,⟨?_,?_,?_⟩,hy.safe,fun e he=>?_,hy.dead⟩ hd ?_
 ·show forget (z6n y.L b x)=z6n V.n.dirty b (bs,V.n.m.ownT g b);rw[←hy.dirty];exact zsk DV.f x y.L (b:Int)
 ·intro e he;rcases hmem e he with rfl | he
  ·exact List.mem_cons_self
  ·exact List.mem_cons_of_mem _ (hy.dok.mem e he)
 ·intro e he;rcases hmem e he with rfl | he
  ·exact⟨hs,h64⟩
  ·exact hy.dok.len e he
 ·intro e he;rcases hmem e he with rfl | he
  ·exact z170 ok b
  ·exact hy.dok.tag e he
 ·have:=hy.smem e he
  exact⟨List.mem_cons_of_mem _ this.1,this.2⟩
 ·refine z1f (fun q=>z1f (fun q=>z1f (fun q=>z1f (fun q=>z1f (fun q=>z1f (fun q hq=>zp8 ?_))))) ) hq;exact z1f (fun q=>z1f (fun q=>z1f (fun q=>z1f (fun q=>z1f (fun q=>z4i (zi3.mono _)))))) hq
theorem zpi(ok:RowsOk V.n.m.rows){i:Nat}(hi:i<16)(h0:0<(z1c V.n.m.rows i).2)(hN:100<N):Tri (z00 [z0l v d g V]) (F_1v N (some ⟨v,0⟩) (i:Int)) fun _=>z00 [z0l v d g (V.wRows (zap V.n.m.rows i))]:=by
 unfold F_1v;refine z2m 0 rfl fun y hy hd=>?_;dsimp only[sel,rem,nth,del,cat,upd,volL];refine z9x 0 rfl ?_;refine z0a 1 rfl fun h1=>?_;refine z02 [1] (zsz ok (z0j h1) hi h0 hN) fun r=>z04 fun hr=>z01 ?_;dsimp only[sel,rem,nth,del,cat,upd];refine zi4 2 rfl ?_;dsimp only[sel,rem,nth,del,cat,upd];refine z03 [2,0,1,1,1,1,1,1,1,1,1] fun q hq=>?_;exact z1r (V:=V.wRows _) (y:={y with x:={y.x with rows:=r.1}}) (hy.wM _ _ rfl) hd hq
theorem zdw(n:Nat){s:Sl}{o:List Nat}(hl:l[n]? = some (z06 s 1 (z18 o))){k x:Nat}(hk:k<o.length){f:Unit→M β}(kk:Tri (z00 (upd l n (z06 s 1 (z18 (o.set k x))))) (f ()) S):Tri (z00 l) (bd (idx 1 s (k:Int)) fun q=>bd (stc q (.int .i64 x)) f) S:=by
 refine za2 n hl (fun h1 h2=>?_) fun b ln h1 h2=>?_
 ·have:=congrArg List.length h2
  rw[z1k,List.length_nil]at this;omega
 ·subst h1;rw[z1k]at h2;refine z2n (by omega) (tri_stc n (z5v l n _ hl) (by rw[z1k];omega) rfl ?_);rw[z76,Nat.zero_add,Nat.mul_one];have e:(z18 o).set k (.int .i64 x)=z18 (o.set k x):=by
   unfold z18 z1w;rw[List.map_set,List.map_set]
  rw[e];refine kk.pre fun q hq=>?_;have:=z5c n (l:=upd l n (pts b (.cells (z18 (o.set k x)) false))) (B:=z06 ⟨some ⟨b,0⟩,ln⟩ 1 (z18 (o.set k x))) (z5v l n _ hl) (fun q h =>.mk (by rw[z1k,List.length_set];exact h2) h) q hq
  rwa [z76]at this
theorem zky(n:Nat){s:Sl}{o:List Ino}(hl:l[n]? = some (z06 s 14 (z2j o))){k:Nat}{x:Ino}(hk:k<o.length){f:Unit→M β}(kk:Tri (z00 (upd l n (z06 s 14 (z2j (o.set k x))))) (f ()) S):Tri (z00 l) (bd (idx 14 s (k:Int)) fun q=>bd (stn 14 q (z16 x)) f) S:=by
 have hb:k * 14+14≤o.length * 14:=z3p hk;refine za2 n hl (fun h1 h2=>?_) fun b ln h1 h2=>?_
 ·have:=congrArg List.length h2
  rw[z0x z0n,List.length_nil]at this;omega
 ·subst h1;rw[z0x z0n]at h2;refine z2n (by omega) (z5u n (z5v l n _ hl) (z0n x) (by rw[z0x z0n,z0n];omega) (z9y x) ?_);rw[z76,Nat.zero_add,zsw z0n hk];refine kk.pre fun q hq=>?_;have:=z5c n (l:=upd l n (pts b (.cells (z2j (o.set k x)) false))) (B:=z06 ⟨some ⟨b,0⟩,ln⟩ 14 (z2j (o.set k x))) (z5v l n _ hl) (fun q h =>.mk (by rw[z0x z0n,List.length_set];exact h2) h) q hq
  rwa [z76]at this
theorem zuh{T:HA}{s:Sl}{o:List Nat}(hr:RdC T s 1 (z18 o))(hl:o.length≤64)(hN:100<N):Tri (z00 [T]) (F_2r N s 0) fun r=>pu (r=fi z3s o) (z00 [T]):=by
 have hlen:s.len=o.length:=by
  have:=hr.1
  rw[z1k]at this;omega
 unfold F_2r;refine zdt (A:=z00 [T]) z3s o (by omega) (fun rec i hi Q k=>?_) fun rec Q k=>?_
 ·unfold F_55;refine z07 (by simp[hlen];omega) ?_;refine tri_rI 0 rfl hr (k :=.i64) (v:=(o[i]:Nat)) (by simp[z1w,hi]) ?_;rw[z0d (by omega) (by omega)];have:(decide ((0:Int)=((o[i]:Nat):Int)))=z3s o[i]:=by
   unfold z3s;congr 1;apply propext;omega
  rw[this];exact k
 ·unfold F_55;exact z05 (by simp[hlen]) k
theorem zui(hg:g.ok)(ok:MetaOk g V.n.m){a:Nat}(ha:a<65536)(hN:5000<N):Tri (z00 [z0l v d g V]) (F_2s N (some ⟨v,0⟩) (a:Int)) fun r=>pu (r=(V.n.m.alloc g a).1) (z00 [z0l v d g (V.wM (V.n.m.alloc g a).2)]):=by
 have hgp:=hg.gp;have hpp:=hg.pp;have hG:=hg.g2;have hp1:=hg.p1;have hB:g.B=g.G * g.P:=rfl;have hol:=ok.ownl;have hul:=ok.usedl;unfold F_2s;refine z05 (by simp) ?_;refine z2m 0 rfl fun y hy hd=>?_;dsimp only[sel,rem,nth,del,cat,upd,volL];refine z9x 0 rfl ?_;refine z0a 1 rfl fun h1=>z0a 2 rfl fun h2=>z0a 3 rfl fun h3=>?_;refine z02 [1] (zxh ha ok.rows (z0j h1) (by omega)) fun r8=>z04 fun hr8=>z01 ?_;dsimp only[sel,rem,nth,del,cat,upd];refine zba 1 rfl ?_;rw[z1k]at h2
 -- the groups
 have keep:VolS.wM V V.n.m=V:=rfl;have loop:∀(K k:Nat),g.G - k<K→k≤g.G→(∀r,V.n.m.rows.findIdx? (z3w a)=some r→∀i,i<k * g.P→V.n.m.isAt g r i=false) →
   Tri (z00 (volL v d g V y)) (z0e K (F_3f N (some ⟨v,0⟩) r8 y.x.own) (k:Int)) fun r=>match V.n.m.atB g a with
    | some b=>pu (r=.inr ((b:Int),0)) (z00 [z0l v d g (V.wM {V.n.m with used:=z21 V.n.m.used b true})])
    | none=>pu (r=.inl ()) (z00 (volL v d g V y)):=by
  intro K;induction K with
  | zero=>intro k h;omega
  | succ K ih=>
   intro k h hk hno;rw[z12];unfold F_3f;by_cases hkG:k<g.G
   ·refine z07 (by simp;omega) ?_;have hkl:k<V.n.m.own.length:=by omega
    have hb1:k * g.P≤(k+1) * g.P:=Nat.mul_le_mul_right _ (by omega);have hb2:(k+1) * g.P≤g.G * g.P:=Nat.mul_le_mul_right _ hkG;rw[z0d (n:=(k:Int)+1) (by omega) (by omega)];have next:(∀r,V.n.m.rows.findIdx? (z3w a)=some r→∀i,i<(k+1) * g.P→V.n.m.isAt g r i=false)→Tri (z00 (volL v d g V y)) (z0e K (F_3f N (some ⟨v,0⟩) r8 y.x.own) ((k:Int)+1)) fun r=>match V.n.m.atB g a with
      | some b=>pu (r=.inr ((b:Int),0)) (z00 [z0l v d g (V.wM {V.n.m with used:=z21 V.n.m.used b true})])
      | none=>pu (r=.inl ()) (z00 (volL v d g V y)):=fun hh=>ih (k+1) (by omega) (by omega) hh
    -- is it one of the label's?
    have hskip:(∀r,V.n.m.rows.findIdx? (z3w a)=some r→V.n.m.own[k]≠r+1)→∀r,V.n.m.rows.findIdx? (z3w a)=some r→∀i,i<(k+1) * g.P→V.n.m.isAt g r i=false:=by
     intro hne r hr i hi;by_cases hik:i<k * g.P
     ·exact hno r hr i hik
     ·have:i / g.P=k:=by
       rw[Nat.div_eq_iff (by omega)];have:(k+1) * g.P=k * g.P+g.P:=by rw[Nat.add_mul,Nat.one_mul]
       omega
      unfold MetaS.isAt;rw[this,List.getElem?_eq_getElem hkl];have:=hne r hr
      simp[this]
    cases hrow:V.n.m.rows.findIdx? (z3w a)with
    | none=>
     rw[hrow]at hr8;subst hr8;refine z02 [0,0,0,0,0,0,0,0,0,0,0] (Q:=fun r=>pu (r=.inl ()) (z00 (volL v d g V y))) ?_ fun r=>z04 fun hr=>z01 ?_
     ·refine tri_rI 2 rfl (z0j (by rw[z1k];exact h2)) (i:=k) (k :=.i64) (v:=(V.n.m.own[k]:Nat)) (by simp[z1w,hkl]) ?_;exact z07 rfl (z03 [0,0,0,0,0,0,0,0,0,0,0] fun q hq=>⟨rfl,hq⟩)
     ·subst hr;exact next (hskip fun r hr=>by rw[hrow]at hr;cases hr)
    | some r=>
     rw[hrow]at hr8;subst hr8;have hr16:r<16:=by
      have:=(List.findIdx?_eq_some_iff_getElem.1 hrow).1
      rw[ok.rows.len]at this;exact this
     by_cases hko:V.n.m.own[k]=r+1
     ·-- a bit of it
      have hfind:∀b,z6i V.n.m.used (k * g.P) ((k+1) * g.P) false=some b→V.n.m.atB g a=some b∧b<512:=by
       intro b hb;unfold z6i at hb;rw[List.find?_range'_eq_some]at hb;obtain⟨hb3,hb4,hb5⟩:=hb;obtain⟨hb6,hb7⟩:=List.mem_range'_1.1 hb4;refine⟨?_,by omega⟩;unfold MetaS.atB;rw[hrow];dsimp only;rw[List.find?_range'_eq_some];have hdiv:∀i,k * g.P≤i→i<(k+1) * g.P→i / g.P=k:=by
        intro i h1 h2;rw[Nat.div_eq_iff (by omega)];have:(k+1) * g.P=k * g.P+g.P:=by rw[Nat.add_mul,Nat.one_mul]
        omega
       have hat:∀i,k * g.P≤i→i<(k+1) * g.P→V.n.m.isAt g r i = !z0v V.n.m.used i:=by
        intro i h1 h2;unfold MetaS.isAt;rw[hdiv i h1 h2,List.getElem?_eq_getElem hkl,hko];simp
       refine⟨?_,?_,fun i h1 h2=>?_⟩
       ·rw[hat b hb6 (by omega)];simpa using hb3
       ·rw[List.mem_range'_1];omega
       ·by_cases hik:i<k * g.P
        ·rw[hno r hrow i hik];rfl
        ·rw[hat i (by omega) (by omega)];have:=hb5 i (by omega) h2
         simpa using this
      have hnone:z6i V.n.m.used (k * g.P) ((k+1) * g.P) false=none→∀r',V.n.m.rows.findIdx? (z3w a)=some r'→∀i,i<(k+1) * g.P→V.n.m.isAt g r' i=false:=by
       intro hn r' hr' i hi;by_cases hik:i<k * g.P
       ·exact hno r' hr' i hik
       ·unfold z6i at hn;rw[List.find?_eq_none]at hn;have:=hn i (by rw[List.mem_range'_1];omega)
        have hu:z0v V.n.m.used i=true:=by simpa using this
        unfold MetaS.isAt;rw[hu];simp
      cases hf:z6i V.n.m.used (k * g.P) ((k+1) * g.P) false with
      | none=>
       refine z02 [0,0,0,0,0,0,0,0,0,0,0] (Q:=fun r=>pu (r=.inl ()) (z00 (volL v d g V y))) ?_ fun r=>z04 fun hr=>z01 ?_
       ·refine tri_rI 2 rfl (z0j (by rw[z1k];exact h2)) (i:=k) (k :=.i64) (v:=(V.n.m.own[k]:Nat)) (by simp[z1w,hkl]) ?_;dsimp only;rw[z0d (n:=(r:Int)+1) (by omega) (by omega)];refine z05 (by simp[hko]) ?_;refine zce 0 rfl (z8a 0 rfl (z8a 0 rfl ?_));have e1:(k:Int) * (g.P:Int)=((k * g.P:Nat):Int):=by simp
        have e2:((k:Int)+1) * (g.P:Int)=(((k+1) * g.P:Nat):Int):=by simp
        rw[e1,e2,z0d (by omega) (by omega),z0d (by omega) (by omega)];refine z02 [3] (zmt (z0j h3) (by omega) hb1 (by omega) false hN) fun r31=>z04 fun hr31=>z01 ?_;rw[hf]at hr31;subst hr31;exact z05 (by simp) (z03 [1,1,1,0,0,0,0,0,0,0,0] fun q hq=>⟨rfl,hq⟩)
       ·subst hr;exact next (hnone hf)
      | some b=>
       obtain⟨hat,hb512⟩:=hfind b hf;rw[hat];refine z02 [0,0,0,0,0,0,0,0,0,0,0] (Q:=fun r=>pu (r=.inr ((b:Int),0)) (z00 [z0l v d g (V.wM {V.n.m with used:=z21 V.n.m.used b true})])) ?_ fun r=>z04 fun hr=>z01 ?_
       ·refine tri_rI 2 rfl (z0j (by rw[z1k];exact h2)) (i:=k) (k :=.i64) (v:=(V.n.m.own[k]:Nat)) (by simp[z1w,hkl]) ?_;dsimp only;rw[z0d (n:=(r:Int)+1) (by omega) (by omega)];refine z05 (by simp[hko]) ?_;refine zce 0 rfl (z8a 0 rfl (z8a 0 rfl ?_));have e1:(k:Int) * (g.P:Int)=((k * g.P:Nat):Int):=by simp
        have e2:((k:Int)+1) * (g.P:Int)=(((k+1) * g.P:Nat):Int):=by simp
        rw[e1,e2,z0d (by omega) (by omega),z0d (by omega) (by omega)];refine z02 [3] (zmt (z0j h3) (by omega) hb1 (by omega) false hN) fun r31=>z04 fun hr31=>z01 ?_;rw[hf]at hr31;subst hr31;dsimp only[sel,rem,nth,del,cat,upd];refine z07 rfl ?_;refine Tri.pre (B:=z00 [z0l v d g V]) ?_ fun q hq=>z1r hy hd (zo0 [1,1,1,0,0,0,0,0,0,0,0] hq);exact z02 [0] (zi5 hul hb512 true) fun _=>z01 (z03 [0] fun q hq=>⟨rfl,hq⟩)
       ·subst hr;exact z03 [0] fun q hq=>⟨rfl,hq⟩
     ·refine z02 [0,0,0,0,0,0,0,0,0,0,0] (Q:=fun r=>pu (r=.inl ()) (z00 (volL v d g V y))) ?_ fun r=>z04 fun hr=>z01 ?_
      ·refine tri_rI 2 rfl (z0j (by rw[z1k];exact h2)) (i:=k) (k :=.i64) (v:=(V.n.m.own[k]:Nat)) (by simp[z1w,hkl]) ?_;dsimp only;rw[z0d (n:=(r:Int)+1) (by omega) (by omega)];exact z07 (by simp;omega) (z03 [0,0,0,0,0,0,0,0,0,0,0] fun q hq=>⟨rfl,hq⟩)
      ·subst hr;refine next (hskip fun r' hr'=>?_)
       rw[hrow]at hr';cases hr';exact hko
   ·obtain rfl:k=g.G:=by omega
    refine z05 (by simp;omega) ?_;have hat:V.n.m.atB g a=none:=by
     unfold MetaS.atB;cases hrow:V.n.m.rows.findIdx? (z3w a)with
     | none=>rfl
     | some r=>
      dsimp only;rw[List.find?_eq_none];intro i hi;rw[List.mem_range'_1]at hi;rw[hno r hrow i (by omega)];simp
    rw[hat];exact z1m fun q hq=>⟨rfl,hq⟩
 refine z02 [1,0,0,0,0,0,0,0,0,0,0] (loop N 0 (by omega) (by omega) fun r hr i hi=>by omega) fun r=>?_;cases hat:V.n.m.atB g a with
 | some b=>
  refine z04 fun hr=>z01 ?_;subst hr;refine z03 [0] fun q hq=>⟨?_,?_⟩
  ·unfold MetaS.alloc;rw[hat]
  ·unfold MetaS.alloc;rw[hat];exact hq
 | none=>
  refine z04 fun hr=>z01 ?_;subst hr;dsimp only[sel,rem,nth,del,cat,upd,volL];refine zba 0 rfl ?_;refine z02 [2] (zuh (z0j (by rw[z1k];exact h2)) (by omega) (by omega)) fun r44=>z04 fun hr44=>z01 ?_;dsimp only[sel,rem,nth,del,cat,upd];subst hr44;cases hfr:V.n.m.own.findIdx? z3s with
  | none=>
   rw[zfd hfr];have hA:V.n.m.alloc g a=((0,5),V.n.m):=by unfold MetaS.alloc;rw[hat,hfr]
   rw[hA];exact z07 (by simp) (z03 [1,1,0,0,0,0,0,0,0,0,0] fun q hq=>⟨rfl,z1r hy hd hq⟩)
  | some k=>
   rw[zfe hfr];have hkl:=(List.findIdx?_eq_some_iff_getElem.1 hfr).1;refine z05 (by simp) ?_;refine z9x 1 rfl ?_;refine z02 [2] (zk6 ha ok.rows (z0j h1) (by omega)) fun r50=>z04 fun hr50=>z01 ?_;dsimp only[sel,rem,nth,del,cat,upd];by_cases hE:z4j V.n.m.rows a=0
   ·have hA:V.n.m.alloc g a=((((k * g.P:Nat):Int),0),{V.n.m with rows:=z9j V.n.m.rows a,own:=V.n.m.own.set k (z4a V.n.m.rows a+1),used:=z21 V.n.m.used (k * g.P) true}):=by unfold MetaS.alloc;rw[hat,hfr];dsimp only;rw[if_pos hE]
    rw[hA,if_pos hE];obtain⟨e22,e21⟩:=hr50;obtain⟨e21,hI⟩:=e21 hE;have hkP:k * g.P+g.P≤g.G * g.P:=z3p (by omega);refine z05 (by simp[e22,hE]) ?_;refine zba 3 rfl ?_;refine zi4 3 rfl ?_;dsimp only[sel,rem,nth,del,cat,upd];rw[e21];have e3:wr .i64 (((z4a V.n.m.rows a:Nat):Int)+1)=((z4a V.n.m.rows a+1:Nat):Int):=by rw[z0d (by omega) (by omega)];simp
    rw[e3];refine zdw 2 rfl hkl ?_;dsimp only[sel,rem,nth,del,cat,upd];refine z8a 3 rfl ?_;have e4:(k:Int) * (g.P:Int)=((k * g.P:Nat):Int):=by simp
    rw[e4,z0d (by omega) (by omega)];let V1:VolS:=V.wM {V.n.m with rows:=z9j V.n.m.rows a,own:=V.n.m.own.set k (z4a V.n.m.rows a+1)}
    refine z1n [3,0,1,1,1,1,1,1,1,1,1] (Tri.pre (B:=z00 [z0l v d g V1]) ?_ fun q hq=>z1r (V:=V1) (y:={y with x:={y.x with rows:=r50.1}}) (hy.wM _ _ rfl) hd hq)
    ·refine z02 [0] (zi5 (V:=V1) hul (by omega) true) fun _=>z01 ?_;dsimp only[sel,rem,nth,del,cat,upd];refine z2m 0 rfl fun y2 hy2 hd2=>?_;dsimp only[sel,rem,nth,del,cat,upd,volL];refine z8a 0 rfl ?_;rw[e4,z0d (by omega) (by omega)];exact z03 [0,0,0,0,0,0,0,0,0,0,0] fun q hq=>⟨rfl,z1r hy2 hd2 hq⟩
   ·have hA:V.n.m.alloc g a=((0,z4j V.n.m.rows a),V.n.m):=by unfold MetaS.alloc;rw[hat,hfr];dsimp only;rw[if_neg hE]
    rw[hA];refine z07 (by simp[hr50.1,hE]) (z03 [3,1,1,1,1,1,1,1,1,1,1] fun q hq=>⟨by rw[hr50.1],z1r hy hd hq⟩)
end
end Go.Moat

/- Layer 15: blocks and inodes. -/
namespace Go.Moat
open Go.Mini
def z1e:List UInt8:=List.replicate 64 0
def zql(g:Geo)(m:MetaS):Prop:=∀b,b<g.B→z0v m.used b=true→0<m.own[b / g.P]?.getD 0
def VolS.free(g:Geo)(V:VolS)(b:Nat):VolS:=(V.write g b z1e).wM (V.n.m.free g b)
def VolS.readE(g:Geo)(V:VolS)(b:Int):Int:=if 0≤b∧b<g.B then(match z40 V.n.dirty b with
 | some _=>0
 | none=>z7o V.disk (g.blk+b))else 1
def VolS.readB(g:Geo)(V:VolS)(b:Int):List UInt8:=match z40 V.n.dirty b with
 | some x=>x.1
 | none=>(getS V.disk (g.blk+b)).b
def VolS.writeE(g:Geo)(V:VolS)(b:Int)(bs:List UInt8):Int:=if bs.length=64 then V.n.m.usedE g b else 1
section
variable{N:Nat}{β:Type}{l:List HA}{S:β→HA}{v d:Nat}{g:Geo}{V:VolS}{m:M β}{T:HA}
theorem zmz{m:MetaS}{b:Int}(h:m.usedE g b=0):∃k:Nat,b=k∧k<g.B∧z0v m.used k=true:=by
 unfold MetaS.usedE at h;split at h
 ·rename_i hb;refine⟨b.toNat,by omega,by omega,?_⟩;cases hg:z0v m.used b.toNat with
  | true=>rfl
  | false=>rw[hg]at h;simp at h
 ·cases h
theorem zkz(k:Tri (z00 [z0l v d g V]) m S){y:VH}(hy:VHok V y)(hd:y.x.d=d):Tri (z00 (volL v d g V y)) m S:=k.pre fun q hq=>z1r hy hd hq
theorem zn0(hg:g.ok)(ok:MetaOk g V.n.m)(rf:RefOk V.n.m)(gr:zql g V.n.m)(b:Int)(hN:5000<N) :
  Tri (z00 [z0l v d g V]) (F_1w N (some ⟨v,0⟩) b) fun r=>pu (r=V.n.m.usedE g b) (z00 [z0l v d g (if V.n.m.usedE g b=0 then V.free g b.toNat else V)]):=by
 have hgp:=hg.gp;have hp1:=hg.p1;have hul:=ok.usedl;unfold F_1w;refine z02 [0] (zmy hg hul b) fun r=>z04 fun h=>z01 ?_;subst h;dsimp only[sel,rem,nth,del,cat,upd];by_cases hE:V.n.m.usedE g b=0
 case neg=>exact z07 (by simpa using hE) (z03 [0] fun q hq=>⟨rfl,by rw[if_neg hE];exact hq⟩)
 rw[if_pos hE];refine z05 (by simpa using hE) ?_;rw[hE];obtain⟨k,rfl,hk,hbit⟩:=zmz hE;rw[Int.toNat_natCast];have hB:g.B=g.G * g.P:=rfl;have hkG:k / g.P<g.G:=by
  rw[Nat.div_lt_iff_lt_mul (by omega)];exact hk
 have hkl:k / g.P<V.n.m.own.length:=by rw[ok.ownl];exact hkG
 have h0:=gr k hk hbit;rw[List.getElem?_eq_getElem hkl,Option.getD_some]at h0;have h16:=ok.own16 _ (List.getElem_mem hkl);refine z8p 64 (by omega) fun sb=>?_;refine z02 [1,0] (zk9 (s:=⟨some ⟨sb,0⟩,64⟩) (bs:=z1e) hg ok hk rfl (by simp[z1e]) |>.pre fun q hq=>z1f (fun q=>z4i fun q h =>.mk (by rw[z0c];simp[z1e]) h) hq) fun _=>z01 ?_;dsimp only[sel,rem,nth,del,cat,upd];let V1:=V.write g k z1e
 refine z02 [0] (zi5 (V:=V1) (i:=k) hul (by omega) false) fun _=>z01 ?_;dsimp only[sel,rem,nth,del,cat,upd];let V2:=V1.wUsed (z21 V.n.m.used k false)
 have hu2:V2.n.m.used.length=64:=by show(z21 V.n.m.used k false).length=64;rw[zan];exact hul
 have hb6:=Nat.div_le_self k g.P;have e1:(k:Int).tdiv (g.P:Int)=((k / g.P:Nat):Int):=rfl;have e2:wr .i64 ((k / g.P:Nat):Int)=((k / g.P:Nat):Int):=by
  generalize k / g.P=bq at hb6;exact z0d (by omega) (by omega)
 refine Tri.bd (Q:=fun _=>z00 [z0l v d g V2]) (m:=fun h=>some ((),h)) (f:=fun _=>_) (fun h q hq hh=>⟨(),h,q,rfl,hq,hh,Nat.le_refl _,fun _ _ _=>rfl,fun _ hb =>.inl hb⟩) fun _=>?_;refine z2m 0 rfl fun y hy hd=>?_;dsimp only[sel,rem,nth,del,cat,upd,volL];refine z8a 0 rfl ?_;rw[if_neg (by omega),e1,e2];refine zkz (V:=V2) ?_ hy hd;refine z02 [0] (zud hu2 hg hkG hN) fun r11=>z04 fun h11=>z01 ?_;subst h11;dsimp only[sel,rem,nth,del,cat,upd];have hcnt:z6a V2.n.m.used (k / g.P * g.P) ((k / g.P+1) * g.P)=z6a (z21 V.n.m.used k false) (k / g.P * g.P) ((k / g.P+1) * g.P):=rfl;rw[hcnt];refine z02 [0] (Q:=fun _=>z00 [z0l v d g (V.free g k)]) ?_ fun _=>z01 (z03 [0] fun q hq=>⟨rfl,hq⟩);by_cases hc:z6a (z21 V.n.m.used k false) (k / g.P * g.P) ((k / g.P+1) * g.P)=0
 ·have hF:V.free g k=((V2.wRows (zap V.n.m.rows (V.n.m.own[k / g.P] - 1))).wOwn (V.n.m.own.set (k / g.P) 0)):=by
   unfold VolS.free MetaS.free;rw[if_pos hc,List.getElem?_eq_getElem hkl];rfl
  rw[hF];refine z07 (by rw[hc];rfl) ?_;refine z2m 0 rfl fun y hy hd=>?_;dsimp only[sel,rem,nth,del,cat,upd,volL];refine zba 0 rfl ?_;refine z0a 2 rfl fun h2=>?_;refine tri_rI 2 rfl (z0j h2) (i:=k / g.P) (k :=.i64) (v:=(V.n.m.own[k / g.P]:Nat)) (by
   show(z18 V.n.m.own)[k / g.P]? = _;simp[z1w,hkl]) ?_
  have e3:wr .i64 (((V.n.m.own[k / g.P]:Nat):Int) - 1)=((V.n.m.own[k / g.P] - 1:Nat):Int):=by rw[z0d (by omega) (by omega)];omega
  rw[e3];refine zkz (V:=V2) ?_ hy hd;refine z02 [0] (zpi (V:=V2) ok.rows (by omega) (rf.own _ (List.getElem_mem hkl) h0) (by omega)) fun _=>z01 ?_;dsimp only[sel,rem,nth,del,cat,upd];refine z2m 0 rfl fun y hy hd=>?_;dsimp only[sel,rem,nth,del,cat,upd,volL];refine zba 0 rfl ?_;refine zdw (x:=0) 2 rfl hkl ?_;refine z03 [0,0,0,0,0,0,0,0,0,0,0] fun q hq=>?_;exact z1r (V:=VolS.wOwn _ _) (y:=y) (hy.wM _ y.x rfl) hd hq
 ·have hF:V.free g k=V2:=by
   unfold VolS.free MetaS.free;rw[if_neg hc];rfl
  rw[hF];exact z05 (by simp;omega) (z03 [0] fun q hq=>hq)
theorem zd5(hg:g.ok)(b:Int):Tri (z00 [z0l v d g V]) (F_0f N (some ⟨v,0⟩) b) fun r=>pu (r.2=V.readE g b) (z00 [z0l v d g V,if V.readE g b=0 then z06 r.1 1 (bytesOf (V.readB g b))else emp]):=by
 have hall:=hg.all_le;have:g.all=g.blk+g.B:=rfl
 unfold F_0f;refine z05 (by simp) ?_;refine z02 [0] (zk8 hg b) fun r=>z04 fun h=>z01 ?_;subst h;dsimp only[sel,rem,nth,del,cat,upd];unfold VolS.readE;by_cases hb:0≤b∧b<g.B
 case neg=>
  rw[if_neg hb];refine z07 (by simp;omega) (z03 [0] fun q hq=>⟨rfl,?_⟩);rw[if_neg (by decide)];show z17 (z0l v d g V) (z17 emp emp) q;rw[z4f emp];exact hq
 rw[if_pos hb];refine z05 (by simp;omega) ?_;refine z2m 0 rfl fun y hy hd=>?_;dsimp only[sel,rem,nth,del,cat,upd,volL];refine zkt 0 rfl ?_;refine zgl 5 rfl _ ?_;have hget:z40 V.n.dirty b=(z40 y.L b).map DV.f:=by
  rw[←hy.dirty];exact zkr DV.f y.L b
 have hgk:z6q (dkv g y.L) b=(z40 y.L b).map (dvC g b):=zkq (fun k z=>dvC g k z) y.L b;rw[hgk];unfold VolS.readB;cases hx:z40 y.L b with
 | some x=>
  rw[hx]at hget;rw[hget];dsimp only[Option.map_some,Option.getD_some];refine Tri.bd (Q:=fun z=>pu (z=((g.blk:Int)+b,x.s,(x.t:Int))) (z00 (volL v d g V y))) (z1m fun q hq=>⟨rfl,hq⟩) fun z=>zqk fun hz=>?_;subst hz;refine z07 rfl ?_;have hm:=zdn hx;have hmem:=hy.dok.mem _ hm;have hlen:=hy.dok.len _ hm;have hrd:RdC (z1x y.P) x.s 1 (bytesOf x.b):=zb9 hmem (by dsimp only at hlen;omega);dsimp only[sel,rem,nth,del,cat,upd,volL];refine z02 [6] (show Tri _ (z96 1 1 _) _ from z8c hrd (by omega) (z3a _) (by
   have:most=70368744177664:=rfl
   dsimp only at hlen ⊢;omega)) fun r=>z01 ?_
  dsimp only[sel,rem,nth,del,cat,upd];refine z03 [2,2,2,2,2,2,1,1,1,1,1,0] fun q hq=>⟨rfl,?_⟩;rw[if_pos rfl];exact vol_fold' hy hd hq
 | none=>
  rw[hx]at hget;rw[hget];dsimp only[Option.map_none,Option.getD_none];refine Tri.bd (Q:=fun(z:Int×Sl×Int)=>pu (z=((0:Int),(⟨none,0⟩:Sl),(0:Int))) (z00 (volL v d g V y))) (z1m fun q hq=>⟨rfl,hq⟩) fun z=>zqk fun hz=>?_;refine z05 (by simp) ?_;dsimp only[sel,rem,nth,del,cat,upd,volL];refine zch 0 rfl (o:=5) (v:=some ⟨y.x.d,0⟩) rfl ?_;refine zsn 0 rfl ?_;rw[z0d (by omega) (by omega),hd];refine z02 [7] (zpf (N:=N) ((g.blk:Int)+b)) fun r=>z04 fun ⟨h1,h2⟩=>z01 ?_;dsimp only[sel,rem,nth,del,cat,upd];refine z03 [2,2,2,2,2,2,2,0,1,1,1,0] fun q hq=>⟨h1,?_⟩;exact vol_fold' hy hd hq
theorem zc1(hg:g.ok)(ok:MetaOk g V.n.m)(b:Int){s:Sl}{bs:List UInt8}(hr:RdC T s 1 (bytesOf bs))(hbs:bs.length≤100000) :
  Tri (z00 [z0l v d g V,T]) (F_0g N (some ⟨v,0⟩) b s) fun r=>pu (r=V.writeE g b bs) (z00 [z0l v d g (if V.writeE g b bs=0 then V.write g b.toNat bs else V),T]):=by
 have hlen:=z4r hr;unfold F_0g VolS.writeE;by_cases h64:bs.length=64
 case neg=>
  simp only[if_neg h64];rw[if_neg (show ¬((1:Int)=0) by decide)];exact z07 (by simp[hlen];omega) (z03 [0,0] fun q hq=>⟨rfl,hq⟩)
 simp only[if_pos h64];refine z05 (by simp[hlen];omega) ?_;refine z02 [0] (zmy hg ok.usedl b) fun r=>z04 fun h=>z01 ?_;subst h;dsimp only[sel,rem,nth,del,cat,upd];by_cases hE:V.n.m.usedE g b=0
 case neg=>exact z07 (by simpa using hE) (z03 [0,0] fun q hq=>⟨rfl,by rw[if_neg hE];exact hq⟩)
 rw[if_pos hE];refine z05 (by simpa using hE) ?_;rw[hE];obtain⟨k,rfl,hk,hbit⟩:=zmz hE;refine z02 [1] (show Tri _ (z96 1 1 _) _ from z8c hr (by omega) (z3a _) (by
  have:most=70368744177664:=rfl
  omega)) fun r=>z01 ?_
 dsimp only[sel,rem,nth,del,cat,upd];refine z0a 0 rfl fun h0=>?_;rw[z0c]at h0;refine z02 [2,0] (zk9 hg ok hk (by omega) h64) fun _=>z01 ?_;exact z03 [0,0] fun q hq=>⟨rfl,hq⟩
theorem z79{A:HA}{k:IntKind}{x:Int}{f:Int→M β}(kk:Tri A (f x) S):Tri A (bd (z0o (CTy.dec (.int k) (.int k x))) f) S:=by
 have e:CTy.dec (.int k) (.int k x)=some x:=by simp only[CTy.dec,if_true];rfl
 rw[e];exact z4h kk
theorem zqm(n:Ino):(z16 n)[0]? = some (.int .u8 n.k):=rfl
theorem zxl(n:Ino):(z16 n)[1]? = some (.int .u8 n.r):=rfl
theorem zil(ok:MetaOk g V.n.m)(hg:g.ok)(i:Int):Tri (z00 [z0l v d g V]) (F_0v N (some ⟨v,0⟩) i) fun r=>pu (r=V.n.m.hasE i) (z00 [z0l v d g V]):=by
 have hil:=ok.inol;have hI:=hg.i2;unfold F_0v;refine z05 (by simp) ?_;refine z2m 0 rfl fun y hy hd=>?_;dsimp only[sel,rem,nth,del,cat,upd,volL];refine z0a 4 rfl fun h4=>?_;have h4':y.x.ino.len=V.n.m.ino.length:=by rw[z0x z0n]at h4;omega
 unfold MetaS.hasE;refine z02 [0,0,0,0,0,0,0,0,0,0,0] (Q:=fun c=>pu (c = !decide (0≤i∧i<V.n.m.ino.length)) (z00 (volL v d g V y))) ?_ fun c=>z04 fun hc=>z01 ?_
 ·by_cases h0:i<0
  ·exact z05 (by simpa using h0) (z03 [0,0,0,0,0,0,0,0,0,0,0] fun q hq=>⟨by simp;omega,hq⟩)
  ·refine z07 (by simpa using h0) (z6o 0 rfl (z03 [0,0,0,0,0,0,0,0,0,0,0] fun q hq=>⟨?_,hq⟩));rw[h4'];rw[Bool.eq_iff_iff];simp;omega
 ·subst hc;dsimp only[sel,rem,nth,del,cat,upd,volL];by_cases hi:0≤i∧i<V.n.m.ino.length
  ·rw[if_pos hi];refine z05 (by simp;omega) (z6o 0 rfl ?_);obtain⟨k,rfl⟩:∃k:Nat,i=k:=⟨i.toNat,by omega⟩;rw[Int.toNat_natCast];have hk:k<V.n.m.ino.length:=by omega
   have hn:z14 V.n.m.ino k=V.n.m.ino[k]:=by simp[z14,hk]
   rw[hn];refine z6h 4 rfl (z0j h4) (i:=k) (o:=0) (by omega) (by omega) (v:=(V.n.m.ino[k].k:Nat)) (by rw[z5e z0n hk (by omega)];rfl) ?_;by_cases hz:V.n.m.ino[k].k=0
   ·exact z07 (by simp[hz]) (z03 [0,0,0,0,0,0,0,0,0,0,0] fun q hq=>⟨by rw[if_pos hz],z1r hy hd hq⟩)
   ·exact z05 (by simp;omega) (z03 [0,0,0,0,0,0,0,0,0,0,0] fun q hq=>⟨by rw[if_neg hz],z1r hy hd hq⟩)
  ·rw[if_neg hi];exact z07 (by simp;omega) (z03 [0,0,0,0,0,0,0,0,0,0,0] fun q hq=>⟨rfl,z1r hy hd hq⟩)
theorem zcl{m:MetaS}{i:Int}(h:m.hasE i=0):∃(k:Nat)(hk:k<m.ino.length),i=k∧m.ino[k].k≠0:=by
 unfold MetaS.hasE at h;split at h
 ·rename_i hi;have hk:i.toNat<m.ino.length:=by omega
  refine⟨i.toNat,hk,by omega,?_⟩;have hn:z14 m.ino i.toNat=m.ino[i.toNat]:=by simp[z14,hk]
  rw[hn]at h;intro c;rw[if_pos c]at h;cases h
 ·cases h
theorem zxm(hg:g.ok)(ok:MetaOk g V.n.m){kind a:Nat}(hk:kind<256)(ha:a<65536)(hN:5000<N):Tri (z00 [z0l v d g V]) (F_2n N (some ⟨v,0⟩) (kind:Int) (a:Int)) fun r=>pu (r=(V.n.m.make kind a).1) (z00 [z0l v d g (V.wM (V.n.m.make kind a).2)]):=by
 have hil:=ok.inol;have hI:=hg.i2;unfold F_2n MetaS.make;refine z05 (by simp) ?_;by_cases hkind:kind=1∨kind=2
 case neg=>
  rw[if_neg hkind];exact z07 (by simp;omega) (z03 [0] fun q hq=>⟨rfl,hq⟩)
 rw[if_pos hkind];refine z05 (by simp;omega) ?_;refine z2m 0 rfl fun y hy hd=>?_;dsimp only[sel,rem,nth,del,cat,upd,volL];refine z6o 0 rfl ?_;refine z0a 1 rfl fun h1=>z0a 4 rfl fun h4=>?_;have h4':y.x.ino.len=V.n.m.ino.length:=by rw[z0x z0n]at h4;omega
 have find:Tri (z00 [z06 y.x.ino 14 (z2j V.n.m.ino)]) (F_2l N y.x.ino ()) fun r=>pu (r=fi za5 V.n.m.ino) (z00 [z06 y.x.ino 14 (z2j V.n.m.ino)]):=by
  unfold F_2l;refine zdt (A:=z00 [z06 y.x.ino 14 (z2j V.n.m.ino)]) za5 V.n.m.ino (by omega) (fun rec i hi Q k=>?_) fun rec Q k=>?_
  ·unfold F_51;refine z07 (by simp[h4'];omega) ?_;refine z8s 0 rfl (z0j h4) hi ?_;unfold F_43;rw[zqm,z0d (by omega) (by omega)];have:(decide ((V.n.m.ino[i].k:Int)=0))=za5 V.n.m.ino[i]:=by
    unfold za5;congr 1;apply propext;omega
   show Tri _ (bd (ret (decide ((V.n.m.ino[i].k:Int)=0))) _) _;rw[this];exact z0s k
  ·unfold F_51;exact z05 (by simp[h4']) k
 refine z02 [4] find fun r9=>z04 fun h9=>z01 ?_;subst h9;dsimp only[sel,rem,nth,del,cat,upd];cases hx:V.n.m.ino.findIdx? za5 with
 | none=>
  rw[zfd hx];exact z07 (by simp) (z03 [1,1,1,1,0,0,0,0,0,0,0] fun q hq=>⟨rfl,z1r hy hd hq⟩)
 | some i=>
  rw[zfe hx];dsimp only;have hi:=(List.findIdx?_eq_some_iff_getElem.1 hx).1;refine z05 (by simp) (z9x 1 rfl ?_);refine z02 [2] (zk6 ha ok.rows (z0j h1) (by omega)) fun r15=>z04 fun h15=>z01 ?_;dsimp only[sel,rem,nth,del,cat,upd];by_cases hE:z4j V.n.m.rows a=0
  ·rw[if_pos hE,if_pos hE];obtain⟨e22,e21⟩:=h15;obtain⟨e21,hI2⟩:=e21 hE;refine z05 (by simp[e22,hE]) (z6o 3 rfl (zi4 3 rfl ?_));rw[e21,wr8 (by omega) (by omega)];have e3:([MV.int .u8 (kind:Int),MV.int .u8 ((z4a V.n.m.rows a:Nat):Int)]++z0r 12 [MV.int .i64 (0:Int)])=z16 (z8t kind (z4a V.n.m.rows a)):=rfl;rw[e3];dsimp only[sel,rem,nth,del,cat,upd];refine zky 2 rfl hi ?_;dsimp only[sel,rem,nth,del,cat,upd];refine z03 [3,0,2,2,1,1,1,1,1,1,1] fun q hq=>⟨rfl,?_⟩;exact z1r (V:=V.wM _) (y:={y with x:={y.x with rows:=r15.1}}) (hy.wM _ _ rfl) hd hq
  ·rw[if_neg hE,if_neg hE];exact z07 (by simp[h15.1,hE]) (z03 [3,1,2,2,1,1,1,1,1,1,1] fun q hq=>⟨by rw[h15.1],z1r hy hd hq⟩)
theorem zt4(hg:g.ok)(ok:MetaOk g V.n.m)(rf:RefOk V.n.m)(i:Int)(hN:5000<N):Tri (z00 [z0l v d g V]) (F_3c N (some ⟨v,0⟩) i) fun r=>pu (r=V.n.m.hasE i) (z00 [z0l v d g (if V.n.m.hasE i=0 then V.wM (V.n.m.unmake i.toNat)else V)]):=by
 have hil:=ok.inol;have hI:=hg.i2;unfold F_3c;refine z02 [0] (zil ok hg i) fun r=>z04 fun h=>z01 ?_;subst h;dsimp only[sel,rem,nth,del,cat,upd];by_cases hE:V.n.m.hasE i=0
 case neg=>exact z07 (by simpa using hE) (z03 [0] fun q hq=>⟨rfl,by rw[if_neg hE];exact hq⟩)
 rw[if_pos hE];refine z05 (by simpa using hE) ?_;rw[hE];obtain⟨k,hk,rfl,hkk⟩:=zcl hE;rw[Int.toNat_natCast];have hn:z14 V.n.m.ino k=V.n.m.ino[k]:=by simp[z14,hk]
 have hm:=List.getElem_mem hk;have hr:=(ok.inok _ hm).r;refine z2m 0 rfl fun y hy hd=>?_;dsimp only[sel,rem,nth,del,cat,upd,volL];refine z6o 0 rfl ?_;refine z0a 4 rfl fun h4=>?_;have h4':y.x.ino.len=V.n.m.ino.length:=by rw[z0x z0n]at h4;omega
 refine z6h 4 rfl (z0j h4) (i:=k) (o:=1) (by omega) (by omega) (v:=(V.n.m.ino[k].r:Nat)) (by rw[z5e z0n hk (by omega)];rfl) ?_;rw[z0d (by omega) (by omega)];refine zkz (V:=V) ?_ hy hd;refine z02 [0] (zpi ok.rows hr (rf.ino _ hm hkk) (by omega)) fun _=>z01 ?_;dsimp only[sel,rem,nth,del,cat,upd];refine z2m 0 rfl fun y hy hd=>?_;dsimp only[sel,rem,nth,del,cat,upd,volL];refine z6o 0 rfl ?_;rw[zak];refine zky 4 rfl hk ?_;refine z03 [0,0,0,0,0,0,0,0,0,0,0] fun q hq=>⟨rfl,?_⟩;have e:V.wM (V.n.m.unmake k)=(V.wRows (zap V.n.m.rows V.n.m.ino[k].r)).wIno (V.n.m.ino.set k Ino.z):=by
  unfold MetaS.unmake;rw[hn];rfl
 rw[e];exact z1r (V:=VolS.wIno _ _) (y:=y) (hy.wM _ y.x rfl) hd hq
def MetaS.inodeN(m:MetaS)(i:Int):Ino:=if m.hasE i=0 then z14 m.ino i.toNat else Ino.z
def MetaS.inodeL(m:MetaS)(i:Int):Nat:=if m.hasE i=0 then(z1c m.rows (z14 m.ino i.toNat).r).1 else 0
theorem zka(hg:g.ok)(ok:MetaOk g V.n.m)(i:Int):Tri (z00 [z0l v d g V]) (F_1m N (some ⟨v,0⟩) i) fun r=>pu (r=(z16 (V.n.m.inodeN i),((V.n.m.inodeL i:Nat):Int),V.n.m.hasE i)) (z00 [z0l v d g V]):=by
 have hil:=ok.inol;have hI:=hg.i2;unfold F_1m MetaS.inodeN MetaS.inodeL;refine z02 [0] (zil ok hg i) fun r=>z04 fun h=>z01 ?_;subst h;dsimp only[sel,rem,nth,del,cat,upd];rw[zak];by_cases hE:V.n.m.hasE i=0
 case neg=>
  refine z07 (by simpa using hE) (zt0 ?_);rw[if_neg hE,if_neg hE];exact z03 [0] fun q hq=>⟨rfl,hq⟩
 refine z05 (by simpa using hE) ?_;rw[if_pos hE,if_pos hE,hE];obtain⟨k,hk,rfl,hkk⟩:=zcl hE;rw[Int.toNat_natCast];have hn:z14 V.n.m.ino k=V.n.m.ino[k]:=by simp[z14,hk]
 rw[hn];have hm:=List.getElem_mem hk;have hr:=(ok.inok _ hm).r;have hrl:V.n.m.ino[k].r<V.n.m.rows.length:=by rw[ok.rows.len];exact hr
 refine z2m 0 rfl fun y hy hd=>?_;dsimp only[sel,rem,nth,del,cat,upd,volL];refine z6o 0 rfl ?_;refine z0a 4 rfl fun h4=>z0a 1 rfl fun h1=>?_;refine z8s 4 rfl (z0j h4) hk ?_;refine za4 (za3 fun _=>zii ?_);refine z9x 0 rfl ?_;rw[zgr,zxl];show Tri _ (bd (idx 2 y.x.rows ((V.n.m.ino[k].r:Nat):Int)) _) _;rw[z0x z2b]at h1;refine z6h 1 rfl (z0j (by rw[z0x z2b];omega)) (i:=V.n.m.ino[k].r) (o:=0) (by omega) (by omega) (v:=(V.n.m.rows[V.n.m.ino[k].r].1:Nat)) (by rw[z5e z2b hrl (by omega)];rfl) ?_;refine za4 ?_;show Tri _ (bd (if 0+14≤(z16 V.n.m.ino[k]).length then ret (((z16 V.n.m.ino[k]).drop 0).take 14)else z0h) _) _;rw[if_pos (by rw[z0n];omega),List.drop_zero,List.take_of_length_le (by rw[z0n];omega)];refine z0s ?_;refine z03 [0,0,0,0,0,0,0,0,0,0,0] fun q hq=>⟨?_,z1r hy hd hq⟩;simp[z1c,hrl]
def MetaS.set(m:MetaS)(i:Nat)(n:Ino):MetaS:={m with ino:=m.ino.set i n}
theorem z10x(hg:g.ok)(ok:MetaOk g V.n.m)(i:Int)(n:Ino)(hN:5000<N):Tri (z00 [z0l v d g V]) (F_2v N (some ⟨v,0⟩) i (z16 n)) fun r=>pu (r=V.n.m.setE i n) (z00 [z0l v d g (if V.n.m.setE i n=0 then V.wM (V.n.m.set i.toNat n)else V)]):=by
 have hil:=ok.inol;have hI:=hg.i2;have e14:0+14≤(z16 n).length:=by rw[z0n];omega
 have t14:((z16 n).drop 0).take 14=z16 n:=by rw[List.drop_zero,List.take_of_length_le (by rw[z0n];omega)]
 unfold F_2v;refine z02 [0] (zil ok hg i) fun r=>z04 fun h=>z01 ?_;subst h;dsimp only[sel,rem,nth,del,cat,upd];unfold MetaS.setE;by_cases h1:V.n.m.hasE i=1
 ·rw[if_pos h1,if_neg (show ¬((1:Int)=0) by decide)];exact z07 (by simp[h1]) (z03 [0] fun q hq=>⟨h1,hq⟩)
 rw[if_neg h1];refine z05 (by simp[h1]) ?_;rw[if_pos e14,t14];refine z0s ?_;rw[zby (by omega)];refine z0s ?_;refine z02 [0] (Q:=fun c=>pu (c=decide (n.ok=false∨n.k=0)) (z00 [z0l v d g V])) ?_ fun c=>z04 fun hc=>z01 ?_
 ·cases hok:n.ok
  ·exact z05 (by simp) (z03 [0] fun q hq=>⟨by simp,hq⟩)
  ·refine z07 rfl ?_;rw[zqm];show Tri _ (ret (decide ((n.k:Int)=0))) _;refine z03 [0] fun q hq=>⟨?_,hq⟩;rw[Bool.eq_iff_iff];simp
 subst hc;dsimp only[sel,rem,nth,del,cat,upd];by_cases h2:n.ok=false∨n.k=0
 ·rw[if_pos h2,if_neg (show ¬((1:Int)=0) by decide)];exact z07 (by simpa using h2) (z03 [0] fun q hq=>⟨rfl,hq⟩)
 rw[if_neg h2];refine z05 (by simpa using h2) ?_;by_cases h3:V.n.m.hasE i=0
 case neg=>
  have h32:V.n.m.hasE i=2:=by
   unfold MetaS.hasE at h1 h3 ⊢;split
   ·split
    ·rfl
    ·rename_i ha hb;rw[if_pos ha,if_neg hb]at h3;exact absurd rfl h3
   ·rename_i ha;rw[if_neg ha]at h1;exact absurd rfl h1
  rw[if_pos (show V.n.m.hasE i≠0 from h3),if_neg (show ¬((2:Int)=0) by decide)];exact z07 (by simpa using h3) (z03 [0] fun q hq=>⟨h32,hq⟩)
 rw[if_neg (show ¬V.n.m.hasE i≠0 by omega)];refine z05 (by simpa using h3) ?_;obtain⟨k,hk,rfl,hkk⟩:=zcl h3;rw[Int.toNat_natCast];have hn:z14 V.n.m.ino k=V.n.m.ino[k]:=by simp[z14,hk]
 rw[hn];refine z2m 0 rfl fun y hy hd=>?_;dsimp only[sel,rem,nth,del,cat,upd,volL];refine z0a 4 rfl fun h4=>?_;have h4':y.x.ino.len=V.n.m.ino.length:=by rw[z0x z0n]at h4;omega
 rw[zqm,zxl];refine z4h (z79 ?_);refine z6o 0 rfl ?_;refine z6h 4 rfl (z0j h4) (i:=k) (o:=0) (by omega) (by omega) (v:=(V.n.m.ino[k].k:Nat)) (by rw[z5e z0n hk (by omega)];rfl) ?_;refine z02 [0,0,0,0,0,0,0,0,0,0,0] (Q:=fun c=>pu (c=decide (n.k≠V.n.m.ino[k].k∨n.r≠V.n.m.ino[k].r)) (z00 (volL v d g V y))) ?_ fun c=>z04 fun hc=>z01 ?_
 ·by_cases hkq:n.k=V.n.m.ino[k].k
  ·refine z07 (by simp[hkq]) ?_;refine z4h (z79 ?_);refine z6o 0 rfl ?_;refine z6h 4 rfl (z0j h4) (i:=k) (o:=1) (by omega) (by omega) (v:=(V.n.m.ino[k].r:Nat)) (by rw[z5e z0n hk (by omega)];rfl) ?_;refine z03 [0,0,0,0,0,0,0,0,0,0,0] fun q hq=>⟨?_,hq⟩;rw[Bool.eq_iff_iff];simp[hkq];omega
  ·refine z05 (by simp;omega) (z03 [0,0,0,0,0,0,0,0,0,0,0] fun q hq=>⟨by simp[hkq],hq⟩)
 subst hc;dsimp only[sel,rem,nth,del,cat,upd,volL];by_cases h5:n.k≠V.n.m.ino[k].k∨n.r≠V.n.m.ino[k].r
 ·rw[if_pos h5,if_neg (show ¬((1:Int)=0) by decide)];exact z07 (by simpa using h5) (z03 [0,0,0,0,0,0,0,0,0,0,0] fun q hq=>⟨rfl,z1r hy hd hq⟩)
 rw[if_neg h5,if_pos (show((0:Int)=0)from rfl)];refine z05 (by simpa using h5) (z6o 0 rfl ?_);refine z0s (zky 4 rfl hk ?_);refine z03 [0,0,0,0,0,0,0,0,0,0,0] fun q hq=>⟨rfl,?_⟩;exact z1r (V:=V.wIno _) (y:=y) (hy.wM _ y.x rfl) hd hq
end
end Go.Moat
