/- Layer 15: what a volume is, in memory. -/
import Derived.Test.YtcaaljlhljemoaaGreatP15f
namespace Go.Mini
def RO {α:Type} (m:M α):Prop:=∀h a h',m h=some (a,h')→h'=h
theorem z2s {α:Type} (a:α):RO (ret a):=fun h b h' e=>by cases e;rfl
theorem z85 {α:Type}:RO (fail:M α):=fun h b h' e=>by cases e
theorem ro_bd {α γ:Type} {m:M α} {f:α→M γ} (hm:RO m) (hf:∀a,RO (f a)):RO (bd m f):=by
 intro h b h' e
 unfold bd at e
 cases hx:m h with
 | none=>rw [hx] at e;cases e
 | some r=>
  obtain ⟨a,h1⟩:=r
  rw [hx] at e
  have:=hm h a h1 hx
  subst this
  exact hf a _ b h' e
theorem zi5 (p:Option MA):RO (ldc p):=by
 intro h a h' e
 unfold ldc at e
 repeat (split at e<;>first | (cases e;done) | skip)
 cases e
 rfl
theorem za6 {α:Type} (o:Option α):RO (someOr o):=by
 intro h a h' e
 unfold someOr at e
 split at e<;>cases e
 rfl
theorem z7k (p:Option MA):RO (nonNil p):=by cases p<;>first | exact z85 | exact z2s _
theorem za7 (p:Option MA) (n:Nat):RO (fld p n):=by cases p<;>first | exact z85 | exact z2s _
theorem zv3 (e:Nat) (s:Sl) (i:Int):RO (idx e s i):=by
 unfold idx
 split
 ·split
  ·exact z2s _
  ·exact z85
 ·exact z85
theorem zom (k:IntKind) (p:Option MA):RO (ldI k p):=ro_bd (zi5 p) fun _=>za6 _
theorem zv4 (p:Option MA):RO (ldM p):=ro_bd (zi5 p) fun _=>za6 _
theorem zon (e:Nat) (p:Option MA):RO (ldL e p):=ro_bd (zi5 p) fun _=>za6 _
theorem zoo (r:Option Nat):RO (mapGet r):=by
 intro h a h' e
 unfold mapGet at e
 split at e
 ·cases e;rfl
 ·split at e<;>cases e
  rfl
theorem zop (r:Option Nat):RO (mapLen r):=ro_bd (zoo r) fun _=>z2s _
theorem z5h {α:Type} {m:M α} (k:RO m):frz m=m:=by
 funext h
 unfold frz
 cases hx:m h with
 | none=>rfl
 | some r=>
  obtain ⟨a,h'⟩:=r
  have:=k h a h' hx
  subst this
  dsimp only
  rw [(z8r _ _).2 (Grows.refl _)]
  rfl
theorem zrd {α:Type} {f:Nat→M α} (k:∀b,RO (f b)):RO (bd (hold 0) f):=fun h a h' e=>k h.size h a h' e
section
variable {α:Type}
def getA:List (Int×α)→Int→Option α
 | [],_=>none
 | e::r,k=>if k=e.1 then some e.2 else getA r k
def putA:List (Int×α)→Int→α→List (Int×α)
 | [],k,v=>[(k,v)]
 | e::r,k,v=>if k=e.1 then (k,v)::r else e::putA r k v
theorem zi6 (f:Int→α→MV):∀(L:List (Int×α)) (k:Int),getK (L.map fun e=>(e.1,f e.1 e.2)) k=(getA L k).map (f k)
 | [],_=>rfl
 | e::r,k=>by
  simp only [List.map_cons,getK,getA]
  split
  ·rename_i h;rw [h];rfl
  ·exact zi6 f r k
theorem zi7 (f:Int→α→MV) (v:α):∀(L:List (Int×α)) (k:Int),putK (L.map fun e=>(e.1,f e.1 e.2)) k (f k v)=(putA L k v).map fun e=>(e.1,f e.1 e.2)
 | [],_=>rfl
 | e::r,k=>by
  simp only [List.map_cons,putK,putA]
  split
  ·rfl
  ·rw [zi7 f v r k];rfl
theorem zi8 {γ:Type} (f:α→γ) (v:α):∀(L:List (Int×α)) (k:Int),(putA L k v).map (fun e=>(e.1,f e.2))=putA (L.map fun e=>(e.1,f e.2)) k (f v)
 | [],_=>rfl
 | e::r,k=>by
  simp only [List.map_cons,putA]
  split
  ·rfl
  ·rw [List.map_cons,zi8 f v r k]
theorem zi9 {γ:Type} (f:α→γ):∀(L:List (Int×α)) (k:Int),getA (L.map fun e=>(e.1,f e.2)) k=(getA L k).map f
 | [],_=>rfl
 | e::r,k=>by
  simp only [List.map_cons,getA]
  split
  ·rfl
  ·exact zi9 f r k
theorem zc8 {v:α}:∀ {L:List (Int×α)} {k:Int} {e:Int×α},e∈putA L k v→e=(k,v)∨e∈L
 | [],k,e,h=>by simpa [putA] using h
 | x::r,k,e,h=>by
  unfold putA at h
  split at h
  ·rcases List.mem_cons.1 h with h | h
   ·exact .inl h
   ·exact .inr (List.mem_cons_of_mem _ h)
  ·rcases List.mem_cons.1 h with h | h
   ·exact .inr (by rw [h];simp)
   ·rcases zc8 h with h | h
    ·exact .inl h
    ·exact .inr (List.mem_cons_of_mem _ h)
theorem z8w (v:α):∀(L:List (Int×α)) (k k':Int),getA (putA L k v) k'=if k'=k then some v else getA L k'
 | [],k,k'=>by simp [putA,getA]
 | e::r,k,k'=>by
  have ih:=z8w v r k k'
  unfold putA
  by_cases h:k=e.1
  ·rw [if_pos h]
   simp only [getA,←h]
   split<;>rfl
  ·rw [if_neg h]
   simp only [getA,ih]
   by_cases h2:k'=e.1
   ·rw [if_pos h2,if_pos h2,if_neg (fun c:k'=k=>h (c.symm.trans h2))]
   ·rw [if_neg h2,if_neg h2]
theorem z8x {L:List (Int×α)} {k:Int} {v:α} (h:getA L k=some v):(k,v)∈L:=by
 induction L with
 | nil=>cases h
 | cons e r ih=>
  unfold getA at h
  split at h
  ·rename_i hk
   cases h
   rw [hk]
   exact List.mem_cons_self
  ·exact List.mem_cons_of_mem _ (ih h)
end
end Go.Mini
namespace Go.Moat
open Go.Mini
theorem zia {N:Nat} (d:Option MA):RO (F_00 N d):=by
 unfold F_00
 split
 ·exact z2s _
 ·exact ro_bd (z7k _) fun _=>ro_bd (za7 _ _) fun _=>ro_bd (zon _ _) fun _=>z2s _
def PoolA (P:List (Sl×List UInt8)):HA:=stars (P.map fun x=>OwnA x.1 1 (bytesOf x.2))
theorem zfm {P:List (Sl×List UInt8)} {s:Sl} {bs:List UInt8} {q:PH} {l:List HA} (h:stars (OwnA s 1 (bytesOf bs)::PoolA P::l) q):stars (PoolA ((s,bs)::P)::l) q:=by
 have:stars (PoolA ((s,bs)::P)::l)=stars (OwnA s 1 (bytesOf bs)::PoolA P::l):=by
  show star (star _ _) _=star _ (star _ _)
  rw [z2d]
  rfl
 rw [this]
 exact h
theorem z70 {P:List (Sl×List UInt8)} {s:Sl} {bs:List UInt8} (h:(s,bs)∈P) (hl:s.len=bs.length):RdC (PoolA P) s 1 (bytesOf bs):=by
 induction P with
 | nil=>cases h
 | cons x r ih=>
  have e:PoolA (x::r)=star (OwnA x.1 1 (bytesOf x.2)) (PoolA r):=rfl
  rw [e]
  rcases List.mem_cons.1 h with h | h
  ·subst h
   exact (z0e (by rw [z0b];dsimp only;omega)).star_l
  ·exact (ih h).star_r
structure DV where
 s:Sl
 b:List UInt8
 t:Nat
def DV.f (x:DV):List UInt8×Nat:=(x.b,x.t)
def dvC (g:Geo) (k:Int) (x:DV):MV :=.agg [.int .i64 (g.blk+k),.sl x.s.p x.s.len 1,.int .u16 x.t]
def dkv (g:Geo) (L:List (Int×DV)):List (Int×MV):=L.map fun e=>(e.1,dvC g e.1 e.2)
structure NowS where
 m:MetaS
 dirty:List (Int×(List UInt8×Nat))
structure VolS where
 n:NowS
 disk:DskS
 seq:Nat
 safe:List (List UInt8)
 before:Option NowS
 dead:Bool
structure VC where
 rows:Sl
 own:Sl
 used:Sl
 ino:Sl
 mp:Nat
 d:Nat
 j:Nat
 safe:Sl
 bp:Option MA
 dead:Bool
def volC (g:Geo) (x:VC):List MV:=[.sl x.rows.p x.rows.len 2,.sl x.own.p x.own.len 1,.sl x.used.p x.used.len 1,.sl x.ino.p x.ino.len 14,.map (some x.mp),.ptr (some ⟨x.d,0⟩),
 .int .i64 g.J,.int .i64 g.I,.int .i64 g.G,.int .i64 g.P,.int .i64 1,.int .i64 g.lab,.int .i64 (2+g.J:Nat),.int .i64 (3+g.J:Nat),.int .i64 (4+g.J:Nat),.int .i64 g.blk,.int .i64 g.all,
 .ptr (some ⟨x.j,0⟩),.sl x.safe.p x.safe.len 1,.ptr x.bp,.bool x.dead]
structure DOk (P:List (Sl×List UInt8)) (L:List (Int×DV)):Prop where
 mem:∀e∈L,(e.2.s,e.2.b)∈P
 len:∀e∈L,e.2.s.len=64∧e.2.b.length=64
 tag:∀e∈L,e.2.t<65536
def forget (L:List (Int×DV)):List (Int×(List UInt8×Nat)):=L.map fun e=>(e.1,e.2.f)
structure NC where
 rows:Sl
 own:Sl
 used:Sl
 ino:Sl
 mp:Nat
def nowC (x:NC):List MV:=[.sl x.rows.p x.rows.len 2,.sl x.own.p x.own.len 1,.sl x.used.p x.used.len 1,.sl x.ino.p x.ino.len 14,.map (some x.mp)]
def NowL (g:Geo) (x:NC) (n:NowS) (L:List (Int×DV)):List HA:=[OwnA x.rows 2 (rowsC n.m.rows),OwnA x.own 1 (ownC n.m.own),OwnA x.used 1 (bytesOf n.m.used),OwnA x.ino 14 (inosC n.m.ino),MapK .i64 x.mp (dkv g L)]
def BefA (g:Geo) (P:List (Sl×List UInt8)):Option MA→Option NowS→HA
 | none,none=>emp
 | some a,some n=>exA fun x:NC×List (Int×DV)=>pu (a.off=0∧forget x.2=n.dirty∧DOk P x.2) (stars (pts a.blk (.cells (nowC x.1) false)::NowL g x.1 n x.2))
 | _,_=>fun _=>False
theorem DOk.mono {P:List (Sl×List UInt8)} {L:List (Int×DV)} (h:DOk P L) (x:Sl×List UInt8):DOk (x::P) L:=⟨fun e he=>List.mem_cons_of_mem _ (h.mem e he),h.len,h.tag⟩
theorem BefA.mono {g:Geo} {P:List (Sl×List UInt8)} {bp:Option MA} {b:Option NowS} (x:Sl×List UInt8):∀q,BefA g P bp b q→BefA g (x::P) bp b q:=by
 intro q h
 cases bp<;>cases b<;>first | exact h | skip
 obtain ⟨y,⟨h1,h2,h3⟩,h4⟩:=h
 exact ⟨y,⟨h1,h2,h3.mono x⟩,h4⟩
def jrnC (d:Nat) (g:Geo) (seq:Nat):List MV:=[.ptr (some ⟨d,0⟩),.int .i64 1,.int .i64 g.J,.int .u64 seq]
structure VH where
 x:VC
 L:List (Int×DV)
 P:List (Sl×List UInt8)
 sf:List (Sl×List UInt8)
structure VHok (V:VolS) (y:VH):Prop where
 dirty:forget y.L=V.n.dirty
 dok:DOk y.P y.L
 safe:y.sf.map (·.2)=V.safe
 smem:∀e∈y.sf,e∈y.P∧e.1.len=64∧e.2.length=64
 dead:y.x.dead=V.dead
def volL (v d:Nat) (g:Geo) (V:VolS) (y:VH):List HA:=[pts v (.cells (volC g y.x) false),OwnA y.x.rows 2 (rowsC V.n.m.rows),OwnA y.x.own 1 (ownC V.n.m.own),OwnA y.x.used 1 (bytesOf V.n.m.used),OwnA y.x.ino 14 (inosC V.n.m.ino),MapK .i64 y.x.mp (dkv g y.L),
 PoolA y.P,DiskA d V.disk,pts y.x.j (.cells (jrnC d g V.seq) false),OwnA y.x.safe 1 (slsC y.sf),BefA g y.P y.x.bp V.before]
def VolA (v d:Nat) (g:Geo) (V:VolS):HA:=exA fun y:VH=>pu (VHok V y∧y.x.d=d) (stars (volL v d g V y))
section
variable {N:Nat} {β:Type} {l:List HA} {S:β→HA} {v d:Nat} {g:Geo} {V:VolS} {m:M β}
theorem z1o (n:Nat) (hl:l[n]? = some (VolA v d g V)) (k:∀y,VHok V y→y.x.d=d→Tri (stars (cat (volL v d g V y) (del l n))) m S):Tri (stars l) m S:=
 z92 (γ:=VH) (φ:=fun y=>VHok V y∧y.x.d=d) (L:=fun y=>volL v d g V y) n hl (fun _ ⟨x,h1,h2⟩=>⟨x,h1,h2⟩) fun x h=>k x h.1 h.2
theorem z11 {y:VH} {q:PH} (hy:VHok V y) (hd:y.x.d=d) (h:stars (volL v d g V y) q):stars [VolA v d g V] q:=by
 rw [z0k]
 exact ⟨y,⟨hy,hd⟩,h⟩
theorem z6j (n:Nat) {x:VC} (hl:l[n]? = some (pts v (.cells (volC g x) false))) {f:Sl→M β} (kk:Tri (stars l) (f x.rows) S):Tri (stars l) (bd (nonNil (some ⟨v,0⟩)) fun q=>bd (fld q 0) fun q=>bd (fld q 0) fun q=>bd (fld q 0) fun q=>bd (ldL 2 q) f) S:=
 z0g (z05 (z05 (z05 (z0o n hl rfl kk))))
theorem z5t (n:Nat) {x:VC} (hl:l[n]? = some (pts v (.cells (volC g x) false))) {f:Sl→M β} (kk:Tri (stars l) (f x.own) S):Tri (stars l) (bd (nonNil (some ⟨v,0⟩)) fun q=>bd (fld q 0) fun q=>bd (fld q 0) fun q=>bd (fld q 1) fun q=>bd (ldL 1 q) f) S:=
 z0g (z05 (z05 (z05 (z0o n hl rfl kk))))
theorem z6k (n:Nat) {x:VC} (hl:l[n]? = some (pts v (.cells (volC g x) false))) {f:Sl→M β} (kk:Tri (stars l) (f x.used) S):Tri (stars l) (bd (nonNil (some ⟨v,0⟩)) fun q=>bd (fld q 0) fun q=>bd (fld q 0) fun q=>bd (fld q 2) fun q=>bd (ldL 1 q) f) S:=
 z0g (z05 (z05 (z05 (z0o n hl rfl kk))))
theorem z3t (n:Nat) {x:VC} (hl:l[n]? = some (pts v (.cells (volC g x) false))) {f:Sl→M β} (kk:Tri (stars l) (f x.ino) S):Tri (stars l) (bd (nonNil (some ⟨v,0⟩)) fun q=>bd (fld q 0) fun q=>bd (fld q 0) fun q=>bd (fld q 3) fun q=>bd (ldL 14 q) f) S:=
 z0g (z05 (z05 (z05 (z0o n hl rfl kk))))
theorem zib (n:Nat) {x:VC} (hl:l[n]? = some (pts v (.cells (volC g x) false))) {f:Option Nat→M β} (kk:Tri (stars l) (f (some x.mp)) S):Tri (stars l) (bd (nonNil (some ⟨v,0⟩)) fun q=>bd (fld q 0) fun q=>bd (fld q 4) fun q=>bd (ldM q) f) S:=
 z0g (z05 (z05 (z1z n hl (fun _ hg=>zdr hg rfl) kk)))
theorem zv5 (n:Nat) {x:VC} (hl:l[n]? = some (pts v (.cells (volC g x) false))) {f:Int→M β} (kk:Tri (stars l) (f g.G) S):Tri (stars l) (bd (nonNil (some ⟨v,0⟩)) fun q=>bd (fld q 6) fun q=>bd (fld q 2) fun q=>bd (ldI .i64 q) f) S:=
 z0g (z05 (z05 (z1c n hl rfl kk)))
theorem z4a (n:Nat) {x:VC} (hl:l[n]? = some (pts v (.cells (volC g x) false))) {f:Int→M β} (kk:Tri (stars l) (f g.P) S):Tri (stars l) (bd (nonNil (some ⟨v,0⟩)) fun q=>bd (fld q 6) fun q=>bd (fld q 3) fun q=>bd (ldI .i64 q) f) S:=
 z0g (z05 (z05 (z1c n hl rfl kk)))
theorem zre (n:Nat) {x:VC} (hl:l[n]? = some (pts v (.cells (volC g x) false))) {f:Int→M β} (kk:Tri (stars l) (f g.blk) S):Tri (stars l) (bd (nonNil (some ⟨v,0⟩)) fun q=>bd (fld q 10) fun q=>bd (fld q 5) fun q=>bd (ldI .i64 q) f) S:=
 z0g (z05 (z05 (z1c n hl rfl kk)))
theorem za8 (n:Nat) {x:VC} (hl:l[n]? = some (pts v (.cells (volC g x) false))) {s:Sl} {f:Unit→M β} (kk:Tri (stars (upd l n (pts v (.cells (volC g {x with rows:=s}) false)))) (f ()) S):Tri (stars l) (bd (nonNil (some ⟨v,0⟩)) fun q=>bd (fld q 0) fun q=>bd (fld q 0) fun q=>bd (fld q 0) fun q=>bd (stc q (.sl s.p s.len 2)) f) S:=
 z0g (z05 (z05 (z05 (z14 n hl (by simp [volC]) rfl kk))))
theorem zoq (n:Nat) {x:VC} (hl:l[n]? = some (pts v (.cells (volC g x) false))) {s:Sl} {f:Unit→M β} (kk:Tri (stars (upd l n (pts v (.cells (volC g {x with used:=s}) false)))) (f ()) S):Tri (stars l) (bd (nonNil (some ⟨v,0⟩)) fun q=>bd (fld q 0) fun q=>bd (fld q 0) fun q=>bd (fld q 2) fun q=>bd (stc q (.sl s.p s.len 1)) f) S:=
 z0g (z05 (z05 (z05 (z14 n hl (by simp [volC]) rfl kk))))
def VolS.wM (V:VolS) (m:MetaS):VolS:={V with n:={V.n with m:=m}}
def VolS.wRows (V:VolS) (r:List Row):VolS:=V.wM {V.n.m with rows:=r}
def VolS.wOwn (V:VolS) (r:List Nat):VolS:=V.wM {V.n.m with own:=r}
def VolS.wUsed (V:VolS) (r:List UInt8):VolS:=V.wM {V.n.m with used:=r}
def VolS.wIno (V:VolS) (r:List Ino):VolS:=V.wM {V.n.m with ino:=r}
theorem VHok.wM {y:VH} (h:VHok V y) (mm:MetaS) (x:VC) (hx:x.dead=y.x.dead):VHok (V.wM mm) {y with x:=x}:=⟨h.1,h.2,h.3,h.4,hx.trans h.5⟩
theorem za9 {i:Nat} (hu:V.n.m.used.length=64) (hi:i<512) (on:Bool):Tri (stars [VolA v d g V]) (F_0o N (some ⟨v,0⟩) (i:Int) on) fun _=>stars [VolA v d g (V.wUsed (setBit V.n.m.used i on))]:=by
 unfold F_0o
 refine z1o 0 rfl fun y hy hd=>?_
 dsimp only [sel,rem,nth,del,cat,upd,volL]
 refine z6k 0 rfl ?_
 refine z0a 3 rfl fun h3=>?_
 refine z01 [3] (zp2 (z0e h3) (by omega) (by omega) on) fun r=>z03 fun hr=>z00 ?_
 dsimp only [sel,rem,nth,del,cat,upd]
 refine zoq 2 rfl ?_
 dsimp only [sel,rem,nth,del,cat,upd] 
 refine z02 [2,2,2,0,1,1,1,1,1,1,1] fun q hq=>?_
 exact z11 (V:=V.wUsed _) (y:={y with x:={y.x with used:=r.1}}) (hy.wM _ _ rfl) hd hq
theorem zjl {k:Nat} (hu:V.n.m.used.length=64) (hg:g.ok) (hk:k<g.G) (hN:5000<N):Tri (stars [VolA v d g V]) (F_0n N (some ⟨v,0⟩) (k:Int)) fun r=>pu (r=(cntB V.n.m.used (k * g.P) ((k+1) * g.P):Nat)) (stars [VolA v d g V]):=by
 have hgp:=hg.gp
 have hpp:=hg.pp
 have hb:(k+1) * g.P≤g.G * g.P:=Nat.mul_le_mul_right _ hk
 have hb2:k * g.P≤(k+1) * g.P:=Nat.mul_le_mul_right _ (by omega)
 unfold F_0n
 refine z1o 0 rfl fun y hy hd=>?_
 dsimp only [sel,rem,nth,del,cat,upd,volL]
 refine z6k 0 rfl (z4a 0 rfl (z4a 0 rfl ?_))
 have e1:(k:Int) * (g.P:Int)=((k * g.P:Nat):Int):=by simp
 have e2:wr .i64 ((k:Int)+1)=((k+1:Nat):Int):=by rw [wr64 (by have:=hg.g2;omega) (by have:=hg.g2;omega)];simp
 have e3:((k+1:Nat):Int) * (g.P:Int)=(((k+1) * g.P:Nat):Int):=by simp
 rw [e1,e2,e3,wr64 (by omega) (by omega),wr64 (by omega) (by omega)]
 refine z0a 3 rfl fun h3=>?_
 refine z01 [3] (z95 (z0e h3) (by omega) hb2 (by omega) hN) fun r=>z03 fun hr=>z00 ?_
 dsimp only [sel,rem,nth,del,cat,upd]
 refine z02 [1,1,1,0,0,0,0,0,0,0,0] fun q hq=>⟨hr,z11 hy hd hq⟩
end
end Go.Moat

/- Layer 15: the volume's functions that leave the disk alone. -/
namespace Go.Moat
open Go.Mini
def MetaS.isAt (g:Geo) (m:MetaS) (row:Nat) (i:Nat):Bool:=decide (m.own[i / g.P]? = some (row+1)) && !getBit m.used i
def MetaS.atB (g:Geo) (m:MetaS) (a:Nat):Option Nat:=match m.rows.findIdx? (isRow a) with
 | some r=>(List.range' 0 g.B).find? (m.isAt g r)
 | none=>none
def isNone0 (o:Nat):Bool:=decide (o=0)
def MetaS.alloc (g:Geo) (m:MetaS) (a:Nat):(Int×Int)×MetaS:=match m.atB g a with
 | some b=>(((b:Int),0),{m with used:=setBit m.used b true})
 | none=>match m.own.findIdx? isNone0 with
  | none=>((0,5),m)
  | some k=>if retE m.rows a=0 then ((((k * g.P:Nat):Int),0),{m with rows:=retR m.rows a,own:=m.own.set k (retI m.rows a+1),used:=setBit m.used (k * g.P) true}) else ((0,retE m.rows a),m)
def MetaS.usedE (g:Geo) (m:MetaS) (b:Int):Int:=if 0≤b∧b<g.B then (if getBit m.used b.toNat then 0 else 2) else 1
def MetaS.ownT (g:Geo) (m:MetaS) (b:Nat):Nat:=match m.own[b / g.P]?.getD 0 with
 | 0=>0
 | o+1=>(rowN m.rows o).1
def MetaS.free (g:Geo) (m:MetaS) (b:Nat):MetaS:=
 if cntB (setBit m.used b false) (b / g.P * g.P) ((b / g.P+1) * g.P)=0 then {m with used:=setBit m.used b false,rows:=relR m.rows (m.own[b / g.P]?.getD 0 - 1),own:=m.own.set (b / g.P) 0} else {m with used:=setBit m.used b false}
def isFreeI (n:Ino):Bool:=decide (n.k=0)
def mkIno (k r:Nat):Ino:=⟨k,r,⟨List.replicate 12 0,by simp⟩⟩
def MetaS.make (m:MetaS) (kind a:Nat):(Int×Int)×MetaS:=
 if kind=1∨kind=2 then (match m.ino.findIdx? isFreeI with
  | none=>((0,5),m)
  | some i=>if retE m.rows a=0 then (((i:Int),0),{m with rows:=retR m.rows a,ino:=m.ino.set i (mkIno kind (retI m.rows a))}) else ((0,retE m.rows a),m))
 else ((0,1),m)
def inoN (l:List Ino) (i:Nat):Ino:=l[i]?.getD Ino.z
def MetaS.hasE (m:MetaS) (i:Int):Int:=if 0≤i∧i<m.ino.length then (if (inoN m.ino i.toNat).k=0 then 2 else 0) else 1
def MetaS.unmake (m:MetaS) (i:Nat):MetaS:={m with rows:=relR m.rows (inoN m.ino i).r,ino:=m.ino.set i Ino.z}
def MetaS.setE (m:MetaS) (i:Int) (n:Ino):Int:=if m.hasE i=1 then 1 else if n.ok=false∨n.k=0 then 1 else if m.hasE i≠0 then 2 else if n.k≠(inoN m.ino i.toNat).k∨n.r≠(inoN m.ino i.toNat).r then 1 else 0
structure RefOk (m:MetaS):Prop where
 own:∀o∈m.own,0<o→0<(rowN m.rows (o - 1)).2
 ino:∀n∈m.ino,n.k≠0→0<(rowN m.rows n.r).2
section
variable {N:Nat} {β:Type} {l:List HA} {S:β→HA} {v d:Nat} {g:Geo} {V:VolS} {m:M β}
theorem zjo (hg:g.ok) (i:Int):Tri (stars [VolA v d g V]) (F_2j N (some ⟨v,0⟩) i) fun r=>pu (r=decide (0≤i∧i<g.B)) (stars [VolA v d g V]):=by
 have hgp:=hg.gp
 unfold F_2j
 refine z01 [0] (Q:=fun r=>pu (r=decide (0≤i∧i<g.B)) (stars [VolA v d g V])) ?_ fun r=>z03 fun h=>z00 (z02 [0] fun q hq=>⟨h,hq⟩)
 by_cases h:0≤i
 ·refine z08 (by simpa using h) ?_
  refine z1o 0 rfl fun y hy hd=>?_
  dsimp only [sel,rem,nth,del,cat,upd,volL]
  refine zv5 0 rfl (z4a 0 rfl ?_)
  have e1:(g.G:Int) * (g.P:Int)=((g.G * g.P:Nat):Int):=by simp
  rw [e1,wr64 (by omega) (by omega)]
  refine z02 [0,0,0,0,0,0,0,0,0,0,0] fun q hq=>⟨?_,z11 hy hd hq⟩
  simp [h,Geo.B]
 ·refine z04 (by simpa using h) (z02 [0] fun q hq=>⟨by simp [h],hq⟩)
theorem zdz (hg:g.ok) (hu:V.n.m.used.length=64) (i:Int):Tri (stars [VolA v d g V]) (F_1d N (some ⟨v,0⟩) i) fun r=>pu (r=V.n.m.usedE g i) (stars [VolA v d g V]):=by
 unfold F_1d
 refine z04 (by simp) ?_
 refine z01 [0] (zjo hg i) fun r=>z03 fun h=>z00 ?_
 dsimp only [sel,rem,nth,del,cat,upd]
 unfold MetaS.usedE
 by_cases hi:0≤i∧i<g.B
 ·rw [if_pos hi]
  refine z04 (by simp [h,hi]) ?_
  refine z1o 0 rfl fun y hy hd=>?_
  dsimp only [sel,rem,nth,del,cat,upd,volL]
  refine z6k 0 rfl ?_
  refine z0a 3 rfl fun h3=>?_
  refine z01 [3] (zil (z0e h3) (by omega) i) fun r=>z03 fun hr=>z00 ?_
  dsimp only [sel,rem,nth,del,cat,upd]
  have e:decide (0≤i)=true:=by simp [hi.1]
  rw [e,Bool.true_and] at hr
  subst hr
  cases hb:getBit V.n.m.used i.toNat
  ·refine z08 rfl (z02 [1,1,1,0,0,0,0,0,0,0,0] fun q hq=>⟨by simp,z11 hy hd hq⟩)
  ·refine z04 (by simp) (z02 [1,1,1,0,0,0,0,0,0,0,0] fun q hq=>⟨by simp,z11 hy hd hq⟩)
 ·rw [if_neg hi]
  refine z08 (by simp [h];omega) (z02 [0] fun q hq=>⟨rfl,hq⟩)
theorem zrs (v':Option MA) (b:Int):RO (F_0q N v' b):=by
 unfold F_0q
 repeat' first
  | exact z2s _
  | exact z85
  | exact z7k _
  | exact za7 _ _
  | exact zon _ _
  | exact zom _ _
  | exact zv3 _ _ _
  | (refine ro_bd ?_ fun _=>?_)
  | split
theorem zmc {y:VH} {T:List HA} (hg:g.ok) (ok:MetaOk g V.n.m) {b:Nat} (hb:b<g.B) :
  Tri (stars [pts v (.cells (volC g y.x) false),OwnA y.x.rows 2 (rowsC V.n.m.rows),OwnA y.x.own 1 (ownC V.n.m.own)]) (F_0q N (some ⟨v,0⟩) (b:Int)) fun r=>pu (r=(V.n.m.ownT g b:Nat)) (stars [pts v (.cells (volC g y.x) false),OwnA y.x.rows 2 (rowsC V.n.m.rows),OwnA y.x.own 1 (ownC V.n.m.own)]):=by
 have hp1:=hg.p1
 have hgp:=hg.gp
 have hk:b / g.P<g.G:=by
  rw [Nat.div_lt_iff_lt_mul (by omega)]
  exact hb
 have hkl:b / g.P<V.n.m.own.length:=by rw [ok.ownl];exact hk
 unfold F_0q
 refine z5t 0 rfl (z4a 0 rfl ?_)
 rw [if_neg (by omega)]
 have e1:(b:Int).tdiv (g.P:Int)=((b / g.P:Nat):Int):=rfl
 have hb5:b<512:=by unfold Geo.B at hb;omega
 have hb6:=Nat.div_le_self b g.P
 rw [e1]
 unfold MetaS.ownT
 generalize b / g.P=bq at hk hkl hb6
 rw [wr64 (by omega) (by omega)]
 refine z0a 2 rfl fun h2=>?_
 refine z1t 2 rfl (z0e h2) (i:=bq) (k :=.i64) (v:=(V.n.m.own[bq]:Nat)) (by simp [i64s,hkl]) ?_
 have ho:=ok.own16 _ (List.getElem_mem hkl)
 rw [List.getElem?_eq_getElem hkl]
 dsimp only [Option.getD_some]
 generalize V.n.m.own[bq]=o at ho
 cases o with
 | zero=>exact z04 (by simp) (z02 [0,0,0] fun q hq=>⟨rfl,hq⟩)
 | succ o=>
  have hol:o<V.n.m.rows.length:=by rw [ok.rows.len];omega
  refine z08 (by simp) (z6j 0 rfl ?_)
  have e2:wr .i64 (((o+1:Nat):Int) - 1)=(o:Int):=by rw [wr64 (by omega) (by omega)];omega
  rw [e2]
  refine z0a 1 rfl fun h1=>?_
  rw [z0i z0r] at h1
  refine z13 1 rfl (z0e (by rw [z0i z0r];omega)) (i:=o) (o:=0) (by omega) (by omega) (v:=(V.n.m.rows[o].1:Nat)) (by rw [z1q z0r hol (by omega)];rfl) ?_
  refine z02 [0,0,0] fun q hq=>⟨?_,hq⟩
  simp [rowN,hol]
def NowS.write (g:Geo) (n:NowS) (b:Nat) (bs:List UInt8):NowS:={n with dirty:=putA n.dirty b (bs,n.m.ownT g b)}
def VolS.write (g:Geo) (V:VolS) (b:Nat) (bs:List UInt8):VolS:={V with n:=V.n.write g b bs}
theorem ztw (ok:MetaOk g V.n.m) (b:Nat):V.n.m.ownT g b<65536:=by
 unfold MetaS.ownT
 split
 ·omega
 ·rename_i o _
  unfold rowN
  cases h:V.n.m.rows[o]? with
  | none=>simp
  | some r=>exact (ok.rows.rng _ (List.mem_of_getElem? h)).1
theorem zbm (hg:g.ok) (ok:MetaOk g V.n.m) {b:Nat} (hb:b<g.B) {s:Sl} {bs:List UInt8} (hs:s.len=64) (h64:bs.length=64) :
  Tri (stars [VolA v d g V,OwnA s 1 (bytesOf bs)]) (F_1e N (some ⟨v,0⟩) (b:Int) s) fun _=>stars [VolA v d g (V.write g b bs)]:=by
 have hall:=hg.all_le
 have:g.all=g.blk+g.B:=rfl
 unfold F_1e
 refine z1o 0 rfl fun y hy hd=>?_
 dsimp only [sel,rem,nth,del,cat,upd,volL]
 refine zib 0 rfl (zre 0 rfl ?_)
 rw [z5h (zrs _ _)]
 refine z01 [0,0,0] (zmc (T:=[]) hg ok hb) fun r=>z03 fun hr=>z00 ?_
 dsimp only [sel,rem,nth,del,cat,upd]
 subst hr
 have e1:(g.blk:Int)+(b:Int)=((g.blk+b:Nat):Int):=by simp
 rw [e1,wr64 (by omega) (by omega)]
 refine zeq 5 rfl _ _ ?_
 dsimp only [sel,rem,nth,del,cat,upd]
 refine z02 [0,0,0,0,0,0,5,0,0,0,0,0] fun q hq=>?_
 let x:DV:=⟨s,bs,V.n.m.ownT g b⟩
 have e2:putK (dkv g y.L) (b:Int) (.agg [.int .i64 ((g.blk+b:Nat):Int),.sl s.p s.len 1,.int .u16 (V.n.m.ownT g b:Nat)])=dkv g (putA y.L b x):=by
  have:=zi7 (fun k z=>dvC g k z) x y.L (b:Int)
  rw [dkv,dkv,←this]
  congr 1
 rw [e2] at hq
 dsimp only [sel,rem,nth,del,cat,upd] at hq
 have hmem:∀e∈putA y.L (b:Int) x,e=((b:Int),x)∨e∈y.L:=fun e he=>zc8 he
 refine z11 (y:={y with L:=putA y.L b x,P:=(s,bs)::y.P}) ⟨?_,⟨?_,?_,?_⟩,hy.safe,fun e he=>?_,hy.dead⟩ hd ?_
 ·show forget (putA y.L b x)=putA V.n.dirty b (bs,V.n.m.ownT g b)
  rw [←hy.dirty]
  exact zi8 DV.f x y.L (b:Int)
 ·intro e he
  rcases hmem e he with rfl | he
  ·exact List.mem_cons_self
  ·exact List.mem_cons_of_mem _ (hy.dok.mem e he)
 ·intro e he
  rcases hmem e he with rfl | he
  ·exact ⟨hs,h64⟩
  ·exact hy.dok.len e he
 ·intro e he
  rcases hmem e he with rfl | he
  ·exact ztw ok b
  ·exact hy.dok.tag e he
 ·have:=hy.smem e he
  exact ⟨List.mem_cons_of_mem _ this.1,this.2⟩
 ·refine z0s (fun q=>z0s (fun q=>z0s (fun q=>z0s (fun q=>z0s (fun q=>z0s (fun q hq=>zfm ?_))))) ) hq
  exact z0s (fun q=>z0s (fun q=>z0s (fun q=>z0s (fun q=>z0s (fun q=>z2b (BefA.mono _)))))) hq
theorem zfw (ok:RowsOk V.n.m.rows) {i:Nat} (hi:i<16) (h0:0<(rowN V.n.m.rows i).2) (hN:100<N):Tri (stars [VolA v d g V]) (F_1f N (some ⟨v,0⟩) (i:Int)) fun _=>stars [VolA v d g (V.wRows (relR V.n.m.rows i))]:=by
 unfold F_1f
 refine z1o 0 rfl fun y hy hd=>?_
 dsimp only [sel,rem,nth,del,cat,upd,volL]
 refine z6j 0 rfl ?_
 refine z0a 1 rfl fun h1=>?_
 refine z01 [1] (zin ok (z0e h1) hi h0 hN) fun r=>z03 fun hr=>z00 ?_
 dsimp only [sel,rem,nth,del,cat,upd]
 refine za8 2 rfl ?_
 dsimp only [sel,rem,nth,del,cat,upd]
 refine z02 [2,0,1,1,1,1,1,1,1,1,1] fun q hq=>?_
 exact z11 (V:=V.wRows _) (y:={y with x:={y.x with rows:=r.1}}) (hy.wM _ _ rfl) hd hq
theorem z9d (n:Nat) {s:Sl} {o:List Nat} (hl:l[n]? = some (OwnA s 1 (ownC o))) {k x:Nat} (hk:k<o.length) {f:Unit→M β} (kk:Tri (stars (upd l n (OwnA s 1 (ownC (o.set k x))))) (f ()) S):Tri (stars l) (bd (idx 1 s (k:Int)) fun q=>bd (stc q (.int .i64 x)) f) S:=by
 refine z3k n hl (fun h1 h2=>?_) fun b ln h1 h2=>?_
 ·have:=congrArg List.length h2
  rw [z1i,List.length_nil] at this
  omega
 ·subst h1
  rw [z1i] at h2
  refine z15 (by omega) (z14 n (z1v l n _ hl) (by rw [z1i];omega) rfl ?_)
  rw [upd_upd,Nat.zero_add,Nat.mul_one]
  have e:(ownC o).set k (.int .i64 x)=ownC (o.set k x):=by
   unfold ownC i64s
   rw [List.map_set,List.map_set]
  rw [e]
  refine kk.pre fun q hq=>?_
  have:=z1s n (l:=upd l n (pts b (.cells (ownC (o.set k x)) false))) (B:=OwnA ⟨some ⟨b,0⟩,ln⟩ 1 (ownC (o.set k x))) (z1v l n _ hl) (fun q h =>.mk (by rw [z1i,List.length_set];exact h2) h) q hq
  rwa [upd_upd] at this
theorem z61 (n:Nat) {s:Sl} {o:List Ino} (hl:l[n]? = some (OwnA s 14 (inosC o))) {k:Nat} {x:Ino} (hk:k<o.length) {f:Unit→M β} (kk:Tri (stars (upd l n (OwnA s 14 (inosC (o.set k x))))) (f ()) S):Tri (stars l) (bd (idx 14 s (k:Int)) fun q=>bd (stn 14 q (inoC x)) f) S:=by
 have hb:k * 14+14≤o.length * 14:=z1p hk
 refine z3k n hl (fun h1 h2=>?_) fun b ln h1 h2=>?_
 ·have:=congrArg List.length h2
  rw [z0i z0c,List.length_nil] at this
  omega
 ·subst h1
  rw [z0i z0c] at h2
  refine z15 (by omega) (z2z n (z1v l n _ hl) (z0c x) (by rw [z0i z0c,z0c];omega) (z4e x) ?_)
  rw [upd_upd,Nat.zero_add,z9b z0c hk]
  refine kk.pre fun q hq=>?_
  have:=z1s n (l:=upd l n (pts b (.cells (inosC (o.set k x)) false))) (B:=OwnA ⟨some ⟨b,0⟩,ln⟩ 14 (inosC (o.set k x))) (z1v l n _ hl) (fun q h =>.mk (by rw [z0i z0c,List.length_set];exact h2) h) q hq
  rwa [upd_upd] at this
theorem zjp {T:HA} {s:Sl} {o:List Nat} (hr:RdC T s 1 (ownC o)) (hl:o.length≤64) (hN:100<N):Tri (stars [T]) (F_2h N s 0) fun r=>pu (r=fi isNone0 o) (stars [T]):=by
 have hlen:s.len=o.length:=by
  have:=hr.1
  rw [z1i] at this
  omega
 unfold F_2h
 refine z7d (A:=stars [T]) isNone0 o (by omega) (fun rec i hi Q k=>?_) fun rec Q k=>?_
 ·unfold F_4r
  refine z08 (by simp [hlen];omega) ?_
  refine z1t 0 rfl hr (k :=.i64) (v:=(o[i]:Nat)) (by simp [i64s,hi]) ?_
  rw [wr64 (by omega) (by omega)]
  have:(decide ((0:Int)=((o[i]:Nat):Int)))=isNone0 o[i]:=by
   unfold isNone0
   congr 1
   apply propext
   omega
  rw [this]
  exact k
 ·unfold F_4r
  exact z04 (by simp [hlen]) k
theorem zbn (hg:g.ok) (ok:MetaOk g V.n.m) {a:Nat} (ha:a<65536) (hN:5000<N):Tri (stars [VolA v d g V]) (F_06 N (some ⟨v,0⟩) (a:Int)) fun r=>pu (r=(V.n.m.alloc g a).1) (stars [VolA v d g (V.wM (V.n.m.alloc g a).2)]):=by
 have hgp:=hg.gp
 have hpp:=hg.pp
 have hG:=hg.g2
 have hp1:=hg.p1
 have hB:g.B=g.G * g.P:=rfl
 have hol:=ok.ownl
 have hul:=ok.usedl
 unfold F_06
 refine z04 (by simp) ?_
 refine z1o 0 rfl fun y hy hd=>?_
 dsimp only [sel,rem,nth,del,cat,upd,volL]
 refine z6j 0 rfl ?_
 refine z0a 1 rfl fun h1=>z0a 2 rfl fun h2=>z0a 3 rfl fun h3=>?_
 refine z01 [1] (zm7 ha ok.rows (z0e h1) (by omega)) fun r8=>z03 fun hr8=>z00 ?_
 dsimp only [sel,rem,nth,del,cat,upd]
 refine z5t 1 rfl ?_
 rw [z1i] at h2
 -- the groups
 have keep:VolS.wM V V.n.m=V:=rfl
 have loop:∀(K k:Nat),g.G - k<K→k≤g.G→(∀r,V.n.m.rows.findIdx? (isRow a)=some r→∀i,i<k * g.P→V.n.m.isAt g r i=false) →
   Tri (stars (volL v d g V y)) (iter K (F_3c N (some ⟨v,0⟩) r8 y.x.own) (k:Int)) fun r=>match V.n.m.atB g a with
    | some b=>pu (r=.inr ((b:Int),0)) (stars [VolA v d g (V.wM {V.n.m with used:=setBit V.n.m.used b true})])
    | none=>pu (r=.inl ()) (stars (volL v d g V y)):=by
  intro K
  induction K with
  | zero=>intro k h;omega
  | succ K ih=>
   intro k h hk hno
   rw [z0q]
   unfold F_3c
   by_cases hkG:k<g.G
   ·refine z08 (by simp;omega) ?_
    have hkl:k<V.n.m.own.length:=by omega
    have hb1:k * g.P≤(k+1) * g.P:=Nat.mul_le_mul_right _ (by omega)
    have hb2:(k+1) * g.P≤g.G * g.P:=Nat.mul_le_mul_right _ hkG
    rw [wr64 (n:=(k:Int)+1) (by omega) (by omega)]
    have next:(∀r,V.n.m.rows.findIdx? (isRow a)=some r→∀i,i<(k+1) * g.P→V.n.m.isAt g r i=false)→Tri (stars (volL v d g V y)) (iter K (F_3c N (some ⟨v,0⟩) r8 y.x.own) ((k:Int)+1)) fun r=>match V.n.m.atB g a with
      | some b=>pu (r=.inr ((b:Int),0)) (stars [VolA v d g (V.wM {V.n.m with used:=setBit V.n.m.used b true})])
      | none=>pu (r=.inl ()) (stars (volL v d g V y)):=fun hh=>ih (k+1) (by omega) (by omega) hh
    -- is it one of the label's?
    have hskip:(∀r,V.n.m.rows.findIdx? (isRow a)=some r→V.n.m.own[k]≠r+1)→∀r,V.n.m.rows.findIdx? (isRow a)=some r→∀i,i<(k+1) * g.P→V.n.m.isAt g r i=false:=by
     intro hne r hr i hi
     by_cases hik:i<k * g.P
     ·exact hno r hr i hik
     ·have:i / g.P=k:=by
       rw [Nat.div_eq_iff (by omega)]
       have:(k+1) * g.P=k * g.P+g.P:=by rw [Nat.add_mul,Nat.one_mul]
       omega
      unfold MetaS.isAt
      rw [this,List.getElem?_eq_getElem hkl]
      have:=hne r hr
      simp [this]
    cases hrow:V.n.m.rows.findIdx? (isRow a) with
    | none=>
     rw [hrow] at hr8
     subst hr8
     refine z01 [0,0,0,0,0,0,0,0,0,0,0] (Q:=fun r=>pu (r=.inl ()) (stars (volL v d g V y))) ?_ fun r=>z03 fun hr=>z00 ?_
     ·refine z1t 2 rfl (z0e (by rw [z1i];exact h2)) (i:=k) (k :=.i64) (v:=(V.n.m.own[k]:Nat)) (by simp [i64s,hkl]) ?_
      exact z08 rfl (z02 [0,0,0,0,0,0,0,0,0,0,0] fun q hq=>⟨rfl,hq⟩)
     ·subst hr
      exact next (hskip fun r hr=>by rw [hrow] at hr;cases hr)
    | some r=>
     rw [hrow] at hr8
     subst hr8
     have hr16:r<16:=by
      have:=(List.findIdx?_eq_some_iff_getElem.1 hrow).1
      rw [ok.rows.len] at this
      exact this
     by_cases hko:V.n.m.own[k]=r+1
     ·-- a bit of it
      have hfind:∀b,firstB V.n.m.used (k * g.P) ((k+1) * g.P) false=some b→V.n.m.atB g a=some b∧b<512:=by
       intro b hb
       unfold firstB at hb
       rw [List.find?_range'_eq_some] at hb
       obtain ⟨hb3,hb4,hb5⟩:=hb
       obtain ⟨hb6,hb7⟩:=List.mem_range'_1.1 hb4
       refine ⟨?_,by omega⟩
       unfold MetaS.atB
       rw [hrow]
       dsimp only
       rw [List.find?_range'_eq_some]
       have hdiv:∀i,k * g.P≤i→i<(k+1) * g.P→i / g.P=k:=by
        intro i h1 h2
        rw [Nat.div_eq_iff (by omega)]
        have:(k+1) * g.P=k * g.P+g.P:=by rw [Nat.add_mul,Nat.one_mul]
        omega
       have hat:∀i,k * g.P≤i→i<(k+1) * g.P→V.n.m.isAt g r i = !getBit V.n.m.used i:=by
        intro i h1 h2
        unfold MetaS.isAt
        rw [hdiv i h1 h2,List.getElem?_eq_getElem hkl,hko]
        simp
       refine ⟨?_,?_,fun i h1 h2=>?_⟩
       ·rw [hat b hb6 (by omega)]
        simpa using hb3
       ·rw [List.mem_range'_1]
        omega
       ·by_cases hik:i<k * g.P
        ·rw [hno r hrow i hik];rfl
        ·rw [hat i (by omega) (by omega)]
         have:=hb5 i (by omega) h2
         simpa using this
      have hnone:firstB V.n.m.used (k * g.P) ((k+1) * g.P) false=none→∀r',V.n.m.rows.findIdx? (isRow a)=some r'→∀i,i<(k+1) * g.P→V.n.m.isAt g r' i=false:=by
       intro hn r' hr' i hi
       by_cases hik:i<k * g.P
       ·exact hno r' hr' i hik
       ·unfold firstB at hn
        rw [List.find?_eq_none] at hn
        have:=hn i (by rw [List.mem_range'_1];omega)
        have hu:getBit V.n.m.used i=true:=by simpa using this
        unfold MetaS.isAt
        rw [hu]
        simp
      cases hf:firstB V.n.m.used (k * g.P) ((k+1) * g.P) false with
      | none=>
       refine z01 [0,0,0,0,0,0,0,0,0,0,0] (Q:=fun r=>pu (r=.inl ()) (stars (volL v d g V y))) ?_ fun r=>z03 fun hr=>z00 ?_
       ·refine z1t 2 rfl (z0e (by rw [z1i];exact h2)) (i:=k) (k :=.i64) (v:=(V.n.m.own[k]:Nat)) (by simp [i64s,hkl]) ?_
        dsimp only
        rw [wr64 (n:=(r:Int)+1) (by omega) (by omega)]
        refine z04 (by simp [hko]) ?_
        refine z6k 0 rfl (z4a 0 rfl (z4a 0 rfl ?_))
        have e1:(k:Int) * (g.P:Int)=((k * g.P:Nat):Int):=by simp
        have e2:((k:Int)+1) * (g.P:Int)=(((k+1) * g.P:Nat):Int):=by simp
        rw [e1,e2,wr64 (by omega) (by omega),wr64 (by omega) (by omega)]
        refine z01 [3] (zdv (z0e h3) (by omega) hb1 (by omega) false hN) fun r31=>z03 fun hr31=>z00 ?_
        rw [hf] at hr31
        subst hr31
        exact z04 (by simp) (z02 [1,1,1,0,0,0,0,0,0,0,0] fun q hq=>⟨rfl,hq⟩)
       ·subst hr
        exact next (hnone hf)
      | some b=>
       obtain ⟨hat,hb512⟩:=hfind b hf
       rw [hat]
       refine z01 [0,0,0,0,0,0,0,0,0,0,0] (Q:=fun r=>pu (r=.inr ((b:Int),0)) (stars [VolA v d g (V.wM {V.n.m with used:=setBit V.n.m.used b true})])) ?_ fun r=>z03 fun hr=>z00 ?_
       ·refine z1t 2 rfl (z0e (by rw [z1i];exact h2)) (i:=k) (k :=.i64) (v:=(V.n.m.own[k]:Nat)) (by simp [i64s,hkl]) ?_
        dsimp only
        rw [wr64 (n:=(r:Int)+1) (by omega) (by omega)]
        refine z04 (by simp [hko]) ?_
        refine z6k 0 rfl (z4a 0 rfl (z4a 0 rfl ?_))
        have e1:(k:Int) * (g.P:Int)=((k * g.P:Nat):Int):=by simp
        have e2:((k:Int)+1) * (g.P:Int)=(((k+1) * g.P:Nat):Int):=by simp
        rw [e1,e2,wr64 (by omega) (by omega),wr64 (by omega) (by omega)]
        refine z01 [3] (zdv (z0e h3) (by omega) hb1 (by omega) false hN) fun r31=>z03 fun hr31=>z00 ?_
        rw [hf] at hr31
        subst hr31
        dsimp only [sel,rem,nth,del,cat,upd]
        refine z08 rfl ?_
        refine Tri.pre (B:=stars [VolA v d g V]) ?_ fun q hq=>z11 hy hd (zku [1,1,1,0,0,0,0,0,0,0,0] hq)
        exact z01 [0] (za9 hul hb512 true) fun _=>z00 (z02 [0] fun q hq=>⟨rfl,hq⟩)
       ·subst hr
        exact z02 [0] fun q hq=>⟨rfl,hq⟩
     ·refine z01 [0,0,0,0,0,0,0,0,0,0,0] (Q:=fun r=>pu (r=.inl ()) (stars (volL v d g V y))) ?_ fun r=>z03 fun hr=>z00 ?_
      ·refine z1t 2 rfl (z0e (by rw [z1i];exact h2)) (i:=k) (k :=.i64) (v:=(V.n.m.own[k]:Nat)) (by simp [i64s,hkl]) ?_
       dsimp only
       rw [wr64 (n:=(r:Int)+1) (by omega) (by omega)]
       exact z08 (by simp;omega) (z02 [0,0,0,0,0,0,0,0,0,0,0] fun q hq=>⟨rfl,hq⟩)
      ·subst hr
       refine next (hskip fun r' hr'=>?_)
       rw [hrow] at hr'
       cases hr'
       exact hko
   ·obtain rfl:k=g.G:=by omega
    refine z04 (by simp;omega) ?_
    have hat:V.n.m.atB g a=none:=by
     unfold MetaS.atB
     cases hrow:V.n.m.rows.findIdx? (isRow a) with
     | none=>rfl
     | some r=>
      dsimp only
      rw [List.find?_eq_none]
      intro i hi
      rw [List.mem_range'_1] at hi
      rw [hno r hrow i (by omega)]
      simp
    rw [hat]
    exact z0y fun q hq=>⟨rfl,hq⟩
 refine z01 [1,0,0,0,0,0,0,0,0,0,0] (loop N 0 (by omega) (by omega) fun r hr i hi=>by omega) fun r=>?_
 cases hat:V.n.m.atB g a with
 | some b=>
  refine z03 fun hr=>z00 ?_
  subst hr
  refine z02 [0] fun q hq=>⟨?_,?_⟩
  ·unfold MetaS.alloc;rw [hat]
  ·unfold MetaS.alloc;rw [hat];exact hq
 | none=>
  refine z03 fun hr=>z00 ?_
  subst hr
  dsimp only [sel,rem,nth,del,cat,upd,volL]
  refine z5t 0 rfl ?_
  refine z01 [2] (zjp (z0e (by rw [z1i];exact h2)) (by omega) (by omega)) fun r44=>z03 fun hr44=>z00 ?_
  dsimp only [sel,rem,nth,del,cat,upd]
  subst hr44
  cases hfr:V.n.m.own.findIdx? isNone0 with
  | none=>
   rw [z8d hfr]
   have hA:V.n.m.alloc g a=((0,5),V.n.m):=by unfold MetaS.alloc;rw [hat,hfr]
   rw [hA]
   exact z08 (by simp) (z02 [1,1,0,0,0,0,0,0,0,0,0] fun q hq=>⟨rfl,z11 hy hd hq⟩)
  | some k=>
   rw [z8e hfr]
   have hkl:=(List.findIdx?_eq_some_iff_getElem.1 hfr).1
   refine z04 (by simp) ?_
   refine z6j 1 rfl ?_
   refine z01 [2] (zbk ha ok.rows (z0e h1) (by omega)) fun r50=>z03 fun hr50=>z00 ?_
   dsimp only [sel,rem,nth,del,cat,upd]
   by_cases hE:retE V.n.m.rows a=0
   ·have hA:V.n.m.alloc g a=((((k * g.P:Nat):Int),0),{V.n.m with rows:=retR V.n.m.rows a,own:=V.n.m.own.set k (retI V.n.m.rows a+1),used:=setBit V.n.m.used (k * g.P) true}):=by unfold MetaS.alloc;rw [hat,hfr];dsimp only;rw [if_pos hE]
    rw [hA,if_pos hE]
    obtain ⟨e22,e21⟩:=hr50
    obtain ⟨e21,hI⟩:=e21 hE
    have hkP:k * g.P+g.P≤g.G * g.P:=z1p (by omega)
    refine z04 (by simp [e22,hE]) ?_
    refine z5t 3 rfl ?_
    refine za8 3 rfl ?_
    dsimp only [sel,rem,nth,del,cat,upd]
    rw [e21]
    have e3:wr .i64 (((retI V.n.m.rows a:Nat):Int)+1)=((retI V.n.m.rows a+1:Nat):Int):=by rw [wr64 (by omega) (by omega)];simp
    rw [e3]
    refine z9d 2 rfl hkl ?_
    dsimp only [sel,rem,nth,del,cat,upd]
    refine z4a 3 rfl ?_
    have e4:(k:Int) * (g.P:Int)=((k * g.P:Nat):Int):=by simp
    rw [e4,wr64 (by omega) (by omega)]
    let V1:VolS:=V.wM {V.n.m with rows:=retR V.n.m.rows a,own:=V.n.m.own.set k (retI V.n.m.rows a+1)}
    refine z16 [3,0,1,1,1,1,1,1,1,1,1] (Tri.pre (B:=stars [VolA v d g V1]) ?_ fun q hq=>z11 (V:=V1) (y:={y with x:={y.x with rows:=r50.1}}) (hy.wM _ _ rfl) hd hq)
    ·refine z01 [0] (za9 (V:=V1) hul (by omega) true) fun _=>z00 ?_
     dsimp only [sel,rem,nth,del,cat,upd]
     refine z1o 0 rfl fun y2 hy2 hd2=>?_
     dsimp only [sel,rem,nth,del,cat,upd,volL]
     refine z4a 0 rfl ?_
     rw [e4,wr64 (by omega) (by omega)]
     exact z02 [0,0,0,0,0,0,0,0,0,0,0] fun q hq=>⟨rfl,z11 hy2 hd2 hq⟩
   ·have hA:V.n.m.alloc g a=((0,retE V.n.m.rows a),V.n.m):=by unfold MetaS.alloc;rw [hat,hfr];dsimp only;rw [if_neg hE]
    rw [hA]
    refine z08 (by simp [hr50.1,hE]) (z02 [3,1,1,1,1,1,1,1,1,1,1] fun q hq=>⟨by rw [hr50.1],z11 hy hd hq⟩)
end
end Go.Moat

/- Layer 15: blocks and inodes. -/
namespace Go.Moat
open Go.Mini
def zeros64:List UInt8:=List.replicate 64 0
def GrpOk (g:Geo) (m:MetaS):Prop:=∀b,b<g.B→getBit m.used b=true→0<m.own[b / g.P]?.getD 0
def VolS.free (g:Geo) (V:VolS) (b:Nat):VolS:=(V.write g b zeros64).wM (V.n.m.free g b)
def VolS.readE (g:Geo) (V:VolS) (b:Int):Int:=if 0≤b∧b<g.B then (match getA V.n.dirty b with
 | some _=>0
 | none=>getE V.disk (g.blk+b)) else 1
def VolS.readB (g:Geo) (V:VolS) (b:Int):List UInt8:=match getA V.n.dirty b with
 | some x=>x.1
 | none=>(getS V.disk (g.blk+b)).b
def VolS.writeE (g:Geo) (V:VolS) (b:Int) (bs:List UInt8):Int:=if bs.length=64 then V.n.m.usedE g b else 1
section
variable {N:Nat} {β:Type} {l:List HA} {S:β→HA} {v d:Nat} {g:Geo} {V:VolS} {m:M β} {T:HA}
theorem z3y {m:MetaS} {b:Int} (h:m.usedE g b=0):∃k:Nat,b=k∧k<g.B∧getBit m.used k=true:=by
 unfold MetaS.usedE at h
 split at h
 ·rename_i hb
  refine ⟨b.toNat,by omega,by omega,?_⟩
  cases hg:getBit m.used b.toNat with
  | true=>rfl
  | false=>rw [hg] at h;simp at h
 ·cases h
theorem zcd (k:Tri (stars [VolA v d g V]) m S) {y:VH} (hy:VHok V y) (hd:y.x.d=d):Tri (stars (volL v d g V y)) m S:=k.pre fun q hq=>z11 hy hd hq
theorem ze0 (hg:g.ok) (ok:MetaOk g V.n.m) (rf:RefOk V.n.m) (gr:GrpOk g V.n.m) (b:Int) (hN:5000<N) :
  Tri (stars [VolA v d g V]) (F_0j N (some ⟨v,0⟩) b) fun r=>pu (r=V.n.m.usedE g b) (stars [VolA v d g (if V.n.m.usedE g b=0 then V.free g b.toNat else V)]):=by
 have hgp:=hg.gp
 have hp1:=hg.p1
 have hul:=ok.usedl
 unfold F_0j
 refine z01 [0] (zdz hg hul b) fun r=>z03 fun h=>z00 ?_
 subst h
 dsimp only [sel,rem,nth,del,cat,upd]
 by_cases hE:V.n.m.usedE g b=0
 case neg=>exact z08 (by simpa using hE) (z02 [0] fun q hq=>⟨rfl,by rw [if_neg hE];exact hq⟩)
 rw [if_pos hE]
 refine z04 (by simpa using hE) ?_
 rw [hE]
 obtain ⟨k,rfl,hk,hbit⟩:=z3y hE
 rw [Int.toNat_natCast]
 have hB:g.B=g.G * g.P:=rfl
 have hkG:k / g.P<g.G:=by
  rw [Nat.div_lt_iff_lt_mul (by omega)]
  exact hk
 have hkl:k / g.P<V.n.m.own.length:=by rw [ok.ownl];exact hkG
 have h0:=gr k hk hbit
 rw [List.getElem?_eq_getElem hkl,Option.getD_some] at h0
 have h16:=ok.own16 _ (List.getElem_mem hkl)
 refine z3m 64 (by omega) fun sb=>?_
 refine z01 [1,0] (zbm (s:=⟨some ⟨sb,0⟩,64⟩) (bs:=zeros64) hg ok hk rfl (by simp [zeros64]) |>.pre fun q hq=>z0s (fun q=>z2b fun q h =>.mk (by rw [z0b];simp [zeros64]) h) hq) fun _=>z00 ?_
 dsimp only [sel,rem,nth,del,cat,upd]
 let V1:=V.write g k zeros64
 refine z01 [0] (za9 (V:=V1) (i:=k) hul (by omega) false) fun _=>z00 ?_
 dsimp only [sel,rem,nth,del,cat,upd]
 let V2:=V1.wUsed (setBit V.n.m.used k false)
 have hu2:V2.n.m.used.length=64:=by show (setBit V.n.m.used k false).length=64;rw [z3w];exact hul
 have hb6:=Nat.div_le_self k g.P
 have e1:(k:Int).tdiv (g.P:Int)=((k / g.P:Nat):Int):=rfl
 have e2:wr .i64 ((k / g.P:Nat):Int)=((k / g.P:Nat):Int):=by
  generalize k / g.P=bq at hb6
  exact wr64 (by omega) (by omega)
 refine Tri.bd (Q:=fun _=>stars [VolA v d g V2]) (m:=fun h=>some ((),h)) (f:=fun _=>_) (fun h q hq hh=>⟨(),h,q,rfl,hq,hh,Nat.le_refl _,fun _ _ _=>rfl,fun _ hb =>.inl hb⟩) fun _=>?_
 refine z1o 0 rfl fun y hy hd=>?_
 dsimp only [sel,rem,nth,del,cat,upd,volL]
 refine z4a 0 rfl ?_
 rw [if_neg (by omega),e1,e2]
 refine zcd (V:=V2) ?_ hy hd
 refine z01 [0] (zjl hu2 hg hkG hN) fun r11=>z03 fun h11=>z00 ?_
 subst h11
 dsimp only [sel,rem,nth,del,cat,upd]
 have hcnt:cntB V2.n.m.used (k / g.P * g.P) ((k / g.P+1) * g.P)=cntB (setBit V.n.m.used k false) (k / g.P * g.P) ((k / g.P+1) * g.P):=rfl
 rw [hcnt]
 refine z01 [0] (Q:=fun _=>stars [VolA v d g (V.free g k)]) ?_ fun _=>z00 (z02 [0] fun q hq=>⟨rfl,hq⟩)
 by_cases hc:cntB (setBit V.n.m.used k false) (k / g.P * g.P) ((k / g.P+1) * g.P)=0
 ·have hF:V.free g k=((V2.wRows (relR V.n.m.rows (V.n.m.own[k / g.P] - 1))).wOwn (V.n.m.own.set (k / g.P) 0)):=by
   unfold VolS.free MetaS.free
   rw [if_pos hc,List.getElem?_eq_getElem hkl]
   rfl
  rw [hF]
  refine z08 (by rw [hc];rfl) ?_
  refine z1o 0 rfl fun y hy hd=>?_
  dsimp only [sel,rem,nth,del,cat,upd,volL]
  refine z5t 0 rfl ?_
  refine z0a 2 rfl fun h2=>?_
  refine z1t 2 rfl (z0e h2) (i:=k / g.P) (k :=.i64) (v:=(V.n.m.own[k / g.P]:Nat)) (by
   show (ownC V.n.m.own)[k / g.P]? = _
   simp [i64s,hkl]) ?_
  have e3:wr .i64 (((V.n.m.own[k / g.P]:Nat):Int) - 1)=((V.n.m.own[k / g.P] - 1:Nat):Int):=by rw [wr64 (by omega) (by omega)];omega
  rw [e3]
  refine zcd (V:=V2) ?_ hy hd
  refine z01 [0] (zfw (V:=V2) ok.rows (by omega) (rf.own _ (List.getElem_mem hkl) h0) (by omega)) fun _=>z00 ?_
  dsimp only [sel,rem,nth,del,cat,upd]
  refine z1o 0 rfl fun y hy hd=>?_
  dsimp only [sel,rem,nth,del,cat,upd,volL]
  refine z5t 0 rfl ?_
  refine z9d (x:=0) 2 rfl hkl ?_
  refine z02 [0,0,0,0,0,0,0,0,0,0,0] fun q hq=>?_
  exact z11 (V:=VolS.wOwn _ _) (y:=y) (hy.wM _ y.x rfl) hd hq
 ·have hF:V.free g k=V2:=by
   unfold VolS.free MetaS.free
   rw [if_neg hc]
   rfl
  rw [hF]
  exact z04 (by simp;omega) (z02 [0] fun q hq=>hq)
theorem zbo (hg:g.ok) (ok:MetaOk g V.n.m) (b:Int) {s:Sl} {bs:List UInt8} (hr:RdC T s 1 (bytesOf bs)) (hbs:bs.length≤100000) :
  Tri (stars [VolA v d g V,T]) (F_1n N (some ⟨v,0⟩) b s) fun r=>pu (r=V.writeE g b bs) (stars [VolA v d g (if V.writeE g b bs=0 then V.write g b.toNat bs else V),T]):=by
 have hlen:=z2f hr
 unfold F_1n VolS.writeE
 by_cases h64:bs.length=64
 case neg=>
  simp only [if_neg h64]
  rw [if_neg (show ¬((1:Int)=0) by decide)]
  exact z08 (by simp [hlen];omega) (z02 [0,0] fun q hq=>⟨rfl,hq⟩)
 simp only [if_pos h64]
 refine z04 (by simp [hlen];omega) ?_
 refine z01 [0] (zdz hg ok.usedl b) fun r=>z03 fun h=>z00 ?_
 subst h
 dsimp only [sel,rem,nth,del,cat,upd]
 by_cases hE:V.n.m.usedE g b=0
 case neg=>exact z08 (by simpa using hE) (z02 [0,0] fun q hq=>⟨rfl,by rw [if_neg hE];exact hq⟩)
 rw [if_pos hE]
 refine z04 (by simpa using hE) ?_
 rw [hE]
 obtain ⟨k,rfl,hk,hbit⟩:=z3y hE
 refine z01 [1] (show Tri _ (cloneM 1 1 _) _ from z5z hr (by omega) (z2l _) (by
  have:most=70368744177664:=rfl
  omega)) fun r=>z00 ?_
 dsimp only [sel,rem,nth,del,cat,upd]
 refine z0a 0 rfl fun h0=>?_
 rw [z0b] at h0
 refine z01 [2,0] (zbm hg ok hk (by omega) h64) fun _=>z00 ?_
 exact z02 [0,0] fun q hq=>⟨rfl,hq⟩
theorem z12 {A:HA} {k:IntKind} {x:Int} {f:Int→M β} (kk:Tri A (f x) S):Tri A (bd (someOr (CTy.dec (.int k) (.int k x))) f) S:=by
 have e:CTy.dec (.int k) (.int k x)=some x:=by simp only [CTy.dec,if_true];rfl
 rw [e]
 exact z0n kk
theorem inoC0 (n:Ino):(inoC n)[0]? = some (.int .u8 n.k):=rfl
theorem inoC1 (n:Ino):(inoC n)[1]? = some (.int .u8 n.r):=rfl
theorem zfx (ok:MetaOk g V.n.m) (hg:g.ok) (i:Int):Tri (stars [VolA v d g V]) (F_1p N (some ⟨v,0⟩) i) fun r=>pu (r=V.n.m.hasE i) (stars [VolA v d g V]):=by
 have hil:=ok.inol
 have hI:=hg.i2
 unfold F_1p
 refine z04 (by simp) ?_
 refine z1o 0 rfl fun y hy hd=>?_
 dsimp only [sel,rem,nth,del,cat,upd,volL]
 refine z0a 4 rfl fun h4=>?_
 have h4':y.x.ino.len=V.n.m.ino.length:=by rw [z0i z0c] at h4;omega
 unfold MetaS.hasE
 refine z01 [0,0,0,0,0,0,0,0,0,0,0] (Q:=fun c=>pu (c = !decide (0≤i∧i<V.n.m.ino.length)) (stars (volL v d g V y))) ?_ fun c=>z03 fun hc=>z00 ?_
 ·by_cases h0:i<0
  ·exact z04 (by simpa using h0) (z02 [0,0,0,0,0,0,0,0,0,0,0] fun q hq=>⟨by simp;omega,hq⟩)
  ·refine z08 (by simpa using h0) (z3t 0 rfl (z02 [0,0,0,0,0,0,0,0,0,0,0] fun q hq=>⟨?_,hq⟩))
   rw [h4']
   rw [Bool.eq_iff_iff]
   simp
   omega
 ·subst hc
  dsimp only [sel,rem,nth,del,cat,upd,volL]
  by_cases hi:0≤i∧i<V.n.m.ino.length
  ·rw [if_pos hi]
   refine z04 (by simp;omega) (z3t 0 rfl ?_)
   obtain ⟨k,rfl⟩:∃k:Nat,i=k:=⟨i.toNat,by omega⟩
   rw [Int.toNat_natCast]
   have hk:k<V.n.m.ino.length:=by omega
   have hn:inoN V.n.m.ino k=V.n.m.ino[k]:=by simp [inoN,hk]
   rw [hn]
   refine z13 4 rfl (z0e h4) (i:=k) (o:=0) (by omega) (by omega) (v:=(V.n.m.ino[k].k:Nat)) (by rw [z1q z0c hk (by omega)];rfl) ?_
   by_cases hz:V.n.m.ino[k].k=0
   ·exact z08 (by simp [hz]) (z02 [0,0,0,0,0,0,0,0,0,0,0] fun q hq=>⟨by rw [if_pos hz],z11 hy hd hq⟩)
   ·exact z04 (by simp;omega) (z02 [0,0,0,0,0,0,0,0,0,0,0] fun q hq=>⟨by rw [if_neg hz],z11 hy hd hq⟩)
  ·rw [if_neg hi]
   exact z08 (by simp;omega) (z02 [0,0,0,0,0,0,0,0,0,0,0] fun q hq=>⟨rfl,z11 hy hd hq⟩)
theorem z3q {m:MetaS} {i:Int} (h:m.hasE i=0):∃(k:Nat) (hk:k<m.ino.length),i=k∧m.ino[k].k≠0:=by
 unfold MetaS.hasE at h
 split at h
 ·rename_i hi
  have hk:i.toNat<m.ino.length:=by omega
  refine ⟨i.toNat,hk,by omega,?_⟩
  have hn:inoN m.ino i.toNat=m.ino[i.toNat]:=by simp [inoN,hk]
  rw [hn] at h
  intro c
  rw [if_pos c] at h
  cases h
 ·cases h
theorem zmd (hg:g.ok) (ok:MetaOk g V.n.m) {kind a:Nat} (hk:kind<256) (ha:a<65536) (hN:5000<N):Tri (stars [VolA v d g V]) (F_30 N (some ⟨v,0⟩) (kind:Int) (a:Int)) fun r=>pu (r=(V.n.m.make kind a).1) (stars [VolA v d g (V.wM (V.n.m.make kind a).2)]):=by
 have hil:=ok.inol
 have hI:=hg.i2
 unfold F_30 MetaS.make
 refine z04 (by simp) ?_
 by_cases hkind:kind=1∨kind=2
 case neg=>
  rw [if_neg hkind]
  exact z08 (by simp;omega) (z02 [0] fun q hq=>⟨rfl,hq⟩)
 rw [if_pos hkind]
 refine z04 (by simp;omega) ?_
 refine z1o 0 rfl fun y hy hd=>?_
 dsimp only [sel,rem,nth,del,cat,upd,volL]
 refine z3t 0 rfl ?_
 refine z0a 1 rfl fun h1=>z0a 4 rfl fun h4=>?_
 have h4':y.x.ino.len=V.n.m.ino.length:=by rw [z0i z0c] at h4;omega
 have find:Tri (stars [OwnA y.x.ino 14 (inosC V.n.m.ino)]) (F_2z N y.x.ino ()) fun r=>pu (r=fi isFreeI V.n.m.ino) (stars [OwnA y.x.ino 14 (inosC V.n.m.ino)]):=by
  unfold F_2z
  refine z7d (A:=stars [OwnA y.x.ino 14 (inosC V.n.m.ino)]) isFreeI V.n.m.ino (by omega) (fun rec i hi Q k=>?_) fun rec Q k=>?_
  ·unfold F_58
   refine z08 (by simp [h4'];omega) ?_
   refine z3v 0 rfl (z0e h4) hi ?_
   unfold F_43
   rw [inoC0,wr64 (by omega) (by omega)]
   have:(decide ((V.n.m.ino[i].k:Int)=0))=isFreeI V.n.m.ino[i]:=by
    unfold isFreeI
    congr 1
    apply propext
    omega
   show Tri _ (bd (ret (decide ((V.n.m.ino[i].k:Int)=0))) _) _
   rw [this]
   exact z0j k
  ·unfold F_58
   exact z04 (by simp [h4']) k
 refine z01 [4] find fun r9=>z03 fun h9=>z00 ?_
 subst h9
 dsimp only [sel,rem,nth,del,cat,upd]
 cases hx:V.n.m.ino.findIdx? isFreeI with
 | none=>
  rw [z8d hx]
  exact z08 (by simp) (z02 [1,1,1,1,0,0,0,0,0,0,0] fun q hq=>⟨rfl,z11 hy hd hq⟩)
 | some i=>
  rw [z8e hx]
  dsimp only
  have hi:=(List.findIdx?_eq_some_iff_getElem.1 hx).1
  refine z04 (by simp) (z6j 1 rfl ?_)
  refine z01 [2] (zbk ha ok.rows (z0e h1) (by omega)) fun r15=>z03 fun h15=>z00 ?_
  dsimp only [sel,rem,nth,del,cat,upd]
  by_cases hE:retE V.n.m.rows a=0
  ·rw [if_pos hE,if_pos hE]
   obtain ⟨e22,e21⟩:=h15
   obtain ⟨e21,hI2⟩:=e21 hE
   refine z04 (by simp [e22,hE]) (z3t 3 rfl (za8 3 rfl ?_))
   rw [e21,wr8 (by omega) (by omega)]
   have e3:([MV.int .u8 (kind:Int),MV.int .u8 ((retI V.n.m.rows a:Nat):Int)]++reps 12 [MV.int .i64 (0:Int)])=inoC (mkIno kind (retI V.n.m.rows a)):=rfl
   rw [e3]
   dsimp only [sel,rem,nth,del,cat,upd]
   refine z61 2 rfl hi ?_
   dsimp only [sel,rem,nth,del,cat,upd]
   refine z02 [3,0,2,2,1,1,1,1,1,1,1] fun q hq=>⟨rfl,?_⟩
   exact z11 (V:=V.wM _) (y:={y with x:={y.x with rows:=r15.1}}) (hy.wM _ _ rfl) hd hq
  ·rw [if_neg hE,if_neg hE]
   exact z08 (by simp [h15.1,hE]) (z02 [3,1,2,2,1,1,1,1,1,1,1] fun q hq=>⟨by rw [h15.1],z11 hy hd hq⟩)
theorem zis (hg:g.ok) (ok:MetaOk g V.n.m) (rf:RefOk V.n.m) (i:Int) (hN:5000<N):Tri (stars [VolA v d g V]) (F_32 N (some ⟨v,0⟩) i) fun r=>pu (r=V.n.m.hasE i) (stars [VolA v d g (if V.n.m.hasE i=0 then V.wM (V.n.m.unmake i.toNat) else V)]):=by
 have hil:=ok.inol
 have hI:=hg.i2
 unfold F_32
 refine z01 [0] (zfx ok hg i) fun r=>z03 fun h=>z00 ?_
 subst h
 dsimp only [sel,rem,nth,del,cat,upd]
 by_cases hE:V.n.m.hasE i=0
 case neg=>exact z08 (by simpa using hE) (z02 [0] fun q hq=>⟨rfl,by rw [if_neg hE];exact hq⟩)
 rw [if_pos hE]
 refine z04 (by simpa using hE) ?_
 rw [hE]
 obtain ⟨k,hk,rfl,hkk⟩:=z3q hE
 rw [Int.toNat_natCast]
 have hn:inoN V.n.m.ino k=V.n.m.ino[k]:=by simp [inoN,hk]
 have hm:=List.getElem_mem hk
 have hr:=(ok.inok _ hm).r
 refine z1o 0 rfl fun y hy hd=>?_
 dsimp only [sel,rem,nth,del,cat,upd,volL]
 refine z3t 0 rfl ?_
 refine z0a 4 rfl fun h4=>?_
 have h4':y.x.ino.len=V.n.m.ino.length:=by rw [z0i z0c] at h4;omega
 refine z13 4 rfl (z0e h4) (i:=k) (o:=1) (by omega) (by omega) (v:=(V.n.m.ino[k].r:Nat)) (by rw [z1q z0c hk (by omega)];rfl) ?_
 rw [wr64 (by omega) (by omega)]
 refine zcd (V:=V) ?_ hy hd
 refine z01 [0] (zfw ok.rows hr (rf.ino _ hm hkk) (by omega)) fun _=>z00 ?_
 dsimp only [sel,rem,nth,del,cat,upd]
 refine z1o 0 rfl fun y hy hd=>?_
 dsimp only [sel,rem,nth,del,cat,upd,volL]
 refine z3t 0 rfl ?_
 rw [zino_c]
 refine z61 4 rfl hk ?_
 refine z02 [0,0,0,0,0,0,0,0,0,0,0] fun q hq=>⟨rfl,?_⟩
 have e:V.wM (V.n.m.unmake k)=(V.wRows (relR V.n.m.rows V.n.m.ino[k].r)).wIno (V.n.m.ino.set k Ino.z):=by
  unfold MetaS.unmake
  rw [hn]
  rfl
 rw [e]
 exact z11 (V:=VolS.wIno _ _) (y:=y) (hy.wM _ y.x rfl) hd hq
def MetaS.inodeN (m:MetaS) (i:Int):Ino:=if m.hasE i=0 then inoN m.ino i.toNat else Ino.z
def MetaS.inodeL (m:MetaS) (i:Int):Nat:=if m.hasE i=0 then (rowN m.rows (inoN m.ino i.toNat).r).1 else 0
def MetaS.set (m:MetaS) (i:Nat) (n:Ino):MetaS:={m with ino:=m.ino.set i n}
theorem zpg (hg:g.ok) (ok:MetaOk g V.n.m) (i:Int) (n:Ino) (hN:5000<N):Tri (stars [VolA v d g V]) (F_35 N (some ⟨v,0⟩) i (inoC n)) fun r=>pu (r=V.n.m.setE i n) (stars [VolA v d g (if V.n.m.setE i n=0 then V.wM (V.n.m.set i.toNat n) else V)]):=by
 have hil:=ok.inol
 have hI:=hg.i2
 have e14:0+14≤(inoC n).length:=by rw [z0c];omega
 have t14:((inoC n).drop 0).take 14=inoC n:=by rw [List.drop_zero,List.take_of_length_le (by rw [z0c];omega)]
 unfold F_35
 refine z01 [0] (zfx ok hg i) fun r=>z03 fun h=>z00 ?_
 subst h
 dsimp only [sel,rem,nth,del,cat,upd]
 unfold MetaS.setE
 by_cases h1:V.n.m.hasE i=1
 ·rw [if_pos h1,if_neg (show ¬((1:Int)=0) by decide)]
  exact z08 (by simp [h1]) (z02 [0] fun q hq=>⟨h1,hq⟩)
 rw [if_neg h1]
 refine z04 (by simp [h1]) ?_
 rw [if_pos e14,t14]
 refine z0j ?_
 rw [z6b (by omega)]
 refine z0j ?_
 refine z01 [0] (Q:=fun c=>pu (c=decide (n.ok=false∨n.k=0)) (stars [VolA v d g V])) ?_ fun c=>z03 fun hc=>z00 ?_
 ·cases hok:n.ok
  ·exact z04 (by simp) (z02 [0] fun q hq=>⟨by simp,hq⟩)
  ·refine z08 rfl ?_
   rw [inoC0]
   show Tri _ (ret (decide ((n.k:Int)=0))) _
   refine z02 [0] fun q hq=>⟨?_,hq⟩
   rw [Bool.eq_iff_iff]
   simp
 subst hc
 dsimp only [sel,rem,nth,del,cat,upd]
 by_cases h2:n.ok=false∨n.k=0
 ·rw [if_pos h2,if_neg (show ¬((1:Int)=0) by decide)]
  exact z08 (by simpa using h2) (z02 [0] fun q hq=>⟨rfl,hq⟩)
 rw [if_neg h2]
 refine z04 (by simpa using h2) ?_
 by_cases h3:V.n.m.hasE i=0
 case neg=>
  have h32:V.n.m.hasE i=2:=by
   unfold MetaS.hasE at h1 h3 ⊢
   split
   ·split
    ·rfl
    ·rename_i ha hb;rw [if_pos ha,if_neg hb] at h3;exact absurd rfl h3
   ·rename_i ha;rw [if_neg ha] at h1;exact absurd rfl h1
  rw [if_pos (show V.n.m.hasE i≠0 from h3),if_neg (show ¬((2:Int)=0) by decide)]
  exact z08 (by simpa using h3) (z02 [0] fun q hq=>⟨h32,hq⟩)
 rw [if_neg (show ¬V.n.m.hasE i≠0 by omega)]
 refine z04 (by simpa using h3) ?_
 obtain ⟨k,hk,rfl,hkk⟩:=z3q h3
 rw [Int.toNat_natCast]
 have hn:inoN V.n.m.ino k=V.n.m.ino[k]:=by simp [inoN,hk]
 rw [hn]
 refine z1o 0 rfl fun y hy hd=>?_
 dsimp only [sel,rem,nth,del,cat,upd,volL]
 refine z0a 4 rfl fun h4=>?_
 have h4':y.x.ino.len=V.n.m.ino.length:=by rw [z0i z0c] at h4;omega
 rw [inoC0,inoC1]
 refine z0n (z12 ?_)
 refine z3t 0 rfl ?_
 refine z13 4 rfl (z0e h4) (i:=k) (o:=0) (by omega) (by omega) (v:=(V.n.m.ino[k].k:Nat)) (by rw [z1q z0c hk (by omega)];rfl) ?_
 refine z01 [0,0,0,0,0,0,0,0,0,0,0] (Q:=fun c=>pu (c=decide (n.k≠V.n.m.ino[k].k∨n.r≠V.n.m.ino[k].r)) (stars (volL v d g V y))) ?_ fun c=>z03 fun hc=>z00 ?_
 ·by_cases hkq:n.k=V.n.m.ino[k].k
  ·refine z08 (by simp [hkq]) ?_
   refine z0n (z12 ?_)
   refine z3t 0 rfl ?_
   refine z13 4 rfl (z0e h4) (i:=k) (o:=1) (by omega) (by omega) (v:=(V.n.m.ino[k].r:Nat)) (by rw [z1q z0c hk (by omega)];rfl) ?_
   refine z02 [0,0,0,0,0,0,0,0,0,0,0] fun q hq=>⟨?_,hq⟩
   rw [Bool.eq_iff_iff]
   simp [hkq]
   omega
  ·refine z04 (by simp;omega) (z02 [0,0,0,0,0,0,0,0,0,0,0] fun q hq=>⟨by simp [hkq],hq⟩)
 subst hc
 dsimp only [sel,rem,nth,del,cat,upd,volL]
 by_cases h5:n.k≠V.n.m.ino[k].k∨n.r≠V.n.m.ino[k].r
 ·rw [if_pos h5,if_neg (show ¬((1:Int)=0) by decide)]
  exact z08 (by simpa using h5) (z02 [0,0,0,0,0,0,0,0,0,0,0] fun q hq=>⟨rfl,z11 hy hd hq⟩)
 rw [if_neg h5,if_pos (show ((0:Int)=0) from rfl)]
 refine z04 (by simpa using h5) (z3t 0 rfl ?_)
 refine z0j (z61 4 rfl hk ?_)
 refine z02 [0,0,0,0,0,0,0,0,0,0,0] fun q hq=>⟨rfl,?_⟩
 exact z11 (V:=V.wIno _) (y:=y) (hy.wM _ y.x rfl) hd hq
end
end Go.Moat
