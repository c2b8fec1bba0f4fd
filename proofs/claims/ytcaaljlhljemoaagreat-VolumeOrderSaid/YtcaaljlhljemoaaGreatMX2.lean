/- Regions whose order is drawn (2): what an operation reads, and what it leaves. -/
import Derived.Test.YtcaaljlhljemoaaGreatMX
namespace Go.Mini
universe u
section
variable {α β γ:Type}
def Pu (m:M α):Prop:=∀h a h',m h=some (a,h')→h'=h∧∀h2,m h2=some (a,h2)
def Rd (T:Nat→Prop) (m:M α):Prop:=∀h a h',m h=some (a,h')→h'=h∧∃ob:Option Nat,(∀b,ob=some b→h.get b≠.dead∧T b)∧∀h2,(∀b,ob=some b→h2.get b=h.get b)→m h2=some (a,h2)
def Gr (m:M α):Prop:=∀h a h',m h=some (a,h')→Grows h h'
theorem Pu.rd {T:Nat→Prop} {m:M α} (k:Pu m):Rd T m:=fun h a h' e=>by
 obtain ⟨h1,h2⟩:=k h a h' e
 exact ⟨h1,none,(by intro b hb;cases hb),fun h2' _=>h2 h2'⟩
theorem z0z (a:α):Pu (ret a):=fun h x h' e=>by cases e;exact ⟨rfl,fun _=>rfl⟩
theorem z0l:Pu (fail:M α):=fun h x h' e=>by cases e
theorem pu_bd {m:M α} {f:α→M β} (k:Pu m) (kf:∀a,Pu (f a)):Pu (bd m f):=fun h x h' e=>by
 obtain ⟨a,h1,e1,e2⟩:=z0d e
 obtain ⟨rfl,k1⟩:=k _ _ _ e1
 obtain ⟨rfl,k2⟩:=kf a _ _ _ e2
 exact ⟨rfl,fun h2=>by simp only [bd,k1 h2];exact k2 h2⟩
theorem z1f {c:Prop} [Decidable c] {m n:M α} (k:Pu m) (l:Pu n):Pu (if c then m else n):=by
 split
 ·exact k
 ·exact l
theorem zas {ε:Type u} {x:Option ε} {f:ε→M β} (k:∀v,Pu (f v)):Pu (okOf x f):=by
 cases x with
 | none=>exact z0l
 | some v=>exact k v
theorem pu_someOr (o:Option α):Pu (someOr o):=by
 cases o with
 | none=>exact fun h x h' e=>by cases e
 | some a=>exact fun h x h' e=>by cases e;exact ⟨rfl,fun _=>rfl⟩
theorem zk8 {x:Option MV} {f:IntKind→Int→M β} (k:∀a b,Pu (f a b)):Pu (wInt x f):=by
 unfold wInt;split
 ·exact k _ _
 ·exact z0l
theorem zsx {x:Option MV} {f:List UInt8→M β} (k:∀a,Pu (f a)):Pu (wStr x f):=by
 unfold wStr;split
 ·exact k _
 ·exact z0l
theorem zui {x:Option MV} {f:Option MA→Nat→Nat→M β} (k:∀a b c,Pu (f a b c)):Pu (wSl x f):=by
 unfold wSl;split
 ·exact k _ _ _
 ·exact z0l
theorem zsy {x:Option MV} {f:List MV→M β} (k:∀a,Pu (f a)):Pu (wTup x f):=by
 unfold wTup;split
 ·exact k _
 ·exact z0l
theorem zat {x:Option MV} {f:List MV→M β} (k:∀a,Pu (f a)):Pu (wAgg x f):=by
 unfold wAgg;split
 ·exact k _
 ·exact z0l
theorem zuj {x:Option MV} {f:FuncId→List MV→M β} (k:∀a b,Pu (f a b)):Pu (wFn x f):=by
 unfold wFn;split
 ·exact k _ _
 ·exact z0l
theorem zn5 {x:Option FV} {f:Option MA→M β} {g:Nat→Nat→M β} (k:∀a,Pu (f a)) (l:∀a b,Pu (g a b)):Pu (wPlace x f g):=by
 unfold wPlace;split
 ·exact k _
 ·exact l _ _
 ·exact z0l
theorem zuk {b:Bool} {m:M β} (k:Pu m):Pu (wIf b m):=by
 unfold wIf;split
 ·exact k
 ·exact z0l
theorem zqn {x:Option FV} {f:FV→M β} (k:∀a,Pu (f a)):Pu (wLive x f):=by
 unfold wLive;split
 ·exact k _
 ·exact k _
 ·exact z0l
theorem zqo {fr:Fr} {x:Option Opd} {e:Int} {f:Int→M β} (k:∀a,Pu (f a)):Pu (intOf fr x e f):=by
 unfold intOf;split
 ·exact k _
 ·exact zk8 fun _ _=>k _
theorem zqp (p q:Option MA):Pu (ptrEq p q):=by
 intro h a h' e
 cases p with
 | none=>cases e;exact ⟨rfl,fun _=>rfl⟩
 | some x=>
  cases q with
  | none=>cases e;exact ⟨rfl,fun _=>rfl⟩
  | some y=>
   simp only [ptrEq] at e ⊢
   split at e
   ·cases e
    refine ⟨rfl,fun h2=>?_⟩
    rw [if_pos (by assumption)]
   ·cases e
theorem zqq {p q:Option MA} {f:Bool→M β} (k:∀b,Pu (f b)):Pu (evPtr p q f):=by
 unfold evPtr;split
 ·exact k _
 ·exact pu_bd (zqp _ _) k
theorem zsz {op:UnOp} {x:MV} {f:MV→M β} (k:∀a,Pu (f a)):Pu (evUn op x f):=by
 unfold evUn;split<;>first | exact k _ | exact z0l
theorem zqr {op:BinOp} {x y:MV} {f:MV→M β} (k:∀a,Pu (f a)):Pu (evBin op x y f):=by
 unfold evBin
 split
 ·exact z1f z0l (k _)
 ·exact z1f z0l (k _)
 ·refine z1f ?_ z0l
  split<;>first | exact k _ | exact z1f z0l (k _)
 all_goals first | exact k _ | exact zqq fun _=>k _ | exact z0l
theorem zgx {pv:PV} {t:Ty} {o:Nat} {f:MV→M β} (k:∀a,Pu (f a)):Pu (pload pv t o f):=by
 unfold pload
 split
 ·exact zas k
 ·exact z1f (k _) z0l
 ·exact z1f (pu_bd (pu_someOr _) fun _=>k _) z0l
 ·exact pu_bd (pu_someOr _) fun _=>pu_bd (pu_someOr _) fun _=>k _
 ·exact pu_bd (z1f (z0z _) z0l) fun _=>pu_bd (pu_someOr _) fun _=>k _
 ·exact pu_bd (z1f (z0z _) z0l) fun _=>k _
 ·exact z0l
theorem zn6 (p:Option MA):Pu (nonNil p):=by cases p<;>first | exact z0z _ | exact z0l
theorem zul (p:Option MA) (n:Nat):Pu (fld p n):=by cases p<;>first | exact z0z _ | exact z0l
theorem zum (e:Nat) (s:Sl) (i:Int):Pu (idx e s i):=by
 unfold idx;split
 ·exact z1f (z0z _) z0l
 ·exact z0l
theorem zqs (n:Nat) (s:Sl):Pu (arrAt n s):=by
 unfold arrAt;split
 ·exact z0z _
 ·exact z0l
theorem zt0 (n e:Nat) (p:Option MA) (i:Int):Pu (idxA n e p i):=by
 unfold idxA;split
 ·exact z1f (z0z _) z0l
 ·exact z0l
theorem zt1 (n:Nat) (cs:List MV) (i:Int):Pu (idxV n cs i):=z1f (pu_someOr _) z0l
theorem zqt (n e:Nat) (cs:List MV) (i:Int):Pu (idxVn n e cs i):=z1f (z1f (z0z _) z0l) z0l
theorem zt2 (s:List UInt8) (i:Int):Pu (idxS s i):=z1f (pu_bd (pu_someOr _) fun _=>z0z _) z0l
theorem zun (e:Nat) (s:Sl) (a b:Int):Pu (slc e s a b):=z1f (z0z _) z0l
theorem zt3 (s:List UInt8) (a b:Int):Pu (slcS s a b):=z1f (z0z _) z0l
theorem zt4 (s t:List UInt8):Pu (catS s t):=z1f (z0z _) z0l
theorem zn7 (v:MV):Pu (isNilI v):=by unfold isNilI;split<;>first | exact z0z _ | exact z0l
theorem z4g {T:Nat→Prop} {m:M α} {f:α→M β} (k:Rd T m) (kf:∀a,Pu (f a)):Rd T (bd m f):=fun h x h' e=>by
 obtain ⟨a,h1,e1,e2⟩:=z0d e
 obtain ⟨rfl,ob,k1,k2⟩:=k _ _ _ e1
 obtain ⟨rfl,k3⟩:=kf a _ _ _ e2
 exact ⟨rfl,ob,k1,fun h2 hb=>by simp only [bd,k2 h2 hb];exact k3 h2⟩
theorem zn8 {T:Nat→Prop} {q:Option MA} (ht:∀a,q=some a→T a.blk):Rd T (ldc q):=by
 intro h v h' e
 cases q with
 | none=>cases e
 | some a=>
  simp only [ldc] at e ⊢
  split at e
  ·rename_i cs ro hg
   split at e
   ·rename_i u hu
    cases e
    refine ⟨rfl,some a.blk,fun b hb=>?_,fun h2 hb=>?_⟩
    ·cases hb;exact ⟨by rw [hg];simp,ht a rfl⟩
    ·rw [hb _ rfl,hg];simp only [hu]
   ·cases e
  ·cases e
theorem zgy {T:Nat→Prop} {n:Nat} {q:Option MA} (ht:∀a,q=some a→T a.blk):Rd T (ldn n q):=by
 intro h v h' e
 cases q with
 | none=>cases e
 | some a=>
  simp only [ldn] at e ⊢
  split at e
  ·rename_i cs ro hg
   split at e
   ·rename_i hu
    cases e
    refine ⟨rfl,some a.blk,fun b hb=>?_,fun h2 hb=>?_⟩
    ·cases hb;exact ⟨by rw [hg];simp,ht a rfl⟩
    ·rw [hb _ rfl,hg];simp only [hu,if_true]
   ·cases e
  ·cases e
theorem zvf {T:Nat→Prop} {t:Ty} {q:Option MA} (ht:∀a,q=some a→T a.blk):Rd T (ld t q):=by
 cases t with
 | c c=>
  simp only [ld,zhe]
  exact z4g (zn8 ht) fun _=>pu_someOr _
 | st ts=>exact z4g (zgy ht) fun _=>pu_someOr _
 | agg n=>exact zgy ht
 | arr k=>exact z0l.rd
 | fnc f cp=>
  simp only [ld,zhe]
  exact z4g (z4g (zn8 ht) fun _=>pu_someOr _) fun _=>pu_someOr _
theorem zt5 {T:Nat→Prop} {n e:Nat} {q:Option MA} {lo hi:Int} (ht:∀a,q=some a→T a.blk):Rd T (slcA n e q lo hi):=by
 intro h v h' e
 cases q with
 | none=>cases e
 | some a=>
  simp only [slcA] at e ⊢
  split at e
  ·rename_i cs ro hg
   split at e
   ·rename_i hu
    cases e
    refine ⟨rfl,some a.blk,fun b hb=>?_,fun h2 hb=>?_⟩
    ·cases hb;exact ⟨by rw [hg];simp,ht a rfl⟩
    ·rw [hb _ rfl,hg]
     dsimp only
     rw [if_pos hu]
   ·cases e
  ·cases e
theorem zcr {T:Nat→Prop} {e:Nat} {s:Sl} (ht:∀a,s.p=some a→T a.blk):Rd T (cellsOf e s):=by
 unfold cellsOf
 split
 ·exact (z1f (z0z _) z0l).rd
 ·exact zgy ht
theorem zf3 {T:Nat→Prop} {r:Option Nat} (ht:∀b,r=some b→T b):Rd T (mapGet r):=by
 intro h v h' e
 cases r with
 | none=>cases e;exact ⟨rfl,none,(by intro b hb;cases hb),fun _ _=>rfl⟩
 | some b=>
  simp only [mapGet] at e ⊢
  split at e
  ·rename_i es hg
   cases e
   refine ⟨rfl,some b,fun b' hb=>?_,fun h2 hb=>?_⟩
   ·cases hb;exact ⟨by rw [hg];simp,ht b rfl⟩
   ·rw [hb _ rfl,hg]
  ·cases e
theorem zn9 {T:Nat→Prop} {x:Option FV} {f:Option MA→M β} {g:Nat→Nat→M β} (k:∀q,x=some (.v (.ptr q))→Rd T (f q)) (l:∀a b,Rd T (g a b)):Rd T (wPlace x f g):=by
 unfold wPlace;split
 ·exact k _ rfl
 ·exact l _ _
 ·exact z0l.rd
theorem zt6 {T:Nat→Prop} {x:Option MV} {f:Option MA→M β} (k:∀q,x=some (.ptr q)→Rd T (f q)):Rd T (wPtr x f):=by
 unfold wPtr;split
 ·exact k _ rfl
 ·exact z0l.rd
theorem zuo {T:Nat→Prop} {x:Option MV} {f:Option MA→Nat→Nat→M β} (k:∀p l e,x=some (.sl p l e)→Rd T (f p l e)):Rd T (wSl x f):=by
 unfold wSl;split
 ·exact k _ _ _ rfl
 ·exact z0l.rd
theorem zec {T:Nat→Prop} {x:Option MV} {f:Option Nat→M β} (k:∀r,x=some (.map r)→Rd T (f r)):Rd T (wMap x f):=by
 unfold wMap;split
 ·exact k _ rfl
 ·exact z0l.rd
theorem zup {T:Nat→Prop} {c:Prop} [Decidable c] {m n:M α} (k:Rd T m) (l:Rd T n):Rd T (if c then m else n):=by
 split
 ·exact k
 ·exact l
theorem zk9 {T:Nat→Prop} {ε:Type u} {x:Option ε} {f:ε→M β} (k:∀v,Rd T (f v)):Rd T (okOf x f):=by
 cases x with
 | none=>exact z0l.rd
 | some v=>exact k v
theorem zna {T:Nat→Prop} {b:Bool} {m:M β} (k:Rd T m):Rd T (wIf b m):=by
 unfold wIf;split
 ·exact k
 ·exact z0l.rd
theorem zgz {T:Nat→Prop} {fr:Fr} {x:Option Opd} {e:Int} {f:Int→M β} (k:∀a,Rd T (f a)):Rd T (intOf fr x e f):=by
 unfold intOf;split
 ·exact k _
 ·unfold wInt;split
  ·exact k _
  ·exact z0l.rd
theorem zcs {T:Nat→Prop} {r:Option Nat} {k:MV} (ht:∀b,r=some b→T b):Rd T (mapLook r k):=z4g (zf3 ht) fun _=>by
 split<;>first | exact z0z _ | exact z0l
def blkOf:MV→Option Nat
 | .ptr (some a)=>some a.blk
 | .sl (some a) _ _=>some a.blk
 | .map (some b)=>some b
 | _=>none
def bsOf (A:Fr) (x:Ins) (b:Nat):Prop:=∃o,x.pl=some o∧∃v,o.mv A=some v∧blkOf v=some b
theorem zt7 {v:MV} {b:Nat} (h:blkOf v=some b):blkM v=some b:=by
 unfold blkOf at h
 split at h<;>first | exact h | cases h
theorem zed {x:Ins} {p:Opd} (h:x.pl=some p):p∈x.opds:=by
 cases x<;>first | (cases h;done) | (cases h;simp [Ins.opds])
theorem z6e {A:Fr} {o:Opd} {v:MV} (h:o.val A=some (.v v)):o.mv A=some v:=by simp only [Opd.mv,h]
variable {C:List (Nat×Entry)}
theorem znb {x:Ins} {d:Nat} (hd:x.val=some d) (hc:x.cls=0) (A:Fr):Pu (evIns C x A tp):=by
 cases x with
 | fldV d' off t x=>
  cases t<;>simp only [evIns,z0v]
  ·exact zat fun _=>zas fun _=>z0z _
  ·exact zat fun _=>z1f (z0z _) z0l
  ·exact zat fun _=>z1f (z0z _) z0l
  ·exact z0l
  ·exact z0l
 | mv | box | alloc | load | store | call | callz | callv | callvz | palloc | pbox | bslice | slcA | toStr | toBytes | look1 | look2 | mapLen | mkMap | mapPut | mapDel | app | appS | copy | copyS | mkSl | markB | mapClr | slClr | allocA | boxA | bsliceA | mkSlA | toBytesA | mkMapA=>simp [Ins.cls] at hc
 | _=>
  simp only [evIns,z0v,zau,z80]
  repeat (first
   | refine pu_bd (zqs _ _) fun _=>?_
   | exact z0z _
   | exact z0l
   | refine zas fun _=>?_
   | refine zk8 fun _ _=>?_
   | refine zsx fun _=>?_
   | refine zui fun _ _ _=>?_
   | refine zsy fun _=>?_
   | refine zat fun _=>?_
   | refine zuj fun _ _=>?_
   | refine zqn fun _=>?_
   | refine zuk ?_
   | refine zqr fun _=>?_
   | refine zsz fun _=>?_
   | refine zgx fun _=>?_
   | refine zqo fun _=>?_
   | refine z1f ?_ ?_
   | refine pu_bd (pu_someOr _) fun _=>?_
   | refine pu_bd (zn6 _) fun _=>?_
   | refine pu_bd (zul _ _) fun _=>?_
   | refine pu_bd (zum _ _ _) fun _=>?_
   | refine pu_bd (zt0 _ _ _ _) fun _=>?_
   | refine pu_bd (zt1 _ _ _) fun _=>?_
   | refine pu_bd (zqt _ _ _ _) fun _=>?_
   | refine pu_bd (zt2 _ _) fun _=>?_
   | refine pu_bd (zun _ _ _ _) fun _=>?_
   | refine pu_bd (zt3 _ _ _) fun _=>?_
   | refine pu_bd (zt4 _ _) fun _=>?_
   | refine pu_bd (zn7 _) fun _=>?_
   | refine pu_bd (z1f (z0z _) z0l) fun _=>?_
   | refine zn5 (fun _=>?_) (fun _ _=>?_))
theorem znc {x:Ins} {d:Nat} (hd:x.val=some d) (hc:x.cls<2) (A:Fr):Rd (bsOf A x) (evIns C x A tp):=by
 by_cases h0:x.cls=0
 ·exact (znb hd h0 A).rd
 cases x with
 | load d t p=>
  simp only [evIns,z0v]
  refine zn9 (fun q hq=>z4g (zvf fun a ha=>?_) fun _=>z0z _) fun _ _=>(zas fun _=>zgx fun _=>z0z _).rd
  subst ha
  exact ⟨p,rfl,_,z6e hq,rfl⟩
 | slcA d n e p lo hi=>
  simp only [evIns,z0v]
  refine zt6 fun q hq=>zgz fun _=>zgz fun _=>z4g (zt5 fun a ha=>?_) fun _=>z0z _
  subst ha
  exact ⟨p,rfl,_,hq,rfl⟩
 | toStr d s=>
  simp only [evIns,z0v]
  refine zuo fun p l e hq=>zup (z4g (z4g (zcr fun a ha=>?_) fun _=>pu_someOr _) fun _=>z0z _) z0l.rd
  subst ha
  exact ⟨s,rfl,_,hq,rfl⟩
 | look1 d kt t z m kk=>
  simp only [evIns,z0v]
  refine zec fun r hq=>zk9 fun _=>zna (z4g (zcs fun b hb=>?_) fun _=>pu_bd (pu_someOr _) fun _=>z0z _)
  subst hb
  exact ⟨m,rfl,_,hq,rfl⟩
 | look2 d kt t z m kk=>
  simp only [evIns,z0v]
  refine zec fun r hq=>zk9 fun _=>zna (z4g (zcs fun b hb=>?_) fun _=>pu_bd (pu_someOr _) fun _=>z0z _)
  subst hb
  exact ⟨m,rfl,_,hq,rfl⟩
 | mapLen d m=>
  simp only [evIns,z0v]
  refine zec fun r hq=>z4g (z4g (zf3 fun b hb=>?_) fun _=>z0z _) fun _=>z0z _
  subst hb
  exact ⟨m,rfl,_,hq,rfl⟩
 | _=>first | exact absurd rfl h0 | (simp [Ins.cls] at hc)
theorem z5e (a:α):Gr (ret a):=fun h x h' e=>by cases e;exact Grows.refl _
theorem z4y:Gr (fail:M α):=fun h x h' e=>by cases e
theorem z7f {m:M α} {f:α→M β} (k:Gr m) (kf:∀a,Gr (f a)):Gr (bd m f):=fun h x h' e=>by
 obtain ⟨a,h1,e1,e2⟩:=z0d e
 exact (k _ _ _ e1).trans (kf a _ _ _ e2)
theorem z5n {ε:Type u} {x:Option ε} {f:ε→M β} (k:∀v,Gr (f v)):Gr (okOf x f):=by
 cases x with
 | none=>exact z4y
 | some v=>exact k v
theorem zbx (cs:List MV):Gr (alloc cs):=fun h x h' e=>by cases e;exact Grows.push _ _
theorem znd (v:MV):Gr (alloc1 v):=fun h x h' e=>by
 unfold alloc1 at e
 split at e
 ·cases e;exact Grows.push _ _
 ·cases e
theorem zuq (m:M α):Gr (frz m):=fun h x h' e=>(zhi e).2
theorem zka (e:Entry) (vs:List MV) {f:MV→M β} (k:∀v,Gr (f v)):Gr (e.runz vs f):=by
 unfold Entry.runz
 split
 ·exact z7f (zuq _) fun _=>k _
 ·exact z4y
theorem zkb {x:Option MV} {f:IntKind→Int→M β} (k:∀a b,Gr (f a b)):Gr (wInt x f):=by
 unfold wInt;split
 ·exact k _ _
 ·exact z4y
theorem zt8 (e bytes:Nat) (z:List MV) (l c:Int):Gr (mkSl e bytes z l c):=by
 unfold mkSl
 split
 ·exact fun h x h' e=>by cases e;exact Grows.push _ _
 ·exact z4y
theorem zl9 (s:List UInt8):Gr (toBytes s):=by
 unfold toBytes
 split
 ·exact fun h x h' e=>by cases e;exact Grows.push _ _
 ·exact z4y
theorem zur {x:Ins} {d:Nat} (hd:x.val=some d) (hc:x.cls=3) (A:Fr):Gr (evIns C x A tp):=by
 cases x with
 | alloc d z=>simp only [evIns,z0v];exact z7f (zbx _) fun _=>z5e _
 | box d a x=>
  cases a<;>simp only [evIns,z0v]
  ·exact z5n fun _=>z7f (znd _) fun _=>z5e _
  ·unfold wAgg;split
   ·exact z7f (zbx _) fun _=>z5e _
   ·exact z4y
 | bslice d e len z parts=>simp only [evIns,z0v];exact z5n fun _=>z5n fun _=>z7f (zbx _) fun _=>z5e _
 | mkSl d e bytes z len cap=>simp only [evIns,z0v];exact zkb fun _ _=>zkb fun _ _=>z7f (zt8 _ _ _ _ _) fun _=>z5e _
 | toBytes d x=>
  simp only [evIns,z0v]
  unfold wStr;split
  ·exact z7f (zl9 _) fun _=>z5e _
  ·exact z4y
 | mkMap d=>simp only [evIns,z0v];exact z7f (fun h x h' e=>by cases e;exact Grows.push _ _) fun _=>z5e _
 | callz d f args=>simp only [evIns,z0v];exact z5n fun _=>z5n fun _=>zka _ _ fun _=>z5e _
 | callvz d f args=>
  simp only [evIns,z0v]
  unfold wFn;split
  ·exact z5n fun _=>z5n fun _=>zka _ _ fun _=>z5e _
  ·exact z4y
 | _=>simp [Ins.cls] at hc
end
end Go.Mini
