/- The small machine's code: the kit's code with its types resolved, and what it does. -/
import Derived.Test.YtfieiaijdalkbaaGreatMA
namespace Go.Mini
universe u
inductive Opd where
 | t (n:Nat) | c (v:MV) | gl (g:Nat) | fn (f:FuncId)
inductive PV where
 | st (cs:List MV) | arr (k:IntKind) (xs:List Int) | raw (cs:List MV)
def PV.cells:PV→List MV
 | .st cs=>cs | .arr k xs=>xs.map (.int k) | .raw cs=>cs
def z0g{α:Type u}:List (Nat×α)→Nat→Option α
 | [],_=>none
 | (m,x)::r,n=>bif Nat.beq m n then some x else z0g r n
def mem(n:Nat):List Nat→Bool
 | []=>false
 | m::r=>Nat.beq m n || mem n r
inductive FV where
 | v (x:MV) | loc (s o:Nat) | gone
structure Fr where
 v:List (Nat×FV)
 p:List (Nat×PV×Bool)
def Fr.set(fr:Fr)(d:Nat)(x:MV):Fr:=⟨(d,.v x)::fr.v,fr.p⟩
def Fr.setL(fr:Fr)(d s o:Nat):Fr:=⟨(d,.loc s o)::fr.v,fr.p⟩
def Fr.setF(fr:Fr)(d:Nat)(x:FV):Fr:=⟨(d,x)::fr.v,fr.p⟩
def zxz(ds:List Nat):FV→Bool
 | .loc s _=>mem s ds
 | _=>false
def zel(ds:List Nat):List (Nat×FV)→List (Nat×FV)
 | []=>[]
 | (n,x)::r=>bif mem n ds then zel ds r else(n,bif zxz ds x then .gone else x)::zel ds r
def zmd(ds:List Nat):List (Nat×PV×Bool)→List (Nat×PV×Bool)
 | []=>[]
 | (n,x)::r=>bif mem n ds then zmd ds r else(n,x)::zmd ds r
def Fr.del(fr:Fr)(ds:List Nat):Fr:=⟨zel ds fr.v,zmd ds fr.p⟩
def zrd(keep:List Nat):List (Nat×PV×Bool)→List (Nat×PV×Bool)
 | []=>[]
 | (n,x,w)::r=>(n,x,w&&mem n keep)::zrd keep r
def Fr.lock(fr:Fr)(keep:List Nat):Fr:=⟨fr.v,zrd keep fr.p⟩
def Fr.pnew(fr:Fr)(d:Nat)(pv:PV):Fr:=⟨(d,.loc d 0)::zel [d] fr.v,(d,pv,true)::fr.p⟩
def Fr.pset(fr:Fr)(d:Nat)(pv:PV):Fr:=⟨fr.v,(d,pv,true)::fr.p⟩
def Opd.val(fr:Fr):Opd→Option FV
 | .t n=>z0g fr.v n
 | .c v=>some (.v v)
 | .gl _=>none
 | .fn f=>some (.v (.fn f []))
def Opd.mv(fr:Fr)(x:Opd):Option MV:=match x.val fr with
 | some (.v v)=>some v
 | _=>none
def z74(fr:Fr):List Opd→Option (List MV)
 | []=>some []
 | x::r=>match x.mv fr,z74 fr r with
  | some v,some vs=>some (v::vs)
  | _,_=>none
inductive LV where
 | s (n:Nat) (t:Ty) | p (n:Nat) (t:Ty)
def LV.ty:LV→Ty
 | .s _ t=>t | .p _ t=>t
def LV.no:LV→Nat
 | .s n _=>n | .p n _=>n
structure Live where
 vs:List LV
 locs:List (Nat×Nat×Nat)
def HL:List LV→Type
 | []=>Unit
 | [l]=>l.ty.den
 | l::m::r=>l.ty.den×HL (m::r)
def PV.dec:(t:Ty)→PV→Option t.den
 | .st ts,.st cs=>HC.dec ts cs
 | .arr k,.arr k' xs=>if k=k' then some xs else none
 | .agg _,.raw cs=>some cs
 | _,_=>none
def PV.enc:(t:Ty)→t.den→PV
 | .st ts,x =>.st (HC.enc ts x)
 | .arr k,xs =>.arr k xs
 | .agg _,cs =>.raw cs
 | .c t,x =>.st [t.enc x]
 | .fnc f caps,x =>.st [.fn f (HC.enc caps x)]
def LV.get(fr:Fr):(l:LV)→Option l.ty.den
 | .s n t=>match z0g fr.v n with
  | some (.v v)=>t.dec v
  | _=>none
 | .p n t=>match z0g fr.p n with
  | some (pv,true)=>pv.dec t
  | _=>none
def LV.put(fr:Fr):(l:LV)→l.ty.den→Fr
 | .s n t,x=>fr.set n (t.enc x)
 | .p n t,x=>fr.pset n (PV.enc t x)
def zre{β:Type}(fr:Fr):(ls:List LV)→(HL ls→M β)→M β
 | [],k=>k ()
 | [l],k=>match l.get fr with
  | some x=>k x
  | none=>z0h
 | l::m::r,k=>match l.get fr with
  | some x=>zre fr (m::r) fun y=>k (x,y)
  | none=>z0h
def zsj:(ls:List LV)→HL ls→Fr→Fr
 | [],_,fr=>fr
 | [l],x,fr=>l.put fr x
 | l::m::r,x,fr=>zsj (m::r) x.2 (l.put fr x.1)
def zi1(fr:Fr):List (Nat×Nat×Nat)→Bool
 | []=>true
 | (d,s,o)::r=>(match z0g fr.v d with
  | some (.loc s' o')=>Nat.beq s s'&&Nat.beq o o'
  | _=>false)&&zi1 fr r
def putLocs(fr:Fr):List (Nat×Nat×Nat)→Fr
 | []=>fr
 | (d,s,o)::r=>putLocs (fr.setL d s o) r
def Live.proj{β:Type}(l:Live)(fr:Fr)(k:HL l.vs→M β):M β:=bif zi1 fr l.locs then zre fr l.vs k else z0h
def Live.un(l:Live)(x:HL l.vs)(fr:Fr):Fr:=putLocs (zsj l.vs x fr) l.locs
inductive Tag where
 | normal | ret | exit (n:Nat) | goto (n:Nat)
 deriving DecidableEq
def Tag.is:Tag→Tag→Bool
 | .normal,.normal=>true
 | .ret,.ret=>true
 | .exit a,.exit b=>Nat.beq a b
 | .goto a,.goto b=>Nat.beq a b
 | _,_=>false
inductive Ins where
 | mv (d:Nat) (x:Opd)
 | un (d:Nat) (op:UnOp) (x:Opd)
 | bin (d:Nat) (op:BinOp) (tk:Nat) (x y:Opd)
 | conv (d:Nat) (k:IntKind) (x:Opd)
 | ext (d i:Nat) (x:Opd)
 | alloc (d:Nat) (z:List MV)
 | palloc (d:Nat) (pv:PV)
 | box (d:Nat) (agg:Bool) (x:Opd)
 | pbox (d:Nat) (k:Nat) (x:Opd)
 | build (d:Nat) (z:List MV) (parts:List (Nat×Option Nat×Opd))
 | bslice (d e len:Nat) (z:List MV) (parts:List (Nat×Option Nat×Opd))
 | load (d:Nat) (t:Ty) (p:Opd)
 | loadz (d:Nat) (t:Ty) (p:Opd)
 | store (n:Option Nat) (p x:Opd)
 | nonNil (d:Nat) (x:Opd)
 | nonNilF (d:Nat) (x:Opd)
 | fldA (d off:Nat) (p:Opd)
 | fldV (d off:Nat) (t:Ty) (x:Opd)
 | fldR (d off:Nat) (t:Ty) (x:Opd)
 | idx (d e:Nat) (s i:Opd)
 | idxA (d n e:Nat) (p i:Opd)
 | idxV (d n:Nat) (t:CTy) (x i:Opd)
 | idxVn (d n e:Nat) (t:Ty) (x i:Opd)
 | idxS (d:Nat) (s i:Opd)
 | slc (d e:Nat) (s:Opd) (lo hi:Option Opd)
 | slcS (d:Nat) (s:Opd) (lo hi:Option Opd)
 | slcA (d n e:Nat) (p:Opd) (lo hi:Option Opd)
 | mkSl (d e bytes:Nat) (z:List MV) (len cap:Opd)
 | len (d:Nat) (x:Opd)
 | lenS (d:Nat) (x:Opd)
 | min (d:Nat) (x y:Opd)
 | max (d:Nat) (x y:Opd)
 | app (d e bytes:Nat) (s t:Opd)
 | appS (d:Nat) (s t:Opd)
 | copy (d e:Nat) (x y:Opd)
 | copyS (d:Nat) (x y:Opd)
 | toStr (d:Nat) (x:Opd)
 | toBytes (d:Nat) (x:Opd)
 | same (d:Nat) (x:Opd)
 | cat (d:Nat) (x y:Opd)
 | nilI (d:Nat) (neg:Bool) (x:Opd)
 | eqSt (d:Nat) (neg:Bool) (L:List (Nat×CTy)) (x y:Opd)
 | mkMap (d:Nat)
 | look1 (d:Nat) (kt:CTy) (t:Ty) (z:MV) (m k:Opd)
 | look2 (d:Nat) (kt:CTy) (t:Ty) (z:MV) (m k:Opd)
 | mapPut (kt:CTy) (m k x:Opd)
 | mapDel (kt:CTy) (m k:Opd)
 | mapLen (d:Nat) (m:Opd)
 | call (d:Nat) (f:FuncId) (args:List Opd)
 | callv (d:Nat) (f:Opd) (args:List Opd)
 | mkFn (d:Nat) (f:FuncId) (caps:List Opd)
 | mkIface (d:Nat) (t:TypeId) (x:Opd)
 | mvz (d:Nat) (x:Opd)
 | callz (d:Nat) (f:FuncId) (args:List Opd)
 | callvz (d:Nat) (f:Opd) (args:List Opd)
 | arrAt (d n:Nat) (x:Opd)
 | markB (d:Nat) (x:Opd)
 | mapClr (m:Opd)
 | slClr (e:Nat) (z:List MV) (x:Opd)
 | allocA (d b:Nat) (z:List MV)
 | boxA (d b:Nat) (agg:Bool) (x:Opd)
 | bsliceA (d b e len:Nat) (z:List MV) (parts:List (Nat×Option Nat×Opd))
 | mkSlA (d b e bytes:Nat) (z:List MV) (len cap:Opd)
 | toBytesA (d b:Nat) (x:Opd)
 | mkMapA (d b:Nat)
inductive Item where
 | i (x:Ins)
 | sc (pure:Bool) (isAnd:Bool) (g:Nat) (body:List Item) (b:Opd) (d:Nat)
structure Z where
 w:Bool
 rs:List Nat
 b:Nat
def z6k(d:Nat):List Nat→Nat
 | []=>0
 | x::r=>bif Nat.beq x d then 0 else z6k d r+1
def z0w(z:Z):Ins→Ins
 | .mv d x =>.mvz d x
 | .call d f args=>bif z.w && !(mem d z.rs)then .callz d f args else .call d f args
 | .callv d f args=>bif z.w && !(mem d z.rs)then .callvz d f args else .callv d f args
 | .alloc d c=>bif mem d z.rs then .allocA d (z.b+z6k d z.rs) c else .alloc d c
 | .box d a x=>bif mem d z.rs then .boxA d (z.b+z6k d z.rs) a x else .box d a x
 | .bslice d e len c ps=>bif mem d z.rs then .bsliceA d (z.b+z6k d z.rs) e len c ps else .bslice d e len c ps
 | .mkSl d e bytes c l cap=>bif mem d z.rs then .mkSlA d (z.b+z6k d z.rs) e bytes c l cap else .mkSl d e bytes c l cap
 | .toBytes d x=>bif mem d z.rs then .toBytesA d (z.b+z6k d z.rs) x else .toBytes d x
 | .mkMap d=>bif mem d z.rs then .mkMapA d (z.b+z6k d z.rs)else .mkMap d
 | .load d t p=>bif mem d z.rs then .loadz d t p else .load d t p
 | .allocA d _ _ | .boxA d _ _ _ | .bsliceA d _ _ _ _ _ | .mkSlA d _ _ _ _ _ _ | .toBytesA d _ _ | .mkMapA d _ =>.palloc d (.st [])
 | x=>x
mutual
def z8w(z:Z):Item→Item
 | .i x =>.i (z0w z x)
 | .sc p a g body b d =>.sc p a g (zItems z body) b d
def zItems(z:Z):List Item→List Item
 | []=>[]
 | x::r=>z8w z x::zItems z r
end
inductive MC where
 | skip
 | reg (z4e:List Item)
 | seq (a b:MC)
 | cond (c:Opd) (a b:MC)
 | block (id:Nat) (a:MC)
 | loop (live:Live) (a:MC)
 | exit (id:Nat)
 | ret
 | join (outs:List (Tag×Live)) (a:MC)
 | bad
 | goto (l:Nat)
 | jump (l:Nat) (live:Live) (a b:MC)
 | regR (w:Bool) (rs:List Nat) (l:List Item) (ap:List (Opd×Opd))
structure Entry where
 A:Type
 dec:List MV→Option A
 R:Type
 enc:R→MV
 f:A→M R
def Entry.run(e:Entry){β:Type}(args:List MV)(k:MV→M β):M β:=match e.dec args with
 | some a=>bd (e.f a) fun r=>k (e.enc r)
 | none=>z0h
def Entry.runz(e:Entry){β:Type}(args:List MV)(k:MV→M β):M β:=match e.dec args with
 | some a=>bd (frz (e.f a)) fun r=>k (e.enc r)
 | none=>z0h
def wr(k:IntKind)(n:Int):Int:=k.wrap n
def z37(op:BinOp)(k:IntKind)(x y:Int):Int:=
 let a:=BitVec.ofInt k.bits x
 let b:=BitVec.ofInt k.bits y
 k.wrap (match op with
  | .and=>(a &&& b).toNat
  | .or=>(a ||| b).toNat
  | .xor=>(a ^^^ b).toNat
  | _=>(a &&& ~~~b).toNat:Nat)
def z75(k:IntKind)(x y:Int):Int:=k.wrap (x * 2^(Min.min y.toNat k.bits))
def zbc(k:IntKind)(x y:Int):Int:=x.fdiv (2^(Min.min y.toNat k.bits))
section
variable{β:Type}
def z7n(op:BinOp)(x y:MV)(k:MV→M β):M β:=
 match op,x,y with
 | .shl,.int k1 a,.int _ b=>if b<0 then z0h else k (.int k1 (z75 k1 a b))
 | .shr,.int k1 a,.int _ b=>if b<0 then z0h else k (.int k1 (zbc k1 a b))
 | op,.int k1 a,.int k2 b=>if k1=k2 then(match op with
  | .add=>k (.int k1 (wr k1 (a+b)))
  | .sub=>k (.int k1 (wr k1 (a - b)))
  | .mul=>k (.int k1 (wr k1 (a * b)))
  | .quo=>if b=0 then z0h else k (.int k1 (wr k1 (a.tdiv b)))
  | .rem=>if b=0 then z0h else k (.int k1 (a.tmod b))
  | .eql=>k (.bool (decide (a=b)))
  | .neq=>k (.bool (!decide (a=b)))
  | .lss=>k (.bool (decide (a<b)))
  | .leq=>k (.bool (decide (a≤b)))
  | .gtr=>k (.bool (decide (b<a)))
  | .geq=>k (.bool (decide (b≤a)))
  | op=>k (.int k1 (z37 op k1 a b)))else z0h
 | .eql,.bool a,.bool b=>k (.bool (a==b))
 | .neq,.bool a,.bool b=>k (.bool (!(a==b)))
 | .eql,.str a,.str b=>k (.bool (decide (a=b)))
 | .neq,.str a,.str b=>k (.bool (!decide (a=b)))
 | .lss,.str a,.str b=>k (.bool (Op.bytesLess a b))
 | .eql,.ptr p,.ptr q=>zao p q fun b=>k (.bool b)
 | .neq,.ptr p,.ptr q=>zao p q fun b=>k (.bool (!b))
 | .eql,.sl p _ _,.sl none _ _=>k (.bool p.isNone)
 | .neq,.sl p _ _,.sl none _ _=>k (.bool (!p.isNone))
 | .eql,.map r,.map none=>k (.bool r.isNone)
 | .neq,.map r,.map none=>k (.bool (!r.isNone))
 | _,_,_=>z0h
def zgj(tk:Nat):MV→Bool
 | .bool _=>Nat.beq tk 1
 | .ptr _=>Nat.beq tk 2
 | .sl _ _ _=>Nat.beq tk 3
 | .map _=>Nat.beq tk 4
 | _=>true
def zdx(op:UnOp)(x:MV)(k:MV→M β):M β:=
 match op,x with
 | .not,.bool b=>k (.bool (!b))
 | .neg,.int k1 n=>k (.int k1 (wr k1 (0 - n)))
 | .xor,.int k1 n=>k (.int k1 (z37 .xor k1 (if k1.signed then -1 else k1.max) n))
 | _,_=>z0h
def z2d:List MV→List (Nat×Option Nat×MV)→Option (List MV)
 | cs,[]=>some cs
 | cs,(off,some n,.agg vs)::r=>if vs.length=n∧off+n≤cs.length then z2d (z11 cs off vs) r else none
 | cs,(off,none,v)::r=>if off<cs.length∧z10 v=true then z2d (cs.set off v) r else none
 | _,_=>none
def z4x(fr:Fr):List (Nat×Option Nat×Opd)→Option (List (Nat×Option Nat×MV))
 | []=>some []
 | (o,n,x)::r=>match x.mv fr,z4x fr r with
  | some v,some l=>some ((o,n,v)::l)
  | _,_=>none
def z19{γ:Type u}(x:Option γ)(k:γ→M β):M β:=match x with
 | some v=>k v
 | none=>z0h
def z3o(x:Option MV)(k:IntKind→Int→M β):M β:=match x with
 | some (.int kd n)=>k kd n
 | _=>z0h
def z58(x:Option MV)(k:List UInt8→M β):M β:=match x with
 | some (.str s)=>k s
 | _=>z0h
def wSl(x:Option MV)(k:Option MA→Nat→Nat→M β):M β:=match x with
 | some (.sl p l e)=>k p l e
 | _=>z0h
def zbd(x:Option MV)(k:List MV→M β):M β:=match x with
 | some (.tup vs)=>k vs
 | _=>z0h
def z4s(x:Option MV)(k:List MV→M β):M β:=match x with
 | some (.agg vs)=>k vs
 | _=>z0h
def z7o(x:Option MV)(k:Option Nat→M β):M β:=match x with
 | some (.map r)=>k r
 | _=>z0h
def zd3(x:Option MV)(k:Option MA→M β):M β:=match x with
 | some (.ptr p)=>k p
 | _=>z0h
def wFn(x:Option MV)(k:FuncId→List MV→M β):M β:=match x with
 | some (.fn f cs)=>k f cs
 | _=>z0h
def z3e(x:Option FV)(k1:Option MA→M β)(k2:Nat→Nat→M β):M β:=match x with
 | some (.v (.ptr q))=>k1 q
 | some (.loc s o)=>k2 s o
 | _=>z0h
def z9l(x:Option FV)(k:FV→M β):M β:=match x with
 | some (.v v)=>k (.v v)
 | some (.loc s o)=>k (.loc s o)
 | _=>z0h
def wIf(b:Bool)(m:M β):M β:=match b with
 | true=>m
 | false=>z0h
def eqC:CTy→MV→MV→Option Bool
 | .int k,.int k1 n,.int k2 m=>if k1=k∧k2=k then some (decide (n=m))else none
 | .str,.str a,.str b=>some (decide (a=b))
 | .bool,.bool a,.bool b=>some (a==b)
 | _,_,_=>none
def z9r:List (Nat×CTy)→List MV→List MV→Option Bool
 | [],_,_=>some true
 | (o,c)::r,a,b=>match a[o]?,b[o]? with
  | some x,some y=>(match eqC c x y,z9r r a b with
   | some p,some q=>some (p&&q)
   | _,_=>none)
  | _,_=>none
def z8x:CTy→MV→Bool
 | .int k,.int k' _=>decide (k=k')
 | .str,.str _=>true
 | .bool,.bool _=>true
 | _,_=>false
def intOf(fr:Fr)(x:Option Opd)(els:Int)(k:Int→M β):M β:=match x with
 | none=>k els
 | some o=>z3o (o.mv fr) fun _ n=>k n
def z6l(pv:PV)(t:Ty)(o:Nat)(k:MV→M β):M β:=match pv,t with
 | .st cs,.c _=>z19 cs[o]? k
 | .st cs,.st ts=>if o+ts.length≤cs.length then k (.agg ((cs.drop o).take ts.length))else z0h
 | .arr kd xs,.c (.int kd')=>if kd=kd' then bd (z0p xs[o]?) fun n=>k (.int kd n)else z0h
 | .raw cs,.c t=>bd (z0p cs[o]?) fun v=>bd (z0p (t.dec v)) fun x=>k (t.enc x)
 | .raw cs,.st ts=>bd (if o+ts.length≤cs.length then ret ((cs.drop o).take ts.length)else z0h) fun l=>bd (z0p (HC.dec ts l)) fun x=>k (.agg (HC.enc ts x))
 | .raw cs,.agg n=>bd (if o+n≤cs.length then ret ((cs.drop o).take n)else z0h) fun l=>k (.agg l)
 | _,_=>z0h
def pstore(pv:PV)(n:Option Nat)(o:Nat)(x:MV)(k:PV→M β):M β:=match pv,n,x with
 | .st cs,none,v=>if o<cs.length∧z10 v=true then k (.st (cs.set o v))else z0h
 | .st cs,some n,.agg vs=>if vs.length=n∧o+n≤cs.length∧vs.all z10=true then k (.st (z11 cs o vs))else z0h
 | .arr kd xs,none,.int kd' v=>if kd=kd' then bd (if o<xs.length then ret ()else z0h) fun _=>k (.arr kd (xs.set o v))else z0h
 | .raw cs,none,v=>bd (if o<cs.length∧z10 v=true then ret ()else z0h) fun _=>k (.raw (cs.set o v))
 | .raw cs,some n,.agg vs=>bd (if vs.length=n∧o+n≤cs.length∧vs.all z10=true then ret ()else z0h) fun _=>k (.raw (z11 cs o vs))
 | _,_,_=>z0h
def z08(C:List (Nat×Entry))(ins:Ins)(fr:Fr)(k:Fr→M β):M β:=
 match ins with
 | .mv d x=>z19 (x.val fr) fun v=>k (fr.setF d v)
 | .un d op x=>z19 (x.mv fr) fun v=>zdx op v fun r=>k (fr.set d r)
 | .bin d op tk x y=>z19 (x.mv fr) fun v=>z19 (y.mv fr) fun u=>wIf (zgj tk v) (z7n op v u fun r=>k (fr.set d r))
 | .conv d kd x=>z3o (x.mv fr) fun _ n=>k (fr.set d (.int kd (wr kd n)))
 | .ext d i x=>zbd (x.mv fr) fun vs=>z19 vs[i]? fun v=>k (fr.set d v)
 | .alloc d z=>bd (alloc z) fun p=>k (fr.set d (.ptr p))
 | .palloc d pv=>k (fr.pnew d pv)
 | .box d true x=>z4s (x.mv fr) fun cs=>bd (alloc cs) fun p=>k (fr.set d (.ptr p))
 | .box d false x=>z19 (x.mv fr) fun v=>bd (z8d v) fun p=>k (fr.set d (.ptr p))
 | .pbox d 0 x=>z19 (x.mv fr) fun v=>if z10 v=true then k (fr.pnew d (.st [v]))else z0h
 | .pbox d 1 x=>z4s (x.mv fr) fun cs=>k (fr.pnew d (.st cs))
 | .pbox d _ x=>z4s (x.mv fr) fun cs=>k (fr.pnew d (.raw cs))
 | .build d z parts=>z19 (z4x fr parts) fun l=>z19 (z2d z l) fun cs=>k (fr.set d (.agg cs))
 | .bslice d e len z parts=>z19 (z4x fr parts) fun l=>z19 (z2d z l) fun cs=>bd (alloc cs) fun p=>k (fr.set d (.sl p len e))
 | .load d t p=>z3e (p.val fr) (fun q=>bd (ld t q) fun x=>k (fr.set d (t.enc x))) fun s o=>z19 (z0g fr.p s) fun pv=>z6l pv.1 t o fun v=>k (fr.set d v)
 | .loadz d t p=>z3e (p.val fr) (fun _=>z0h) fun s o=>z19 (z0g fr.p s) fun pv=>z6l pv.1 t o fun v=>k (fr.set d v)
 | .store (some n) p x=>z3e (p.val fr) (fun q=>z4s (x.mv fr) fun vs=>bd (stn n q vs) fun _=>k fr) fun s o=>z19 (z0g fr.p s) fun pv=>wIf pv.2 (z19 (x.mv fr) fun v=>pstore pv.1 (some n) o v fun pv'=>k (fr.pset s pv'))
 | .store none p x=>z3e (p.val fr) (fun q=>z19 (x.mv fr) fun v=>bd (stc q v) fun _=>k fr) fun s o=>z19 (z0g fr.p s) fun pv=>wIf pv.2 (z19 (x.mv fr) fun v=>pstore pv.1 none o v fun pv'=>k (fr.pset s pv'))
 | .nonNil d x=>z3e (x.val fr) (fun q=>bd (nonNil q) fun p=>k (fr.set d (.ptr p))) fun s o=>k (fr.setL d s o)
 | .nonNilF d x=>wFn (x.mv fr) fun f cs=>k (fr.set d (.fn f cs))
 | .fldA d off p=>z3e (p.val fr) (fun q=>bd (fld q off) fun p=>k (fr.set d (.ptr p))) fun s o=>k (fr.setL d s (o+off))
 | .fldV d off (.c _) x=>z4s (x.mv fr) fun cs=>z19 cs[off]? fun v=>k (fr.set d v)
 | .fldV d off (.st ts) x=>z4s (x.mv fr) fun cs=>if off+ts.length≤cs.length then k (fr.set d (.agg ((cs.drop off).take ts.length)))else z0h
 | .fldV d off (.agg n) x=>z4s (x.mv fr) fun cs=>if off+n≤cs.length then k (fr.set d (.agg ((cs.drop off).take n)))else z0h
 | .fldV _ _ (.arr _) _=>z0h
 | .fldV _ _ (.fnc _ _) _=>z0h
 | .fldR d off t x=>z4s (x.mv fr) fun cs=>z6l (.raw cs) t off fun v=>k (fr.set d v)
 | .idx d e s i=>wSl (s.mv fr) fun p l e'=>z3o (i.mv fr) fun _ n=>if e=e' then bd (idx e ⟨p,l⟩ n) fun q=>k (fr.set d (.ptr q))else z0h
 | .idxA d n e p i=>z3e (p.val fr) (fun q=>z3o (i.mv fr) fun _ j=>bd (idxA n e q j) fun q=>k (fr.set d (.ptr q)))
   fun s o=>z3o (i.mv fr) fun _ j=>bd (if 0≤j∧j<n then ret ()else z0h) fun _=>k (fr.setL d s (o+j.toNat * e))
 | .idxV d n t x i=>z4s (x.mv fr) fun cs=>z3o (i.mv fr) fun _ j=>bd (idxV n cs j) fun v=>bd (z0p (t.dec v)) fun y=>k (fr.set d (t.enc y))
 | .idxVn d n e t x i=>z4s (x.mv fr) fun cs=>z3o (i.mv fr) fun _ j=>bd (idxVn n e cs j) fun v=>bd (z0p (t.dec (.agg v))) fun y=>k (fr.set d (t.enc y))
 | .idxS d s i=>z58 (s.mv fr) fun l=>z3o (i.mv fr) fun _ n=>bd (idxS l n) fun b=>k (fr.set d (.int .u8 b))
 | .slc d e s lo hi=>wSl (s.mv fr) fun p l e'=>if e=e' then intOf fr lo 0 fun a=>intOf fr hi l fun b=>bd (slc e ⟨p,l⟩ a b) fun s=>k (fr.set d (.sl s.p s.len e))else z0h
 | .slcS d s lo hi=>z58 (s.mv fr) fun l=>intOf fr lo 0 fun a=>intOf fr hi l.length fun b=>bd (slcS l a b) fun s=>k (fr.set d (.str s))
 | .slcA d n e p lo hi=>zd3 (p.mv fr) fun q=>intOf fr lo 0 fun a=>intOf fr hi n fun b=>bd (slcA n e q a b) fun s=>k (fr.set d (.sl s.p s.len e))
 | .mkSl d e bytes z len cap=>z3o (len.mv fr) fun _ l=>z3o (cap.mv fr) fun _ c=>bd (mkSl e bytes z l c) fun s=>k (fr.set d (.sl s.p s.len e))
 | .len d x=>wSl (x.mv fr) fun _ l _=>k (fr.set d (.int .i64 l))
 | .lenS d x=>z58 (x.mv fr) fun s=>k (fr.set d (.int .i64 s.length))
 | .min d x y=>z3o (x.mv fr) fun k1 a=>z3o (y.mv fr) fun _ b=>k (fr.set d (.int k1 (if b<a then b else a)))
 | .max d x y=>z3o (x.mv fr) fun k1 a=>z3o (y.mv fr) fun _ b=>k (fr.set d (.int k1 (if a<b then b else a)))
 | .app d e bytes s t=>wSl (s.mv fr) fun p l e1=>wSl (t.mv fr) fun q m e2=>if e=e1∧e=e2 then bd (app e bytes ⟨p,l⟩ ⟨q,m⟩) fun s=>k (fr.set d (.sl s.p s.len e))else z0h
 | .appS d s t=>wSl (s.mv fr) fun p l e1=>z58 (t.mv fr) fun x=>if e1=1 then bd (appS ⟨p,l⟩ x) fun s=>k (fr.set d (.sl s.p s.len 1))else z0h
 | .copy d e x y=>wSl (x.mv fr) fun p l e1=>wSl (y.mv fr) fun q m e2=>if e=e1∧e=e2 then bd (copy e ⟨p,l⟩ ⟨q,m⟩) fun n=>k (fr.set d (.int .i64 n))else z0h
 | .copyS d x y=>wSl (x.mv fr) fun p l e1=>z58 (y.mv fr) fun s=>if e1=1 then bd (copyS ⟨p,l⟩ s) fun n=>k (fr.set d (.int .i64 n))else z0h
 | .toStr d x=>wSl (x.mv fr) fun p l e=>if e=1 then bd (toStr ⟨p,l⟩) fun s=>k (fr.set d (.str s))else z0h
 | .toBytes d x=>z58 (x.mv fr) fun s=>bd (toBytes s) fun s=>k (fr.set d (.sl s.p s.len 1))
 | .same d x=>z58 (x.mv fr) fun s=>k (fr.set d (.str s))
 | .cat d x y=>z58 (x.mv fr) fun a=>z58 (y.mv fr) fun b=>bd (zgk a b) fun s=>k (fr.set d (.str s))
 | .nilI d neg x=>z19 (x.mv fr) fun v=>bd (zi3 v) fun r=>k (fr.set d (.bool (bif neg then !r else r)))
 | .eqSt d neg L x y=>z4s (x.mv fr) fun a=>z4s (y.mv fr) fun b=>z19 (z9r L a b) fun r=>k (fr.set d (.bool (bif neg then !r else r)))
 | .mkMap d=>bd mkMap fun r=>k (fr.set d (.map r))
 | .look1 d kt t z m kk=>z7o (m.mv fr) fun r=>z19 (kk.mv fr) fun key=>wIf (z8x kt key) (bd (z84 r key) fun o=>bd (z0p (t.dec (o.getD z))) fun x=>k (fr.set d (t.enc x)))
 | .look2 d kt t z m kk=>z7o (m.mv fr) fun r=>z19 (kk.mv fr) fun key=>wIf (z8x kt key) (bd (z84 r key) fun o=>bd (z0p (t.dec (o.getD z))) fun x=>k (fr.set d (.tup [t.enc x,.bool o.isSome])))
 | .mapPut kt m kk x=>z7o (m.mv fr) fun r=>z19 (kk.mv fr) fun key=>z19 (x.mv fr) fun v=>wIf (z8x kt key) (bd (mapPut r key v) fun _=>k fr)
 | .mapDel kt m kk=>z7o (m.mv fr) fun r=>z19 (kk.mv fr) fun key=>wIf (z8x kt key) (bd (mapDel r key) fun _=>k fr)
 | .mapLen d m=>z7o (m.mv fr) fun r=>bd (mapLen r) fun n=>k (fr.set d (.int .i64 n))
 | .call d f args=>z19 (z74 fr args) fun vs=>z19 (z0g C f) fun e=>e.run vs fun v=>k (fr.set d v)
 | .callv d f args=>wFn (f.mv fr) fun g caps=>z19 (z74 fr args) fun vs=>z19 (z0g C g) fun e=>e.run (vs++caps) fun v=>k (fr.set d v)
 | .mkFn d f caps=>z19 (z74 fr caps) fun vs=>k (fr.set d (.fn f vs))
 | .mkIface d t x=>z19 (x.mv fr) fun v=>k (fr.set d (.iface t v))
 | .mvz d x=>z9l (x.val fr) fun v=>k (fr.setF d v)
 | .callz d f args=>z19 (z74 fr args) fun vs=>z19 (z0g C f) fun e=>e.runz vs fun v=>k (fr.set d v)
 | .callvz d f args=>wFn (f.mv fr) fun g caps=>z19 (z74 fr args) fun vs=>z19 (z0g C g) fun e=>e.runz (vs++caps) fun v=>k (fr.set d v)
 | .arrAt d n x=>wSl (x.mv fr) fun p l _=>bd (arrAt n ⟨p,l⟩) fun q=>k (fr.set d (.ptr q))
 | .markB d x=>wSl (x.mv fr) fun p l e=>if e=1 then bd (markB ⟨p,l⟩) fun s=>k (fr.set d (.sl s.p s.len 1))else z0h
 | .mapClr m=>z7o (m.mv fr) fun r=>bd (mapClr r) fun _=>k fr
 | .slClr e z x=>wSl (x.mv fr) fun p l _=>bd (slClr e z ⟨p,l⟩) fun _=>k fr
 | .allocA d b z=>bd (zfo b z) fun p=>k (fr.set d (.ptr p))
 | .boxA d b true x=>z4s (x.mv fr) fun cs=>bd (zfo b cs) fun p=>k (fr.set d (.ptr p))
 | .boxA d b false x=>z19 (x.mv fr) fun v=>bd (zkz b v) fun p=>k (fr.set d (.ptr p))
 | .bsliceA d b e len z parts=>z19 (z4x fr parts) fun l=>z19 (z2d z l) fun cs=>bd (zfo b cs) fun p=>k (fr.set d (.sl p len e))
 | .mkSlA d b e bytes z len cap=>z3o (len.mv fr) fun _ l=>z3o (cap.mv fr) fun _ c=>bd (zsl b e bytes z l c) fun s=>k (fr.set d (.sl s.p s.len e))
 | .toBytesA d b x=>z58 (x.mv fr) fun s=>bd (zi2 b s) fun s=>k (fr.set d (.sl s.p s.len 1))
 | .mkMapA d b=>bd (zwl b) fun r=>k (fr.set d (.map r))
def Ins.dst:Ins→List Nat
 | .mv d _ | .un d _ _ | .bin d _ _ _ _ | .conv d _ _ | .ext d _ _ | .alloc d _ | .palloc d _ | .box d _ _ | .pbox d _ _ | .build d _ _ | .bslice d _ _ _ _
 | .load d _ _ | .loadz d _ _ | .nonNil d _ | .nonNilF d _ | .fldA d _ _ | .fldV d _ _ _ | .fldR d _ _ _ | .idx d _ _ _ | .idxA d _ _ _ _ | .idxV d _ _ _ _ | .idxVn d _ _ _ _ _ | .idxS d _ _ | .slc d _ _ _ _
 | .slcS d _ _ _ | .slcA d _ _ _ _ _ | .mkSl d _ _ _ _ _ | .len d _ | .lenS d _ | .min d _ _ | .max d _ _ | .app d _ _ _ _ | .appS d _ _ | .copy d _ _ _ | .copyS d _ _
 | .toStr d _ | .toBytes d _ | .same d _ | .cat d _ _ | .nilI d _ _ | .eqSt d _ _ _ _ | .mkMap d | .look1 d _ _ _ _ _ | .look2 d _ _ _ _ _ | .mapLen d _ | .call d _ _ | .callv d _ _
 | .mkFn d _ _ | .mkIface d _ _ | .mvz d _ | .callz d _ _ | .callvz d _ _ | .arrAt d _ _ | .markB d _
 | .allocA d _ _ | .boxA d _ _ _ | .bsliceA d _ _ _ _ _ | .mkSlA d _ _ _ _ _ _ | .toBytesA d _ _ | .mkMapA d _=>[d]
 | .store _ _ _ | .mapPut _ _ _ _ | .mapDel _ _ _ | .mapClr _ | .slClr _ _ _=>[]
def Ins.opds:Ins→List Opd
 | .mv _ x | .mvz _ x | .un _ _ x | .conv _ _ x | .ext _ _ x | .box _ _ x | .pbox _ _ x | .load _ _ x | .loadz _ _ x | .nonNil _ x | .nonNilF _ x | .fldA _ _ x | .fldV _ _ _ x | .fldR _ _ _ x
 | .len _ x | .lenS _ x | .toStr _ x | .toBytes _ x | .same _ x | .nilI _ _ x | .mapLen _ x | .mkIface _ _ x | .arrAt _ _ x | .markB _ x | .mapClr x | .slClr _ _ x | .boxA _ _ _ x | .toBytesA _ _ x=>[x]
 | .bin _ _ _ x y | .store _ x y | .idx _ _ x y | .idxA _ _ _ x y | .idxV _ _ _ x y | .idxVn _ _ _ _ x y | .idxS _ x y | .mkSl _ _ _ _ x y | .min _ x y | .max _ x y | .mkSlA _ _ _ _ _ x y
 | .app _ _ _ x y | .appS _ x y | .copy _ _ x y | .copyS _ x y | .cat _ x y | .eqSt _ _ _ x y | .look1 _ _ _ _ x y | .look2 _ _ _ _ x y | .mapDel _ x y=>[x,y]
 | .mapPut _ x y z=>[x,y,z]
 | .slc _ _ x lo hi | .slcS _ x lo hi | .slcA _ _ _ x lo hi=>x::(lo.toList++hi.toList)
 | .build _ _ ps | .bslice _ _ _ _ ps | .bsliceA _ _ _ _ _ ps=>ps.map (·.2.2)
 | .call _ _ args | .callz _ _ args | .mkFn _ _ args=>args
 | .callv _ f args | .callvz _ f args=>f::args
 | .alloc _ _ | .palloc _ _ | .mkMap _ | .allocA _ _ _ | .mkMapA _ _=>[]
def Ins.cls:Ins→Nat
 | .mvz _ _ | .un _ _ _ | .bin _ _ _ _ _ | .conv _ _ _ | .ext _ _ _ | .nonNil _ _ | .nonNilF _ _ | .fldA _ _ _ | .fldV _ _ _ _ | .fldR _ _ _ _ | .idx _ _ _ _ | .idxA _ _ _ _ _ | .idxV _ _ _ _ _ | .idxVn _ _ _ _ _ _ | .idxS _ _ _
 | .slc _ _ _ _ _ | .slcS _ _ _ _ | .len _ _ | .lenS _ _ | .min _ _ _ | .max _ _ _ | .same _ _ | .cat _ _ _ | .nilI _ _ _ | .eqSt _ _ _ _ _ | .build _ _ _ | .mkFn _ _ _ | .mkIface _ _ _ | .arrAt _ _ _=>0
 | .load _ _ _ | .loadz _ _ _ | .slcA _ _ _ _ _ _ | .toStr _ _ | .look1 _ _ _ _ _ _ | .look2 _ _ _ _ _ _ | .mapLen _ _=>1
 | .alloc _ _ | .box _ _ _ | .bslice _ _ _ _ _ | .mkSl _ _ _ _ _ _ | .toBytes _ _ | .mkMap _ | .callz _ _ _ | .callvz _ _ _=>3
 | .allocA _ _ _ | .boxA _ _ _ _ | .bsliceA _ _ _ _ _ _ | .mkSlA _ _ _ _ _ _ _ | .toBytesA _ _ _ | .mkMapA _ _=>2
 | .store _ _ _ | .mapPut _ _ _ _ | .mapDel _ _ _ | .app _ _ _ _ _ | .appS _ _ _ | .copy _ _ _ _ | .copyS _ _ _ | .call _ _ _ | .callv _ _ _ | .markB _ _ | .mapClr _ | .slClr _ _ _=>4
 | .mv _ _ | .palloc _ _ | .pbox _ _ _=>9
def Ins.pl:Ins→Option Opd
 | .load _ _ p | .loadz _ _ p | .slcA _ _ _ p _ _ | .toStr _ p | .look1 _ _ _ _ p _ | .look2 _ _ _ _ p _ | .mapLen _ p | .store _ p _ | .mapPut _ p _ _ | .mapDel _ p _ | .mapClr p | .slClr _ _ p | .app _ _ _ p _ | .appS _ p _ | .copy _ _ p _ | .copyS _ p _ | .markB _ p=>some p
 | _=>none
def Ins.lv:Ins→Bool
 | .loadz _ _ _=>true
 | _=>false
mutual
def Item.dsts:Item→List Nat
 | .i x=>x.dst
 | .sc _ _ _ body _ d=>z0m body++[d]
def z0m:List Item→List Nat
 | []=>[]
 | x::r=>x.dsts++z0m r
end
def MC.dsts:MC→List Nat
 | .skip | .exit _ | .ret | .bad | .goto _=>[]
 | .jump _ _ a b=>a.dsts++b.dsts
 | .reg z4e=>z0m z4e
 | .regR _ _ l _=>z0m l
 | .seq a b=>a.dsts++b.dsts
 | .cond _ a b=>a.dsts++b.dsts
 | .block _ a=>a.dsts
 | .loop _ a=>a.dsts
 | .join _ a=>a.dsts
def evPure(ins:Ins)(fr:Fr):Option Fr:=
 match ins with
 | .mv d x=>match x.val fr with
  | some v=>some (fr.setF d v)
  | none=>none
 | .mvz d x=>match x.val fr with
  | some (.v v)=>some (fr.setF d (.v v))
  | some (.loc s o)=>some (fr.setF d (.loc s o))
  | _=>none
 | .un d .not x=>match x.mv fr with
  | some (.bool b)=>some (fr.set d (.bool (!b)))
  | _=>none
 | .bin d op tk x y=>match op,x.mv fr,y.mv fr with
  | .add,some (.int k1 a),some (.int k2 b)=>if k1=k2 then some (fr.set d (.int k1 (wr k1 (a+b))))else none
  | .sub,some (.int k1 a),some (.int k2 b)=>if k1=k2 then some (fr.set d (.int k1 (wr k1 (a - b))))else none
  | .mul,some (.int k1 a),some (.int k2 b)=>if k1=k2 then some (fr.set d (.int k1 (wr k1 (a * b))))else none
  | .rem,some (.int k1 a),some (.int k2 b)=>if k1=k2 then(if b=0 then none else some (fr.set d (.int k1 (a.tmod b))))else none
  | .quo,some (.int k1 a),some (.int k2 b)=>if k1=k2 then(if b=0 then none else some (fr.set d (.int k1 (wr k1 (a.tdiv b)))))else none
  | .eql,some (.int k1 a),some (.int k2 b)=>if k1=k2 then some (fr.set d (.bool (decide (a=b))))else none
  | .neq,some (.int k1 a),some (.int k2 b)=>if k1=k2 then some (fr.set d (.bool (!decide (a=b))))else none
  | .lss,some (.int k1 a),some (.int k2 b)=>if k1=k2 then some (fr.set d (.bool (decide (a<b))))else none
  | .leq,some (.int k1 a),some (.int k2 b)=>if k1=k2 then some (fr.set d (.bool (decide (a≤b))))else none
  | .gtr,some (.int k1 a),some (.int k2 b)=>if k1=k2 then some (fr.set d (.bool (decide (b<a))))else none
  | .geq,some (.int k1 a),some (.int k2 b)=>if k1=k2 then some (fr.set d (.bool (decide (b≤a))))else none
  | .eql,some (.bool a),some (.bool b)=>bif Nat.beq tk 1 then some (fr.set d (.bool (a==b)))else none
  | .neq,some (.bool a),some (.bool b)=>bif Nat.beq tk 1 then some (fr.set d (.bool (!(a==b))))else none
  | .eql,some (.str a),some (.str b)=>some (fr.set d (.bool (decide (a=b))))
  | .neq,some (.str a),some (.str b)=>some (fr.set d (.bool (!decide (a=b))))
  | .eql,some (.ptr p),some (.ptr none)=>bif Nat.beq tk 2 then some (fr.set d (.bool p.isNone))else none
  | .neq,some (.ptr p),some (.ptr none)=>bif Nat.beq tk 2 then some (fr.set d (.bool (!p.isNone)))else none
  | _,_,_=>none
 | .conv d kd x=>match x.mv fr with
  | some (.int _ n)=>some (fr.set d (.int kd (wr kd n)))
  | _=>none
 | .ext d i x=>match x.mv fr with
  | some (.tup vs)=>match vs[i]? with
   | some v=>some (fr.set d v)
   | none=>none
  | _=>none
 | .fldA d off p=>match p.val fr with
  | some (.loc s o)=>some (fr.setL d s (o+off))
  | _=>none
 | .fldV d off (.c _) x=>match x.mv fr with
  | some (.agg cs)=>match cs[off]? with
   | some v=>some (fr.set d v)
   | none=>none
  | _=>none
 | .load d (.c _) p=>match p.val fr with
  | some (.loc s o)=>(match z0g fr.p s with
   | some (.st cs,_)=>match cs[o]? with
    | some v=>some (fr.set d v)
    | none=>none
   | _=>none)
  | _=>none
 | .len d x=>match x.mv fr with
  | some (.sl _ l _)=>some (fr.set d (.int .i64 l))
  | _=>none
 | .lenS d x=>match x.mv fr with
  | some (.str s)=>some (fr.set d (.int .i64 s.length))
  | _=>none
 | _=>none
mutual
def zfl:Item→Fr→Option Fr
 | .i x,fr=>evPure x fr
 | .sc _ isAnd g body b d,fr=>match z0g fr.v g,zbe body (fr.lock [])with
  | some (.v (.bool t)),some fr'=>match b.mv fr' with
   | some (.bool x)=>some ((fr.del (z0m body)).set d (.bool (bif isAnd then t&&x else t || x)))
   | _=>none
  | _,_=>none
def zbe:List Item→Fr→Option Fr
 | [],fr=>some fr
 | x::r,fr=>match zfl x fr with
  | some fr'=>zbe r fr'
  | none=>none
end
end
mutual
def zan(C:List (Nat×Entry)):Item→Fr→{β:Type}→(Fr→M β)→M β
 | .i x,fr,_,k=>z08 C x fr k
 | .sc true isAnd g body b d,fr,_,k=>match zfl (.sc true isAnd g body b d) fr with
  | some fr'=>k fr'
  | none=>z0h
 | .sc false isAnd g body b d,fr,_,k=>match z0g fr.v g with
  | some (.v (.bool t))=>bd (β:=_) (if t=isAnd then z3p C body (fr.lock []) (β:=Bool) (fun fr'=>match b.mv fr' with
    | some (.bool x)=>ret x
    | _=>z0h)else ret (!isAnd)) fun x=>k ((fr.del (z0m body)).set d (.bool x))
  | _=>z0h
def z3p(C:List (Nat×Entry)):List Item→Fr→{β:Type}→(Fr→M β)→M β
 | [],fr,_,k=>k fr
 | x::r,fr,_,k=>zan C x fr fun fr'=>z3p C r fr' k
end
def JT:List (Tag×Live)→Type
 | []=>Empty
 | [o]=>HL o.2.vs
 | o::q::r=>HL o.2.vs⊕JT (q::r)
def inj{γ:Type}(t:Tag)(fr:Fr):(outs:List (Tag×Live))→(JT outs→M γ)→M γ
 | [],_=>z0h
 | [o],k=>bif o.1.is t then o.2.proj fr k else z0h
 | o::q::r,k=>bif o.1.is t then o.2.proj fr (fun x=>k (.inl x))else inj t fr (q::r) fun y=>k (.inr y)
def outK{β:Type}(fr:Fr)(k:Tag→Fr→M β):(outs:List (Tag×Live))→JT outs→M β
 | [],x=>nomatch x
 | [o],x=>k o.1 (o.2.un x fr)
 | o::q::r,x=>match x with
  | .inl y=>k o.1 (o.2.un y fr)
  | .inr y=>outK fr k (q::r) y
def zfm(outs:List (Tag×Live)):List Nat:=outs.flatMap fun o=>o.2.vs.filterMap fun | .p n _=>some n | _=>none
def z4u(l:Live):List Nat:=l.vs.filterMap fun | .p n _=>some n | _=>none
def z7p:MV→Option Nat
 | .ptr p=>p.map MA.blk
 | .sl p _ _=>p.map MA.blk
 | .map r=>r
 | _=>none
def zme:Option Nat→Option Nat→Bool
 | some a,some b => !(Nat.beq a b)
 | _,_=>true
def zsk:MV→MV→Bool
 | .bool _,_=>false
 | _,.bool _=>false
 | x,y=>zme (z7p x) (z7p y)
def z8c:Option FV→Option FV→Bool
 | some (.v x),some (.v y)=>zsk x y
 | some (.v _),some (.loc _ _)=>true
 | some (.loc _ _),some (.v _)=>true
 | some (.loc s _),some (.loc r _) => !(Nat.beq s r)
 | _,_=>false
def chk{β:Type}(fr:Fr)(m:M β):List (Opd×Opd)→M β
 | []=>m
 | (x,y)::r=>bif z8c (x.val fr) (y.val fr)then chk fr m r else z0h
def ev(C:List (Nat×Entry))(N:Nat):MC→Fr→{β:Type}→(Tag→Fr→M β)→M β
 | .skip,fr,_,k=>k .normal fr
 | .reg z4e,fr,_,k=>z3p C z4e fr (k .normal)
 | .seq a b,fr,_,k=>ev C N a fr fun t fr'=>match t with
  | .normal=>ev C N b fr' k
  | .ret=>k .ret fr'
  | .exit i=>k (.exit i) fr'
  | .goto i=>k (.goto i) fr'
 | .cond c a b,fr,_,k=>match c.mv fr with
  | some (.bool t)=>if t then ev C N a fr k else ev C N b fr k
  | _=>z0h
 | .block id a,fr,_,k=>ev C N a fr fun t fr'=>match t with
  | .exit i=>bif Nat.beq i id then k .normal fr' else k (.exit i) fr'
  | .normal=>k .normal fr'
  | .ret=>k .ret fr'
  | .goto i=>k (.goto i) fr'
 | .loop live a,fr,_,k=>live.proj (fr.lock (z4u live)) fun v=>z0e N (fun rec v=>ev C N a (live.un v ((fr.del (a.dsts++z4u live)).lock (z4u live))) fun t fr'=>match t with
  | .normal=>live.proj fr' rec
  | .ret=>k .ret fr'
  | .exit i=>k (.exit i) fr'
  | .goto i=>k (.goto i) fr') v
 | .goto l,fr,_,k=>k (.goto l) fr
 | .jump l live a b,fr,_,k=>ev C N a (fr.lock (z4u live)) fun t fr'=>match t with
  | .normal=>k .normal fr'
  | .ret=>k .ret fr'
  | .exit i=>k (.exit i) fr'
  | .goto i=>bif Nat.beq i l then live.proj fr' fun v=>z0e N (fun rec v=>ev C N b (live.un v ((fr.del ((a.dsts++b.dsts)++z4u live)).lock (z4u live))) fun t fr'=>match t with
   | .normal=>k .normal fr'
   | .ret=>k .ret fr'
   | .exit i=>k (.exit i) fr'
   | .goto i=>bif Nat.beq i l then live.proj fr' rec else z0h) v else z0h
 | .exit id,fr,_,k=>k (.exit id) fr
 | .ret,fr,_,k=>k .ret fr
 | .bad,_,_,_=>z0h
 | .regR w rs l ap,fr,_,k=>bd (z4y rs.length) fun b=>z3p C (zItems ⟨w,rs,b⟩ l) fr fun fr'=>chk fr' (k .normal fr') ap
 | .join outs a,fr,_,k=>bd (ev C N a (fr.lock (zfm outs)) fun t fr'=>inj t fr' outs ret) fun x=>outK (fr.del (a.dsts++zfm outs)) k outs x
end Go.Mini
