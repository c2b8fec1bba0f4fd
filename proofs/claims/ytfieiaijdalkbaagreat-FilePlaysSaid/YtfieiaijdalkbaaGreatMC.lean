/- From the kit's code to the small machine's: types are resolved, nothing else. -/
import GoSem.Machine.Frame
import Derived.Test.YtfieiaijdalkbaaGreatMB
import GoSem.Core.Machine
import GoSem.Op.Equal
namespace Go.Mini
section
variable(P:Program)
def cty(t:TypeId):Option CTy:=match P.underlying t with
 | some .bool=>some .bool
 | some (.int k)=>some (.int k)
 | some .string=>some .str
 | some (.pointer _)=>some .ptr
 | some (.slice e)=>some (.sl (P.cellsOf e))
 | some (.map _ _)=>some .map
 | some (.interface _)=>some .any
 | some (.func _ _ _)=>some .any
 | _=>none
def zse{α:Type}:Nat→List α→List α
 | 0,_=>[]
 | n+1,l=>l++zse n l
def zsf:Nat→TypeId→Option (List CTy)
 | 0,_=>none
 | d+1,t=>match P.underlying t with
  | some (.struct fs)=>fs.toList.foldr (fun f r=>match zsf d f.type,r with
   | some a,some b=>some (a++b)
   | _,_=>none) (some [])
  | some (.array n e)=>(zsf d e).map (zse n)
  | _=>(cty P t).map ([·])
def zmb:Nat→TypeId→Bool
 | 0,_=>true
 | d+1,t=>match P.underlying t with
  | some (.struct fs)=>fs.toList.any fun f=>zmb d f.type
  | some (.array _ _)=>true
  | _=>false
def depth:Nat:=12
def vty(t:TypeId):Option Ty:=match P.underlying t with
 | some (.struct _)=>if zmb P depth t then some (.agg (P.cellsOf t))else(match zsf P depth t with
  | some ts=>if ts.length=P.cellsOf t then some (.st ts)else none
  | none=>none)
 | some (.array _ _)=>some (.agg (P.cellsOf t))
 | _=>(cty P t).map .c
def z19o(t:TypeId):Option (FuncId×Nat):=match P.underlying t with
 | some (.func ps rs _)=>(match(P.funcs.toList.zipIdx.filter fun x=>Nat.blt 0 x.1.nfree&&(x.1.params==ps&&x.1.resultTypes==rs))with
  | [(fn,f)]=>some (f,fn.nfree)
  | _=>none)
 | _=>none
def lty(t:TypeId):Option Ty:=match vty P t,z19o P t with
 | some (.c .any),some (f,n)=>some (.fnc f (List.replicate n .ptr))
 | ty,_=>ty
def zhw:CTy→Value→Option MV
 | .bool,.bool b=>some (.bool b)
 | .int k,.int k' n=>if k=k' then some (.int k n)else none
 | .str,.string s=>some (.str s.data.toList)
 | .ptr,.pointer none=>some (.ptr none)
 | .sl e,.slice none 0 0=>some (.sl none 0 e)
 | .map,.map none=>some (.map none)
 | .any,.nilIface=>some .nilIface
 | .any,.nilFunc=>some .nilFn
 | _,_=>none
def zda:List CTy→List Value→Option (List MV)
 | [],[]=>some []
 | t::ts,v::vs=>match zhw t v,zda ts vs with
  | some x,some xs=>some (x::xs)
  | _,_=>none
 | _,_=>none
def zfh(t:TypeId)(v:Value):Option MV:=match v with
 | .agg cs=>match zsf P depth t with
  | some ts=>(zda ts cs.toList).map .agg
  | none=>none
 | v=>match cty P t with
  | some c=>zhw c v
  | none=>none
def opd(t:TypeId):Operand→Option Opd
 | .tmp n=>some (.t n)
 | .const v=>(zfh P t v).map .c
 | .global _=>none
 | .func f=>some (.fn f)
def z56(t:TypeId):Option (List MV):=match P.info? t with
 | some i=>match i.zero,zsf P depth t with
  | some z,some ts=>zda ts z.cells.toList
  | _,_=>none
 | none=>none
def z16k(t:TypeId)(z:List MV):Option MV:=match P.info? t with
 | some i=>(match i.zero with
  | some (.agg _)=>some (.agg z)
  | _=>match z with
   | [v]=>some v
   | _=>none)
 | none=>none
def zr6:CTy→Bool
 | .bool | .int _ | .str=>true
 | _=>false
def zxy(c:CTy):Nat→Nat→List (Nat×CTy)
 | _,0=>[]
 | off,n+1=>(off,c)::zxy c (off+1) n
def eqF:List Field→Option (List (Nat×CTy))
 | []=>some []
 | f::r=>match cty P f.type,eqF r with
  | some c, some l => bif zr6 c && !(f.name == "_") then some ((f.offset, c) :: l) else none
  | none,some l=>(match P.underlying f.type with
   | some (.array n e)=>(match cty P e with
    | some c => bif (zr6 c && Nat.beq (P.cellsOf e) 1) && (!(f.name == "_") && Nat.beq (P.cellsOf f.type) n) then some (zxy c f.offset n ++ l) else none
    | none=>none)
   | _=>none)
  | _,_=>none
def z9b(t:TypeId):Bool:=match P.underlying t with
 | some (.struct _) | some (.array _ _)=>true
 | _=>false
def opds:List TypeId→List Operand→Option (List Opd)
 | [],[]=>some []
 | t::ts,x::xs=>match opd P t x,opds ts xs with
  | some o,some os=>some (o::os)
  | _,_=>none
 | _,_=>none
def zsg(t:TypeId):Option Operand→Option (Option Opd)
 | none=>some none
 | some x=>(opd P t x).map some
def zfi(place:Nat→Option (Nat×TypeId)):List (Nat×Operand)→Option (List (Nat×Option Nat×Opd))
 | []=>some []
 | (i,x)::r=>match place i with
  | some (off,t)=>match opd P t x,zfi place r with
   | some o,some l=>bif z9b P t then some ((off,some (P.cellsOf t),o)::l)else(if P.cellsOf t=1 then some ((off,none,o)::l)else none)
   | _,_=>none
  | none=>none
def zsh(t:TypeId):Option PV:=match z56 P t with
 | none=>none
 | some z=>match vty P t with
  | some (.st _)=>some (.st z)
  | some (.c _)=>some (.st z)
  | some (.agg _)=>(match P.underlying t with
   | some (.array _ e)=>(match P.underlying e with
    | some (.int k)=>(zfn k z).map (.arr k)
    | _=>some (.raw z))
   | _=>some (.raw z))
  | _=>none
def isSome{α:Type}:Option α→Bool
 | some _=>true
 | none=>false
def z0s(priv:List Nat)(o:Oper):Option Ins:=
 match o.dst,o.op with
 | some d,.move x=>(opd P o.type x).map (.mv d)
 | some d,.assign x=>(opd P o.type x).map (.mv d)
 | some d,.unOp op t x=>(opd P t x).map (.un d op)
 | some d,.binOp op t x y u=>match opd P t x,opd P u y with
  | some a,some b=>(match P.underlying t,op with
   | some (.struct fs),.eql=>(match eqF P fs.toList with
    | some L=>bif P.stoodInHeld t || P.eqGuardType P.depth t then none else some (.eqSt d false L a b)
    | none=>none)
   | some (.struct fs),.neq=>(match eqF P fs.toList with
    | some L=>bif P.stoodInHeld t || P.eqGuardType P.depth t then none else some (.eqSt d true L a b)
    | none=>none)
   | some .string,.add=>some (.cat d a b)
   | some (.interface _),.eql=>(match b with
    | .c .nilIface=>some (.nilI d false a)
    | _=>none)
   | some (.interface _),.neq=>(match b with
    | .c .nilIface=>some (.nilI d true a)
    | _=>none)
   | some .bool,_=>some (.bin d op 1 a b)
   | some (.pointer e),_=>if P.cellsOf e=0 then none else some (.bin d op 2 a b)
   | some (.slice _),_=>some (.bin d op 3 a b)
   | some (.map _ _),_=>some (.bin d op 4 a b)
   | some _,_=>some (.bin d op 0 a b)
   | none,_=>none)
  | _,_=>none
 | some d,.convert s t x=>match P.underlying s,P.underlying t with
  | some (.int _),some (.int k)=>(opd P s x).map (.conv d k)
  | some .string,some .string=>(opd P s x).map (.same d)
  | some .string,some (.slice e)=>(match P.underlying e with
   | some (.int .u8)=>(opd P s x).map (.toBytes d)
   | _=>none)
  | some (.slice e),some .string=>(match P.underlying e with
   | some (.int .u8)=>(opd P s x).map (.toStr d)
   | _=>none)
  | some (.slice _),some (.slice e)=>(match P.underlying e with
   | some (.int .u8)=>if s=t then(opd P s x).map (.markB d)else none
   | _=>none)
  | _,_=>none
 | some d,.sliceToArrayPointer t x=>match P.underlying t,x with
  | some (.array n _),.tmp m=>some (.arrAt d n (.t m))
  | _,_=>none
 | some d,.extract x i=>match x with
  | .tmp n=>some (.ext d i (.t n))
  | _=>none
 | some d,.alloc e=>bif mem d priv then(zsh P e).map (.palloc d)else(z56 P e).map (.alloc d)
 | some d,.box e x=>match opd P e x with
  | some a=>bif mem d priv then(match vty P e with
    | some (.agg _)=>some (.pbox d 2 a)
    | some (.st _)=>some (.pbox d 1 a)
    | some (.c _)=>some (.pbox d 0 a)
    | _=>none)else some (.box d (z9b P e) a)
  | none=>none
 | some d,.build t parts=>match z56 P t,P.underlying t with
  | some z,some (.struct fs)=>if(fs.toList.all fun f=>isSome (P.underlying f.type))=true then(zfi P (fun i=>(fs[i]?).map fun f=>(f.offset,f.type)) parts.toList).map (.build d z)else none
  | some z,some (.array _ e)=>if isSome (P.underlying e)=true then(zfi P (fun i=>some (i * P.cellsOf e,e)) parts.toList).map (.build d z)else none
  | _,_=>none
 | some d,.buildSlice t len parts=>match P.underlying t with
  | some (.slice e)=>match z56 P e with
   | some z=>if isSome (P.underlying e)=true∧z.length=P.cellsOf e∧(len * P.cellsOf e≤16777216∧len≤16777216)then(zfi P (fun i=>some (i * P.cellsOf e,e)) parts.toList).map (.bslice d (P.cellsOf e) len (zse len z))else none
   | none=>none
  | _=>none
 | some d,.load t x=>match x with
  | .tmp n=>(match(bif mem n priv then vty P t else lty P t)with
   | some ty=>some (.load d ty (.t n))
   | none=>none)
  | _=>none
 | none,.store t a x=>match a,opd P t x with
  | .tmp n,some b=>bif z9b P t then some (.store (some (P.cellsOf t)) (.t n) b)else(if P.cellsOf t=1∧isSome (P.underlying t)=true then some (.store none (.t n) b)else none)
  | _,_=>none
 | some d,.nilCheck x=>match x with
  | .tmp n=>(match P.underlying o.type with
   | some (.func _ _ _)=>some (.nonNilF d (.t n))
   | _=>some (.nonNil d (.t n)))
  | .func f=>some (.nonNilF d (.fn f))
  | _=>none
 | some d,.fieldAddr s x f=>match P.underlying s,x with
  | some (.struct fs),.tmp n=>match fs[f]? with
   | some fd=>if P.cellsOf fd.type≠0∧isSome (P.underlying fd.type)=true then some (.fldA d fd.offset (.t n))else none
   | none=>none
  | _,_=>none
 | some d,.field s x f=>match P.underlying s,x with
  | some (.struct fs),.tmp n=>match fs[f]? with
   | some fd=>match vty P fd.type with
    | some ty=>bif zmb P depth s then some (.fldR d fd.offset ty (.t n))else(match ty with
     | .agg _=>none
     | ty=>some (.fldV d fd.offset ty (.t n)))
    | none=>none
   | none=>none
  | _,_=>none
 | some d,.indexAddr t x i=>match P.underlying t,x with
  | some (.array n e),.tmp s=>if isSome (P.underlying e)=true then(opd P P.rt.int i).map (.idxA d n (P.cellsOf e) (.t s))else none
  | some (.slice e),.tmp s=>if isSome (P.underlying e)=true then(opd P P.rt.int i).map (.idx d (P.cellsOf e) (.t s))else none
  | _,_=>none
 | some d,.index t x i=>match P.underlying t with
  | some (.array n e)=>(match vty P e,opd P t x,opd P P.rt.int i with
   | some (.c c),some a,some j=>if P.cellsOf e=1 then some (.idxV d n c a j)else none
   | some ty,some a,some j=>some (.idxVn d n (P.cellsOf e) ty a j)
   | _,_,_=>none)
  | some .string=>(match opd P t x,opd P P.rt.int i with
   | some a,some j=>some (.idxS d a j)
   | _,_=>none)
  | _=>none
 | some d,.slice t x lo hi none=>match zsg P P.rt.int lo,zsg P P.rt.int hi with
  | some a,some b=>(match P.underlying t with
   | some .string=>(opd P t x).map fun s =>.slcS d s a b
   | some (.slice e)=>if isSome (P.underlying e)=true then(opd P t x).map fun s =>.slc d (P.cellsOf e) s a b else none
   | some (.array n e)=>(match x with
    | .tmp s=>if isSome (P.underlying e)=true then some (.slcA d n (P.cellsOf e) (.t s) a b)else none
    | _=>none)
   | _=>none)
  | _,_=>none
 | some d,.makeSlice t l c=>match P.underlying t,opd P P.rt.int l,opd P P.rt.int c with
  | some (.slice e),some a,some b=>if P.bytesOf e=0 then none else(z56 P e).map fun z =>.mkSl d (P.cellsOf e) (P.bytesOf e) z a b
  | _,_,_=>none
 | some d,.makeMap _ none=>some (.mkMap d)
 | some d,.lookup t m k ok=>match P.underlying t,m with
  | some (.map kt e),.tmp n=>(match vty P e,z56 P e,opd P kt k,cty P kt with
   | some ty,some z,some key,some ktc=>(match z16k P e z with
    | some zv=>some (bif ok then .look2 d ktc ty zv (.t n) key else .look1 d ktc ty zv (.t n) key)
    | none=>none)
   | _,_,_,_=>none)
  | _,_=>none
 | none,.mapUpdate t m k x=>match P.underlying t,m with
  | some (.map kt e),.tmp n=>(match opd P kt k,opd P e x,cty P kt with
   | some key,some a,some ktc=>some (.mapPut ktc (.t n) key a)
   | _,_,_=>none)
  | _,_=>none
 | some d,.makeFunc (.func f) first caps=>if first.size=0 then(match opds P (caps.toList.map fun _=>0) caps.toList with
   | some l=>some (.mkFn d f l)
   | none=>none)else none
 | some d,.makeInterface t x=>match P.underlying t with
  | some (.interface _)=>none
  | some _=>(opd P t x).map (.mkIface d t)
  | none=>none
 | some d,.call c=>match c.callee with
  | .value (.func f)=>(opds P c.argTypes.toList c.args.toList).map (.call d f)
  | .value (.tmp n)=>(opds P c.argTypes.toList c.args.toList).map (.callv d (.t n))
  | .builtin .len=>(match c.argTypes.toList,c.args.toList with
   | [t],[x]=>(match P.underlying t,opd P t x with
    | some .string,some a=>some (.lenS d a)
    | some (.slice _),some a=>some (.len d a)
    | some (.array n _),some _=>some (.mv d (.c (.int .i64 n)))
    | some (.map _ _),some a=>some (.mapLen d a)
    | _,_=>none)
   | _,_=>none)
  | .builtin .min=>(match c.argTypes.toList,c.args.toList with
   | [t,u],[x,y]=>(match opd P t x,opd P u y with
    | some a,some b=>some (.min d a b)
    | _,_=>none)
   | _,_=>none)
  | .builtin .max=>(match c.argTypes.toList,c.args.toList with
   | [t,u],[x,y]=>(match opd P t x,opd P u y with
    | some a,some b=>some (.max d a b)
    | _,_=>none)
   | _,_=>none)
  | .builtin .append=>(match c.argTypes.toList,c.args.toList with
   | [t,u],[x,y]=>(match P.underlying t,P.underlying u,opd P t x,opd P u y with
    | some (.slice e),some (.slice _),some a,some b=>(match z56 P e with
     | some z=>if z.length=P.cellsOf e∧0<P.bytesOf e∧0<P.cellsOf e∧isSome (P.underlying e)=true then some (.app d (P.cellsOf e) (P.bytesOf e) a b)else none
     | none=>none)
    | some (.slice e),some .string,some a,some b=>(match z56 P e,P.underlying e with
     | some z,some (.int _)=>if z.length=P.cellsOf e∧P.bytesOf e=1∧P.cellsOf e=1 then some (.appS d a b)else none
     | _,_=>none)
    | _,_,_,_=>none)
   | _,_=>none)
  | .builtin .copy=>(match c.argTypes.toList,c.args.toList with
   | [t,u],[x,y]=>(match P.underlying t,P.underlying u,opd P t x,opd P u y with
    | some (.slice e),some (.slice _),some a,some b=>if 0<P.cellsOf e∧isSome (P.underlying e)=true then some (.copy d (P.cellsOf e) a b)else none
    | some (.slice e),some .string,some a,some b=>if P.cellsOf e=1∧isSome (P.underlying e)=true then some (.copyS d a b)else none
    | _,_,_,_=>none)
   | _,_=>none)
  | _=>none
 | none,.call c=>match c.callee with
  | .builtin .clear=>(match c.argTypes.toList,c.args.toList with
   | [t],[x]=>(match P.underlying t,opd P t x with
    | some (.map _ _),some a=>some (.mapClr a)
    | some (.slice E),some a=>(match z56 P E with
     | some z=>if z.length=P.cellsOf E then some (.slClr (P.cellsOf E) z a)else none
     | none=>none)
    | _,_=>none)
   | _,_=>none)
  | .builtin .delete=>(match c.argTypes.toList,c.args.toList with
   | [t,_],[x,y]=>(match P.underlying t,opd P t x with
    | some (.map kt _),some a=>(match opd P kt y,cty P kt with
     | some key,some ktc=>some (.mapDel ktc a key)
     | _,_=>none)
    | _,_=>none)
   | _,_=>none)
  | _=>none
 | _,_=>none
def zhx(o:Oper)(w:Bool)(gs:Nat):Option (Nat×Nat):=match o.op,o.dst with
 | .pick (.tmp c) (.tmp n) (.const (.bool false)),some d=>bif Nat.beq c gs&&w then some (n,d)else none
 | .pick (.tmp c) (.const (.bool true)) (.tmp n),some d=>bif Nat.beq c gs && !w then some (n,d)else none
 | _,_=>none
def z8v(a b:Option (Nat×Bool)):Bool:=match a,b with
 | none,none=>true
 | some (i,x),some (j,y)=>Nat.beq i j&&(x==y)
 | _,_=>false
def insOk(n:Nat)(i:Ins):Bool:=i.dst.all (Nat.blt · n)
def zjj:Ins→Bool
 | .mv _ _ | .mvz _ _ | .conv _ _ _ | .ext _ _ _ | .fldV _ _ (.c _) _ | .len _ _ | .lenS _ _=>true
 | .un _ .not _=>true
 | .bin _ op tk _ y=>(!(Nat.beq tk 2) || (match y with | .c _=>true | _=>false))&&match op,y with
  | .add,_ | .sub,_ | .mul,_ | .eql,_ | .neq,_ | .lss,_ | .leq,_ | .gtr,_ | .geq,_=>true
  | .rem,.c (.int _ n)=>decide (n≠0)
  | .quo,.c (.int _ n)=>decide (n≠0)
  | _,_=>false
 | _=>false
mutual
def z6q(ps:List Nat):Item→Bool
 | .i (.load _ (.c _) (.t n))=>mem n ps
 | .i (.loadz _ (.c _) (.t n))=>mem n ps
 | .i (.fldA _ _ (.t n))=>mem n ps
 | .i x=>zjj x
 | .sc p _ _ _ _ _=>p
def z5t(ps:List Nat):List Item→Bool
 | []=>true
 | x::r=>z6q ps x&&z5t ps r
end
def zdb(o:Oper)(x:Ins):Bool:=match o.dst with
 | none=>true
 | some d=>mem d x.dst
def z4e(ntmps:Nat)(priv pu:List Nat)(ops:Array Oper):Nat→List Nat→Option (Nat×Bool)→List Nat→Option (List Item×List Nat)
 | 0,_,_,_=>none
 | _+1,[],_,_=>some ([],[])
 | f+1,i::r,g,lev=>match ops[i]? with
  | none=>none
  | some o=>
   bif z8v o.guard g then
    (match z0s P priv o with
    | some x=>bif insOk ntmps x&&zdb o x then(match z4e ntmps priv pu ops f r g (i::lev)with
     | some (l,q)=>some (.i x::l,q)
     | none=>none)else none
    | none=>none)
   else match o.guard with
    | none=>some ([],i::r)
    | some (j,w)=>bif mem j lev then
      (match ops[j]? with
      | none=>none
      | some oj=>match oj.dst with
       | none=>none
       | some gs=>match z4e ntmps priv pu ops f (i::r) (some (j,w)) []with
        | some (body,kk::q)=>(match ops[kk]? with
         | none=>none
         | some ok=>match zhx ok w gs with
          | none=>none
          | some (n,d)=>
           bif z8v ok.guard g&&Nat.blt d ntmps && !(mem gs (z0m body))then
            (match z4e ntmps priv pu ops f q g (kk::lev)with
            | some (l,q')=>some (.sc (z5t pu body) w gs body (.t n) d::l,q')
            | none=>none)
           else none)
        | _=>none)
      else some ([],i::r)
inductive Hint where
 | no | join (outs:List (Tag×Live)) | loop (l:Live) | draw (w:Bool) (rs:List Nat) | cut (id:Nat) | jump (l:Nat) (live:Live)
def zr7(o:Oper)(acc:List Nat):Nat:=o.after.toList.foldr (fun e s=>bif Region.binds .any e then s ||| (1 <<< e.on) ||| acc.getD e.on 0 else s) 0
def zsi:List Oper→List Nat→List Nat
 | [],acc=>acc
 | o::r,acc=>zsi r (acc++[zr7 o acc])
structure DD where
 c:Nat
 us:List Nat
 d:Option Nat
 pl:Option Opd
 lv:Bool
def zbb:List Opd→List Nat
 | []=>[]
 | .t n::r=>n::zbb r
 | _::r=>zbb r
def z4a:List Opd→Bool
 | []=>true
 | .t _::r=>z4a r
 | .fn _::r=>z4a r
 | .c (.ptr (some _))::_=>false
 | .c (.sl (some _) _ _)::_=>false
 | .c (.map (some _))::_=>false
 | .c _::r=>z4a r
 | .gl _::_=>false
def z14(w:Z)(priv:List Nat)(o:Oper):DD:=match o.op with
 | .pick (.tmp c) (.tmp n) (.const (.bool false))=>⟨0,[c,n],o.dst,none,false⟩
 | .pick (.tmp c) (.const (.bool true)) (.tmp n)=>⟨0,[c,n],o.dst,none,false⟩
 | _=>match z0s P priv o with
  | some x=>bif z4a (z0w w x).opds then⟨(z0w w x).cls,zbb (z0w w x).opds,o.dst,(z0w w x).pl,(z0w w x).lv⟩else⟨9,[],none,none,false⟩
  | none=>⟨9,[],none,none,false⟩
def z9c(d:Option Nat)(l:List Nat):Bool:=match d with
 | some d=>mem d l
 | none=>false
def zr8:Option Nat→Option Nat→Bool
 | some a,some b=>Nat.beq a b
 | _,_=>false
def tt:Opd :=.c (.bool true)
def zjk(a b:DD):Option (Opd×Opd):=match a.pl,b.pl with
 | some x,some y=>some (x,y)
 | some x,none=>some (x,tt)
 | none,some y=>some (tt,y)
 | none,none=>none
def zc1(a b:DD):Bool:=(Nat.beq a.c 1&&(Nat.beq b.c 4 && !(a.lv && !(isSome b.pl)))) || (Nat.beq a.c 4&&(Nat.beq b.c 1 && !(b.lv && !(isSome a.pl))))
def zek(a b:DD):Bool:=z9c a.d b.us || (z9c b.d a.us || ((Nat.ble 2 a.c&&Nat.ble 3 b.c) || (zc1 a b && !(isSome (zjk a b)))))
def zmc{α:Type}:List α→Bool
 | []=>true
 | _=>false
def zgg(a:DD)(i:Nat):List DD→List Nat→List (Opd×Opd)
 | b::r,m::ms=>bif zc1 a b && !(m.testBit i)then(match zjk a b with
  | some p=>p::zgg a i r ms
  | none=>zgg a i r ms)else zgg a i r ms
 | _,_=>[]
def zjl:Nat→List DD→List Nat→List (Opd×Opd)
 | i,a::r,_::ms=>zgg a i r ms++zjl (i+1) r ms
 | _,_,_=>[]
def zhy(a:DD)(i:Nat):List DD→List Nat→Bool
 | [],_=>true
 | _::_,[]=>false
 | b::r,m::ms => !(zr8 a.d b.d)&&((!(zek a b) || m.testBit i)&&zhy a i r ms)
def zfj:Nat→List DD→List Nat→Bool
 | _,[],_=>true
 | _,_::_,[]=>false
 | i,a::r,_::ms=>zhy a i r ms&&zfj (i+1) r ms
def zdl:Nat→List Oper→List DD→List Nat→Bool
 | _,[],_,_=>true
 | i,o::r,a::ds,m::ms=>Nat.blt a.c 5&&(!(z9c a.d a.us)&&((o.after.toList.all fun e => !(Region.binds .any e) || Nat.blt e.on i)&&((match o.guard with
  | none=>true
  | some (j,_)=>Nat.blt j i&&m.testBit j)&&zdl (i+1) r ds ms)))
 | _,_,_,_=>false
def zdw:MV→Bool
 | .bool _ | .int _ _ | .str _ | .ptr none | .sl none 0 _ | .map none | .nilFn | .nilIface=>true
 | _=>false
def zr9:Opd→Bool
 | .t _=>true
 | .c (.agg cs)=>cs.all zdw
 | .c v=>zdw v
 | _=>false
def zfk:Ins→Bool
 | .allocA _ _ z=>z.all zdw
 | .boxA _ _ _ x=>zr9 x
 | .bsliceA _ _ _ _ z ps=>z.all zdw&&ps.all fun p=>zr9 p.2.2
 | .mkSlA _ _ _ _ z _ _=>z.all zdw
 | _=>true
def zhz:List DD→Bool
 | []=>true
 | a::r=>(r.all fun b => !(z9c b.d a.us))&&zhz r
def zra(w:Z)(priv:List Nat)(ops:Array Oper):Bool:=ops.toList.all fun o=>match z0s P priv o with
 | some x=>zfk (z0w w x)
 | none=>true
def zck(w:Z)(priv:List Nat)(ops:Array Oper)(l:List Item):Bool:=P.follows .mixedOrders&&((ops.toList.all fun o=>match o.dst with
  | some d=>mem d (z0m l)
  | none=>true) &&
 let ds:=ops.toList.map (z14 P w priv)
 let ms:=zsi ops.toList []
 zdl 0 ops.toList ds ms&&(zfj 0 ds ms&&(zra P w priv ops&&(zmc (zjl 0 ds ms) || zhz ds))))
def z69(w:Z)(priv:List Nat)(ops:Array Oper):List (Opd×Opd):=zjl 0 (ops.toList.map (z14 P w priv)) (zsi ops.toList [])
def zrb:List Hint→Bool
 | .cut _::_=>true
 | _=>false
def zwk(n:Nat):List Hint→Bool
 | .cut m::_=>Nat.beq m n
 | _=>false
def zi0(c:Code)(l:Nat):Bool:=(findLabel c l).isSome
def comp(ntmps:Nat)(priv pu:List Nat):Code→Option Nat→List Hint→Option (MC×List Hint)
 | .skip,none,hs=>some (.skip,hs)
 | .scope _,none,.cut _::hs=>some (.bad,hs)
 | .rangeFunc _ _ _ _,none,.cut _::hs=>some (.bad,hs)
 | .region _ _ true,none,.cut _::hs=>some (.bad,hs)
 | .region _ ops true,none,.draw w rs::hs=>match z4e P ntmps priv pu ops (2 * ops.size+2) (List.range ops.size) none []with
  | some (l,[])=>bif zck P ⟨w,rs,0⟩ priv ops l then some (bif zmc rs&&zmc (z69 P ⟨w,rs,0⟩ priv ops)then .reg (zItems ⟨w,rs,0⟩ l)else .regR w rs l (z69 P ⟨w,rs,0⟩ priv ops),hs)else none
  | _=>none
 | .region id ops false,none,hs=>bif zwk id hs then some (.bad,hs.tail)else match z4e P ntmps priv pu ops (2 * ops.size+2) (List.range ops.size) none []with
  | some (l,[])=>some (.reg l,hs)
  | _=>none
 | .seq a b,none,hs=>match comp ntmps priv pu a none hs with
  | some (x,hs1)=>match comp ntmps priv pu b none hs1 with
   | some (y,hs2)=>some (.seq x y,hs2)
   | none=>none
  | none=>none
 | .cond c a b,none,h::hs=>bif zrb (h::hs)then some (.bad,hs)else match opd P P.rt.bool c,comp ntmps priv pu a none hs with
  | some o,some (x,hs1)=>(match comp ntmps priv pu b none hs1 with
   | some (y,hs2)=>(match h with
    | .no=>some (.cond o x y,hs2)
    | .join outs=>some (.join outs (.cond o x y),hs2)
    | _=>none)
   | none=>none)
  | _,_=>none
 | .block id a,none,h::hs=>bif zrb (h::hs)then some (.bad,hs)else match comp ntmps priv pu a none hs with
  | some (x,hs1)=>(match h with
   | .no=>some (.block id x,hs1)
   | .join outs=>some (.join outs (.block id x),hs1)
   | _=>none)
  | none=>none
 | .loop _,none,.cut _::hs=>some (.bad,hs)
 | .loop a,none,.loop l::hs=>match comp ntmps priv pu a none hs with
  | some (x,hs1)=>some (.loop l x,hs1)
  | none=>none
 | .exit id,none,hs=>some (.exit id,hs)
 | .ret,none,hs=>some (.ret,hs)
 | .label _,none,hs=>some (.skip,hs)
 | .goto l,none,hs=>some (.goto l,hs)
 | .scope a,none,.jump l live::hs=>match comp ntmps priv pu a none hs with
  | some (x,hs1)=>(match comp ntmps priv pu a (some l) hs1 with
   | some (y,hs2)=>some (.jump l live x y,hs2)
   | none=>none)
  | none=>none
 | .label n,some l,hs=>bif Nat.beq n l then some (.skip,hs)else none
 | .seq a b,some l,hs=>bif zi0 a l then(match comp ntmps priv pu a (some l) hs with
  | some (x,hs1)=>(match comp ntmps priv pu b none hs1 with
   | some (y,hs2)=>some (.seq x y,hs2)
   | none=>none)
  | none=>none)else comp ntmps priv pu b (some l) hs
 | _,_,_=>none
end
inductive RV where
 | s (n:Nat) (t:Ty) | m (n:Nat) (t:Ty)
def RV.ty:RV→Ty
 | .s _ t=>t | .m _ t=>t
def HR:List RV→Type
 | []=>Unit
 | [r]=>r.ty.den
 | r::q::l=>r.ty.den×HR (q::l)
def HR.encs:(rs:List RV)→HR rs→List MV
 | [],_=>[]
 | [r],x=>[r.ty.enc x]
 | r::q::l,x=>r.ty.enc x.1::HR.encs (q::l) x.2
def HR.enc(rs:List RV)(x:HR rs):MV:=match HR.encs rs x with
 | [v]=>v
 | vs =>.tup vs
def zam(P:Program):List RV→List ResultVar→Bool
 | [],[]=>true
 | .s n _::l,.tmp t::r=>Nat.beq n t&&zam P l r
 | .m n ty::l,.cell a t::r=>Nat.beq n a&&decide (vty P t=some ty)&&zam P l r
 | _,_=>false
def zrc{β:Type}(fr:Fr)(n:Nat)(t:Ty)(k:t.den→M β):M β:=match z0g fr.v n with
 | some (.v (.ptr p))=>bd (ld t p) k
 | some (.loc s o)=>z19 (z0g fr.p s) fun pv=>z6l pv.1 t o fun v=>z19 (t.dec v) k
 | _=>z0h
def zgh{β:Type}(fr:Fr):(rs:List RV)→(HR rs→M β)→M β
 | [],k=>k ()
 | [.s n t],k=>match z0g fr.v n with
  | some (.v v)=>(match t.dec v with
   | some x=>k x
   | none=>z0h)
  | _=>z0h
 | [.m n t],k=>zrc fr n t k
 | .s n t::q::l,k=>match z0g fr.v n with
  | some (.v v)=>(match t.dec v with
   | some x=>zgh fr (q::l) fun y=>k (x,y)
   | none=>z0h)
  | _=>z0h
 | .m n t::q::l,k=>zrc fr n t fun x=>zgh fr (q::l) fun y=>k (x,y)
def z19p(rs:List RV)(t:Tag)(fr:Fr):M (HR rs):=match t with
 | .normal=>zgh fr rs ret
 | .ret=>zgh fr rs ret
 | .exit _=>z0h
 | .goto _=>z0h
def zgi:Nat→(ts:List Ty)→HT ts→List (Nat×FV)
 | _,[],_=>[]
 | n,[t],x=>[(n,.v (t.enc x))]
 | n,t::u::r,x=>(n,.v (t.enc x.1))::zgi (n+1) (u::r) x.2
def body(C:List (Nat×Entry))(N:Nat)(mc:MC)(ps:List Ty)(rs:List RV)(a:HT ps):M (HR rs):=ev C N mc ⟨zgi 0 ps a,[]⟩ (z19p rs)
def z5o(ps:List Ty)(rs:List RV)(f:HT ps→M (HR rs)):Entry:={A:=HT ps,dec:=HT.dec ps,R:=HR rs,enc:=HR.enc rs,f:=f}
end Go.Mini
