/- A small deterministic machine beside the kit's: its values, its heap, what can be done in it. Definitions, and the heap's laws. -/
import GoSem.Core.Code
import GoSem.Core.View
import GoSem.Op.String
namespace Go.Mini
structure MA where
 blk:Nat
 off:Nat
 deriving DecidableEq
inductive MV where
 | bool (b:Bool)
 | int (k:IntKind) (n:Int)
 | str (s:List UInt8)
 | ptr (p:Option MA)
 | sl (p:Option MA) (len esz:Nat)
 | map (r:Option Nat)
 | fn (f:FuncId) (caps:List MV)
 | nilFn
 | iface (t:TypeId) (v:MV)
 | nilIface
 | agg (cs:List MV)
 | tup (vs:List MV)
instance:Inhabited MV:=⟨.bool false⟩
inductive Blk where
 | cells (cs:List MV) (ro:Bool)
 | map (es:List (MV×MV))
 | dead
inductive Tr where
 | leaf
 | node (l:Tr) (v:Blk) (r:Tr)
def Tr.get:Tr→Nat→Blk
 | .leaf,_ =>.dead
 | .node l v r,n=>if n=0 then v else if n%2=1 then l.get (n / 2)else r.get (n / 2 - 1)
def Tr.put:Nat→Tr→Nat→Blk→Tr
 | 0,t,_,_=>t
 | f+1,.leaf,n,x=>if n=0 then .node .leaf x .leaf else if n%2=1 then .node (Tr.put f .leaf (n / 2) x) .dead .leaf else .node .leaf .dead (Tr.put f .leaf (n / 2 - 1) x)
 | f+1,.node l v r,n,x=>if n=0 then .node l x r else if n%2=1 then .node (l.put f (n / 2) x) v r else .node l v (r.put f (n / 2 - 1) x)
theorem Tr.get_put(f:Nat):∀(t:Tr)(n m:Nat)(x:Blk),n<f→(t.put f n x).get m=if m=n then x else t.get m:=by
 induction f with
 | zero=>intro t n m x h;omega
 | succ f ih=>
  intro t n m x h;cases t with
  | leaf=>
   simp only[Tr.put];by_cases hn:n=0
   ·subst hn;by_cases hm:m=0
    ·simp[hm,Tr.get]
    ·simp only[if_true,Tr.get,hm,if_false];split<;>rfl
   ·rw[if_neg hn];by_cases ho:n%2=1
    ·rw[if_pos ho];simp only[Tr.get];by_cases hm:m=0
     ·rw[if_pos hm,if_neg (by omega)]
     ·rw[if_neg hm];by_cases hmo:m%2=1
      ·rw[if_pos hmo,ih _ _ _ _ (by omega)];by_cases e:m=n
       ·rw[if_pos e,if_pos (by omega)]
       ·rw[if_neg e,if_neg (by omega)];rfl
      ·rw[if_neg hmo,if_neg (by omega)]
    ·rw[if_neg ho];simp only[Tr.get];by_cases hm:m=0
     ·rw[if_pos hm,if_neg (by omega)]
     ·rw[if_neg hm];by_cases hmo:m%2=1
      ·rw[if_pos hmo,if_neg (by omega)]
      ·rw[if_neg hmo,ih _ _ _ _ (by omega)];by_cases e:m=n
       ·rw[if_pos e,if_pos (by omega)]
       ·rw[if_neg e,if_neg (by omega)];rfl
  | node l v r=>
   simp only[Tr.put];by_cases hn:n=0
   ·subst hn;by_cases hm:m=0
    ·simp[hm,Tr.get]
    ·simp[Tr.get,hm]
   ·rw[if_neg hn];by_cases ho:n%2=1
    ·rw[if_pos ho];simp only[Tr.get];by_cases hm:m=0
     ·rw[if_pos hm,if_pos hm,if_neg (by omega)]
     ·rw[if_neg hm,if_neg hm];by_cases hmo:m%2=1
      ·rw[if_pos hmo,if_pos hmo,ih _ _ _ _ (by omega)];by_cases e:m=n
       ·rw[if_pos e,if_pos (by omega)]
       ·rw[if_neg e,if_neg (by omega)]
      ·rw[if_neg hmo,if_neg hmo,if_neg (by omega)]
    ·rw[if_neg ho];simp only[Tr.get];by_cases hm:m=0
     ·rw[if_pos hm,if_pos hm,if_neg (by omega)]
     ·rw[if_neg hm,if_neg hm];by_cases hmo:m%2=1
      ·rw[if_pos hmo,if_pos hmo,if_neg (by omega)]
      ·rw[if_neg hmo,if_neg hmo,ih _ _ _ _ (by omega)];by_cases e:m=n
       ·rw[if_pos e,if_pos (by omega)]
       ·rw[if_neg e,if_neg (by omega)]
structure Hp where
 size:Nat
 t:Tr
def Hp.get(h:Hp)(b:Nat):Blk:=h.t.get b
def Hp.set(h:Hp)(b:Nat)(x:Blk):Hp:=⟨h.size,h.t.put (b+1) b x⟩
def Hp.push(h:Hp)(x:Blk):Hp:=⟨h.size+1,h.t.put (h.size+1) h.size x⟩
def Hp.empty:Hp:=⟨0,.leaf⟩
theorem Hp.get_set(h:Hp)(b c:Nat)(x:Blk):(h.set b x).get c=if c=b then x else h.get c:=Tr.get_put _ _ _ _ _ (by omega)
theorem Hp.get_push(h:Hp)(c:Nat)(x:Blk):(h.push x).get c=if c=h.size then x else h.get c:=Tr.get_put _ _ _ _ _ (by omega)
@[simp] theorem Hp.size_set (h:Hp) (b:Nat) (x:Blk):(h.set b x).size=h.size:=rfl
@[simp] theorem Hp.size_push (h:Hp) (x:Blk):(h.push x).size=h.size+1:=rfl
abbrev M(α:Type):Type:=Hp→Option (α×Hp)
def ret{α:Type}(a:α):M α:=fun h=>some (a,h)
def z0h{α:Type}:M α:=fun _=>none
def bd{α β:Type}(m:M α)(f:α→M β):M β:=fun h=>match m h with
 | none=>none
 | some (a,h')=>f a h'
structure Sl where
 p:Option MA
 len:Nat
inductive CTy where
 | bool | int (k:IntKind) | str | ptr | sl (esz:Nat) | map | any
 deriving DecidableEq
def CTy.den:CTy→Type
 | .bool=>Bool | .int _=>Int | .str=>List UInt8 | .ptr=>Option MA | .sl _=>Sl | .map=>Option Nat | .any=>MV
def CTy.enc:(t:CTy)→t.den→MV
 | .bool,b =>.bool b
 | .int k,n =>.int k n
 | .str,s =>.str s
 | .ptr,p =>.ptr p
 | .sl e,s =>.sl s.p s.len e
 | .map,r =>.map r
 | .any,v=>v
def CTy.dec:(t:CTy)→MV→Option t.den
 | .bool,.bool b=>some b
 | .int k,.int k' n=>if k=k' then some n else none
 | .str,.str s=>some s
 | .ptr,.ptr p=>some p
 | .sl e,.sl p l e'=>if e=e' then some ⟨p,l⟩else none
 | .map,.map r=>some r
 | .any,v=>some v
 | _,_=>none
def HC:List CTy→Type
 | []=>Unit
 | [t]=>t.den
 | t::u::r=>t.den×HC (u::r)
def HC.enc:(ts:List CTy)→HC ts→List MV
 | [],_=>[]
 | [t],x=>[t.enc x]
 | t::u::r,x=>t.enc x.1::HC.enc (u::r) x.2
def HC.dec:(ts:List CTy)→List MV→Option (HC ts)
 | [],vs=>match vs with
  | []=>some ()
  | _=>none
 | [t],vs=>match vs with
  | [v]=>t.dec v
  | _=>none
 | t::u::r,vs=>match vs with
  | []=>none
  | v::vs=>match t.dec v with
   | none=>none
   | some x=>match HC.dec (u::r) vs with
    | some y=>some (x,y)
    | none=>none
inductive Ty where
 | c (t:CTy) | st (ts:List CTy) | agg (n:Nat) | arr (k:IntKind) | fnc (f:FuncId) (caps:List CTy)
 deriving DecidableEq
def Ty.den:Ty→Type
 | .c t=>t.den | .st ts=>HC ts | .agg _=>List MV | .arr _=>List Int | .fnc _ caps=>HC caps
def zfn(k:IntKind):List MV→Option (List Int)
 | []=>some []
 | .int k' n::r=>if k=k' then(match zfn k r with
  | some l=>some (n::l)
  | none=>none)else none
 | _=>none
def Ty.enc:(t:Ty)→t.den→MV
 | .c t,x=>t.enc x
 | .st ts,x =>.agg (HC.enc ts x)
 | .agg _,cs =>.agg cs
 | .arr k,xs =>.agg (xs.map (.int k))
 | .fnc f caps,x =>.fn f (HC.enc caps x)
def Ty.dec:(t:Ty)→MV→Option t.den
 | .c t,v=>t.dec v
 | .st ts,v=>match v with
  | .agg cs=>HC.dec ts cs
  | _=>none
 | .agg _,v=>match v with
  | .agg cs=>some cs
  | _=>none
 | .arr k,v=>match v with
  | .agg cs=>zfn k cs
  | _=>none
 | .fnc f caps,v=>match v with
  | .fn g cs=>if g=f then HC.dec caps cs else none
  | _=>none
def HT:List Ty→Type
 | []=>Unit
 | [t]=>t.den
 | t::u::r=>t.den×HT (u::r)
def HT.enc:(ts:List Ty)→HT ts→List MV
 | [],_=>[]
 | [t],x=>[t.enc x]
 | t::u::r,x=>t.enc x.1::HT.enc (u::r) x.2
def HT.dec:(ts:List Ty)→List MV→Option (HT ts)
 | [],vs=>match vs with
  | []=>some ()
  | _=>none
 | [t],vs=>match vs with
  | [v]=>t.dec v
  | _=>none
 | t::u::r,vs=>match vs with
  | []=>none
  | v::vs=>match t.dec v with
   | none=>none
   | some x=>match HT.dec (u::r) vs with
    | some y=>some (x,y)
    | none=>none
def z0p{α:Type}(o:Option α):M α:=fun h=>match o with
 | some a=>some (a,h)
 | none=>none
def ldc(p:Option MA):M MV:=fun h=>match p with
 | none=>none
 | some a=>match h.get a.blk with
  | .cells cs _=>match cs[a.off]? with
   | some v=>some (v,h)
   | none=>none
  | _=>none
def ldn(n:Nat)(p:Option MA):M (List MV):=fun h=>match p with
 | none=>none
 | some a=>match h.get a.blk with
  | .cells cs _=>if a.off+n≤cs.length then some ((cs.drop a.off).take n,h)else none
  | _=>none
def ldI(k:IntKind)(p:Option MA):M Int:=bd (ldc p) fun v=>z0p (CTy.dec (.int k) v)
def ldB(p:Option MA):M Bool:=bd (ldc p) fun v=>z0p (CTy.dec .bool v)
def ldS(p:Option MA):M (List UInt8):=bd (ldc p) fun v=>z0p (CTy.dec .str v)
def ldP(p:Option MA):M (Option MA):=bd (ldc p) fun v=>z0p (CTy.dec .ptr v)
def ldL(e:Nat)(p:Option MA):M Sl:=bd (ldc p) fun v=>z0p (CTy.dec (.sl e) v)
def ldM(p:Option MA):M (Option Nat):=bd (ldc p) fun v=>z0p (CTy.dec .map v)
def z4f(ts:List CTy)(p:Option MA):M (HC ts):=bd (ldn ts.length p) fun cs=>z0p (HC.dec ts cs)
def ldC:(t:CTy)→Option MA→M t.den
 | .bool,p=>ldB p
 | .int k,p=>ldI k p
 | .str,p=>ldS p
 | .ptr,p=>ldP p
 | .sl e,p=>ldL e p
 | .map,p=>ldM p
 | .any,p=>ldc p
def ld:(t:Ty)→Option MA→M t.den
 | .c t,p=>ldC t p
 | .st ts,p=>z4f ts p
 | .agg n,p=>ldn n p
 | .arr _,_=>z0h
 | .fnc f caps,p=>bd (ldC .any p) fun v=>z0p (Ty.dec (.fnc f caps) v)
def z11(cs:List MV)(off:Nat)(vs:List MV):List MV:=cs.take off++vs++cs.drop (off+vs.length)
def z10:MV→Bool
 | .agg _=>false
 | .tup _=>false
 | _=>true
def stc(p:Option MA)(v:MV):M Unit:=fun h=>match p with
 | none=>none
 | some a=>match h.get a.blk with
  | .cells cs false=>if a.off<cs.length∧z10 v=true then some ((),h.set a.blk (.cells (cs.set a.off v) false))else none
  | _=>none
def stn(n:Nat)(p:Option MA)(vs:List MV):M Unit:=fun h=>match p with
 | none=>none
 | some a=>match h.get a.blk with
  | .cells cs false=>if a.off+vs.length≤cs.length∧vs.length=n∧vs.all z10=true then some ((),h.set a.blk (.cells (z11 cs a.off vs) false))else none
  | _=>none
def alloc(cs:List MV):M (Option MA):=fun h=>some (some ⟨h.size,0⟩,h.push (.cells cs false))
def z8d(v:MV):M (Option MA):=fun h=>if z10 v=true then some (some ⟨h.size,0⟩,h.push (.cells [v] false))else none
def mkMap:M (Option Nat):=fun h=>some (some h.size,h.push (.map []))
def MA.add(a:MA)(n:Nat):MA:=⟨a.blk,a.off+n⟩
def fld(p:Option MA)(off:Nat):M (Option MA):=match p with
 | some a=>ret (some (a.add off))
 | none=>z0h
def nonNil(p:Option MA):M (Option MA):=match p with
 | some a=>ret (some a)
 | none=>z0h
def idx(e:Nat)(s:Sl)(i:Int):M (Option MA):=match s.p with
 | some a=>if 0≤i∧i<s.len then ret (some (a.add (i.toNat * e)))else z0h
 | none=>z0h
def idxA(n e:Nat)(p:Option MA)(i:Int):M (Option MA):=match p with
 | some a=>if 0≤i∧i<n then ret (some (a.add (i.toNat * e)))else z0h
 | none=>z0h
def idxV(n:Nat)(cs:List MV)(i:Int):M MV:=if 0≤i∧i<n then z0p cs[i.toNat]? else z0h
def idxVn(n e:Nat)(cs:List MV)(i:Int):M (List MV):=
 if 0≤i∧i<n then(if i.toNat * e+e≤cs.length then ret ((cs.drop (i.toNat * e)).take e)else z0h)else z0h
def idxS(s:List UInt8)(i:Int):M Int:=if 0≤i then bd (z0p s[i.toNat]?) fun b=>ret (b.toNat:Int)else z0h
def slc(e:Nat)(s:Sl)(lo hi:Int):M Sl:=
 if 0≤lo∧lo≤hi∧hi≤s.len then ret ⟨s.p.map (·.add (lo.toNat * e)),(hi - lo).toNat⟩else z0h
def slcS(s:List UInt8)(lo hi:Int):M (List UInt8):=
 if 0≤lo∧lo≤hi∧hi≤s.length then ret ((s.drop lo.toNat).take (hi - lo).toNat)else z0h
def most:Nat:=70368744177664
def slcA(n e:Nat)(p:Option MA)(lo hi:Int):M Sl:=fun h=>match p with
 | some a=>match h.get a.blk with
  | .cells cs _=>if 0≤lo∧lo≤hi∧hi≤n∧a.off+n * e≤cs.length∧n≤most then some (⟨some (a.add (lo.toNat * e)),(hi - lo).toNat⟩,h)else none
  | _=>none
 | none=>none
def z0t:Nat→List MV→List MV
 | 0,_=>[]
 | n+1,z=>z++z0t n z
def mkSl(e bytes:Nat)(z:List MV)(len cap:Int):M Sl:=
 if 0≤len∧len≤cap∧cap * bytes≤most∧z.length=e then fun h=>some (⟨some ⟨h.size,0⟩,len.toNat⟩,h.push (.cells (z0t cap.toNat z) false))else z0h
def cellsOf(e:Nat)(s:Sl):M (List MV):=match s.p with
 | none=>if s.len=0 then ret []else z0h
 | some _=>ldn (s.len * e) s.p
def zdy(e bytes:Nat)(s:Sl)(new:List MV):M Sl:=fun h=>
 if new=[]then some (s,h)else
 if new.length%e=0∧(s.len+new.length / e) * bytes≤most then match s.p with
  | none=>if s.len=0 then some (⟨some ⟨h.size,0⟩,new.length / e⟩,h.push (.cells new false))else none
  | some a=>match h.get a.blk with
   | .cells cs false=>if a.off+s.len * e≤cs.length then
     some (⟨some ⟨h.size,0⟩,s.len+new.length / e⟩,(h.set a.blk .dead).push (.cells ((cs.drop a.off).take (s.len * e)++new) false))else none
   | _=>none
 else none
def app(e bytes:Nat)(s t:Sl):M Sl:=bd (cellsOf e t) fun cs=>if cs.all z10=true then zdy e bytes s cs else z0h
def bytesOf(s:List UInt8):List MV:=s.map fun b =>.int .u8 b.toNat
def appS(s:Sl)(t:List UInt8):M Sl:=zdy 1 1 s (bytesOf t)
def copy(e:Nat)(d s:Sl):M Int:=
 let n:=min s.len d.len
 if n * e=0 then ret n else
 bd (cellsOf e ⟨s.p,n⟩) fun cs=>bd (stn cs.length d.p cs) fun _=>ret n
def copyS(d:Sl)(s:List UInt8):M Int:=
 let n:=min s.length d.len
 if n=0 then ret n else bd (stn n d.p (bytesOf (s.take n))) fun _=>ret n
def z4d:List MV→Option (List UInt8)
 | []=>some []
 | .int .u8 n::r=>match z4d r with
  | some l=>some (UInt8.ofNat n.toNat::l)
  | none=>none
 | _=>none
def toStr(s:Sl):M (List UInt8):=bd (cellsOf 1 s) fun cs=>z0p (z4d cs)
def plain:Bool:=false
def GM:List Nat:=[]
def toBytes(s:List UInt8):M Sl:=if s.length≤most∧plain=false then fun h=>some (⟨some ⟨h.size,0⟩,s.length⟩,h.push (.cells (bytesOf s) false))else z0h
def Hp.holds:Nat→Hp→Hp
 | 0,h=>h
 | n+1,h=>Hp.holds n (h.push .dead)
def z4y(n:Nat):M Nat:=fun h=>some (h.size,h.holds n)
def zc2(b:Nat)(x:Blk):M Unit:=fun h=>match h.get b with
 | .dead=>if b<h.size then some ((),h.set b x)else none
 | _=>none
def zfo(b:Nat)(cs:List MV):M (Option MA):=bd (zc2 b (.cells cs false)) fun _=>ret (some ⟨b,0⟩)
def zkz(b:Nat)(v:MV):M (Option MA):=if z10 v=true then bd (zc2 b (.cells [v] false)) fun _=>ret (some ⟨b,0⟩)else z0h
def zwl(b:Nat):M (Option Nat):=bd (zc2 b (.map [])) fun _=>ret (some b)
def zsl(b e bytes:Nat)(z:List MV)(len cap:Int):M Sl:=
 if 0≤len∧len≤cap∧cap * bytes≤most∧z.length=e then bd (zc2 b (.cells (z0t cap.toNat z) false)) fun _=>ret ⟨some ⟨b,0⟩,len.toNat⟩else z0h
def zi2(b:Nat)(s:List UInt8):M Sl:=if s.length≤most∧plain=false then bd (zc2 b (.cells (bytesOf s) false)) fun _=>ret ⟨some ⟨b,0⟩,s.length⟩else z0h
def zgk(s t:List UInt8):M (List UInt8):=if s.length+t.length≤most then ret (s++t)else z0h
def z8y:MV→MV→Option Bool
 | .int k a,.int k' b=>if k=k' then some (decide (a=b))else none
 | .str a,.str b=>some (decide (a=b))
 | .bool a,.bool b=>some (decide (a=b))
 | _,_=>none
def z6x(k:MV):List (MV×MV)→Option (Option (Nat×MV))
 | []=>some none
 | e::r=>match z8y k e.1 with
  | some true=>some (some (0,e.2))
  | some false=>match z6x k r with
   | some (some (i,v))=>some (some (i+1,v))
   | some none=>some none
   | none=>none
  | none=>none
def z8e(r:Option Nat):M (List (MV×MV)):=fun h=>match r with
 | none=>some ([],h)
 | some b=>match h.get b with
  | .map es=>some (es,h)
  | _=>none
def z84(r:Option Nat)(k:MV):M (Option MV):=bd (z8e r) fun es=>match z6x k es with
 | some (some (_,v))=>ret (some v)
 | some none=>ret none
 | none=>z0h
def mapPut(r:Option Nat)(k v:MV):M Unit:=fun h=>match r with
 | none=>none
 | some b=>match h.get b with
  | .map es=>match z6x k es with
   | some (some (i,_))=>some ((),h.set b (.map (es.set i (k,v))))
   | some none=>some ((),h.set b (.map (es++[(k,v)])))
   | none=>none
  | _=>none
def mapDel(r:Option Nat)(k:MV):M Unit:=fun h=>match r with
 | none=>some ((),h)
 | some b=>match h.get b with
  | .map es=>match z6x k es with
   | some (some (i,_))=>some ((),h.set b (.map (es.eraseIdx i)))
   | some none=>some ((),h)
   | none=>none
  | _=>none
def mapClr(r:Option Nat):M Unit:=fun h=>match r with
 | none=>some ((),h)
 | some b=>match h.get b with
  | .map _=>some ((),h.set b (.map []))
  | _=>none
def slClr(e:Nat)(z:List MV)(s:Sl):M Unit:=if s.len=0 then ret ()else stn (s.len * e) s.p (z0t s.len z)
def arrAt(n:Nat)(s:Sl):M (Option MA):=if 0<n∧n≤s.len then ret s.p else z0h
def markB(s:Sl):M Sl:=fun h=>match s.p with
 | none=>none
 | some a=>match h.get a.blk with
  | .cells cs false=>if 0<s.len∧plain=false then some (s,h.set a.blk (.cells cs false))else none
  | _=>none
def mapLen(r:Option Nat):M Int:=bd (z8e r) fun es=>ret es.length
def zc3(p q:Option MA):M Bool:=fun h=>match p,q with
 | none,q=>some (q.isNone,h)
 | some _,none=>some (false,h)
 | some a,some b=>if a.blk=b.blk then some (decide (a.off=b.off),h)else none
def zao{β:Type}(p q:Option MA)(k:Bool→M β):M β:=match q with
 | none=>k p.isNone
 | some b=>bd (zc3 p (some b)) k
def zi3(v:MV):M Bool:=match v with
 | .nilIface=>ret true
 | .iface _ _=>ret false
 | _=>z0h
def z0e{α β:Type}:Nat→((α→M β)→α→M β)→α→M β
 | 0,_,_=>z0h
 | n+1,F,x=>F (z0e n F) x
mutual
def MV.beq:MV→MV→Bool
 | .bool a,.bool b=>a==b
 | .int k a,.int l b=>decide (k=l)&&decide (a=b)
 | .str a,.str b=>decide (a=b)
 | .ptr a,.ptr b=>decide (a=b)
 | .sl a l e,.sl b m f=>decide (a=b)&&(decide (l=m)&&decide (e=f))
 | .map a,.map b=>decide (a=b)
 | .fn f cs,.fn g ds=>decide (f=g)&&MV.beqs cs ds
 | .nilFn,.nilFn=>true
 | .iface t v,.iface u w=>decide (t=u)&&MV.beq v w
 | .nilIface,.nilIface=>true
 | .agg cs,.agg ds=>MV.beqs cs ds
 | .tup cs,.tup ds=>MV.beqs cs ds
 | _,_=>false
def MV.beqs:List MV→List MV→Bool
 | [],[]=>true
 | a::r,b::q=>MV.beq a b&&MV.beqs r q
 | _,_=>false
end
mutual
theorem MV.beq_eq:∀(a b:MV),MV.beq a b=true→a=b
 | .bool a,b,h=>by cases b<;>simp_all[MV.beq]
 | .int k a,b,h=>by cases b<;>simp_all[MV.beq]
 | .str a,b,h=>by cases b<;>simp_all[MV.beq]
 | .ptr a,b,h=>by cases b<;>simp_all[MV.beq]
 | .sl a l e,b,h=>by cases b<;>simp_all[MV.beq]
 | .map a,b,h=>by cases b<;>simp_all[MV.beq]
 | .fn f cs,b,h=>by
  cases b<;>simp[MV.beq]at h;rw[h.1,MV.beqs_eq _ _ h.2]
 | .nilFn,b,h=>by cases b<;>simp_all[MV.beq]
 | .iface t v,b,h=>by
  cases b<;>simp[MV.beq]at h;rw[h.1,MV.beq_eq _ _ h.2]
 | .nilIface,b,h=>by cases b<;>simp_all[MV.beq]
 | .agg cs,b,h=>by
  cases b<;>simp[MV.beq]at h;rw[MV.beqs_eq _ _ h]
 | .tup cs,b,h=>by
  cases b<;>simp[MV.beq]at h;rw[MV.beqs_eq _ _ h]
theorem MV.beqs_eq:∀(a b:List MV),MV.beqs a b=true→a=b
 | [],b,h=>by cases b<;>simp_all[MV.beqs]
 | a::r,b,h=>by
  cases b with
  | nil=>simp[MV.beqs]at h
  | cons b q=>
   simp[MV.beqs]at h;rw[MV.beq_eq _ _ h.1,MV.beqs_eq _ _ h.2]
end
mutual
theorem MV.beq_refl:∀(a:MV),MV.beq a a=true
 | .bool a=>by simp[MV.beq]
 | .int k a=>by simp[MV.beq]
 | .str a=>by simp[MV.beq]
 | .ptr a=>by simp[MV.beq]
 | .sl a l e=>by simp[MV.beq]
 | .map a=>by simp[MV.beq]
 | .fn f cs=>by simp[MV.beq,MV.beqs_refl cs]
 | .nilFn=>by simp[MV.beq]
 | .iface t v=>by simp[MV.beq,MV.beq_refl v]
 | .nilIface=>by simp[MV.beq]
 | .agg cs=>by simp[MV.beq,MV.beqs_refl cs]
 | .tup cs=>by simp[MV.beq,MV.beqs_refl cs]
theorem MV.beqs_refl:∀(a:List MV),MV.beqs a a=true
 | []=>by simp[MV.beqs]
 | a::r=>by simp[MV.beqs,MV.beq_refl a,MV.beqs_refl r]
end
def zgl:List (MV×MV)→List (MV×MV)→Bool
 | [],[]=>true
 | a::r,b::q=>(MV.beq a.1 b.1&&MV.beq a.2 b.2)&&zgl r q
 | _,_=>false
theorem zwm:∀(a b:List (MV×MV)),zgl a b=true→a=b
 | [],b,h=>by cases b<;>simp_all[zgl]
 | (x,y)::r,b,h=>by
  cases b with
  | nil=>simp[zgl]at h
  | cons b q=>
   obtain⟨u,v⟩:=b;simp[zgl]at h;rw[MV.beq_eq _ _ h.1.1,MV.beq_eq _ _ h.1.2,zwm _ _ h.2]
theorem zpc:∀(a:List (MV×MV)),zgl a a=true
 | []=>by simp[zgl]
 | (x,y)::r=>by simp[zgl,MV.beq_refl,zpc r]
def Blk.beq:Blk→Blk→Bool
 | .cells a r,.cells b q=>MV.beqs a b&&(r==q)
 | .map a,.map b=>zgl a b
 | .dead,.dead=>true
 | _,_=>false
theorem Blk.beq_eq(a b:Blk)(h:a.beq b=true):a=b:=by
 cases a<;>cases b<;>simp[Blk.beq]at h
 ·rw[MV.beqs_eq _ _ h.1,h.2]
 ·rw[zwm _ _ h]
 ·rfl
theorem Blk.beq_refl(a:Blk):a.beq a=true:=by
 cases a<;>simp[Blk.beq,MV.beqs_refl,zpc]
def z4g(h h':Hp):Prop:=h.size≤h'.size∧∀b,b<h.size→h'.get b=h.get b
theorem z4g.refl(h:Hp):z4g h h:=⟨Nat.le_refl _,fun _ _=>rfl⟩
theorem z4g.trans{a b c:Hp}(h:z4g a b)(k:z4g b c):z4g a c:=
 ⟨Nat.le_trans h.1 k.1,fun x hx=>(k.2 x (Nat.lt_of_lt_of_le hx h.1)).trans (h.2 x hx)⟩
theorem z4g.push(h:Hp)(x:Blk):z4g h (h.push x):=⟨by simp,fun b hb=>by rw[Hp.get_push,if_neg (by omega)]⟩
def zi4:Nat→Hp→Hp→Bool
 | 0,_,_=>true
 | n+1,h,h'=>(h.get n).beq (h'.get n)&&zi4 n h h'
def zmf(h h':Hp):Bool:=Nat.ble h.size h'.size&&zi4 h.size h h'
theorem zy0(n:Nat)(h h':Hp):zi4 n h h'=true↔∀b,b<n→h'.get b=h.get b:=by
 induction n with
 | zero=>simp[zi4]
 | succ n ih=>
  simp only[zi4,Bool.and_eq_true,ih];constructor
  ·rintro⟨h1,h2⟩ b hb
   by_cases e:b=n
   ·subst e;exact(Blk.beq_eq _ _ h1).symm
   ·exact h2 b (by omega)
  ·intro h1;exact⟨by rw[h1 n (by omega)];exact Blk.beq_refl _,fun b hb=>h1 b (by omega)⟩
theorem zgm(h h':Hp):zmf h h'=true↔z4g h h':=by
 unfold zmf z4g;rw[Bool.and_eq_true,zy0,Nat.ble_eq]
def frz{α:Type}(m:M α):M α:=fun h=>match m h with
 | none=>none
 | some (a,h')=>bif zmf h h' then some (a,h')else none
theorem zsm{α:Type}{m:M α}{h h':Hp}{a:α}(e:frz m h=some (a,h')):m h=some (a,h')∧z4g h h':=by
 unfold frz at e;cases hm:m h with
 | none=>rw[hm]at e;cases e
 | some r=>
  obtain⟨x,h1⟩:=r;rw[hm]at e;dsimp only at e;cases hg:zmf h h1 with
  | false=>rw[hg]at e;cases e
  | true=>
   rw[hg]at e;cases e;exact⟨rfl,(zgm _ _).1 hg⟩
theorem z10l{α:Type}{m:M α}{h h':Hp}{a:α}(e:m h=some (a,h'))(g:z4g h h'):frz m h=some (a,h'):=by
 unfold frz;rw[e];dsimp only;rw[(zgm _ _).2 g];rfl
end Go.Mini
