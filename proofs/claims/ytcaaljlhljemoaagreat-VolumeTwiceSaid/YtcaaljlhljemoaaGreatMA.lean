/- A small deterministic machine beside the kit's: its values, its heap, what can be done in it. Definitions, and the heap's laws. -/
import GoSem.Core.Code
import GoSem.Core.View
import GoSem.Op.String
namespace Go.Mini
structure MA where
 blk:Nat
 off:Nat
 deriving DecidableEq
inductive MV where
 | bool (b:Bool)
 | int (k:IntKind) (n:Int)
 | str (s:List UInt8)
 | ptr (p:Option MA)
 | sl (p:Option MA) (len esz:Nat)
 | map (r:Option Nat)
 | fn (f:FuncId) (caps:List MV)
 | nilFn
 | iface (t:TypeId) (v:MV)
 | nilIface
 | agg (cs:List MV)
 | tup (vs:List MV)
instance:Inhabited MV:=⟨.bool false⟩
inductive Blk where
 | cells (cs:List MV) (ro:Bool)
 | map (es:List (MV×MV))
 | dead
inductive Tr where
 | leaf
 | node (l:Tr) (v:Blk) (r:Tr)
def Tr.get:Tr→Nat→Blk
 | .leaf,_ =>.dead
 | .node l v r,n=>if n=0 then v else if n%2=1 then l.get (n / 2)else r.get (n / 2 - 1)
def Tr.put:Nat→Tr→Nat→Blk→Tr
 | 0,t,_,_=>t
 | f+1,.leaf,n,x=>if n=0 then .node .leaf x .leaf else if n%2=1 then .node (Tr.put f .leaf (n / 2) x) .dead .leaf else .node .leaf .dead (Tr.put f .leaf (n / 2 - 1) x)
 | f+1,.node l v r,n,x=>if n=0 then .node l x r else if n%2=1 then .node (l.put f (n / 2) x) v r else .node l v (r.put f (n / 2 - 1) x)
theorem Tr.get_put(f:Nat):∀(t:Tr)(n m:Nat)(x:Blk),n<f→(t.put f n x).get m=if m=n then x else t.get m:=by
 induction f with
 | zero=>intro t n m x h;omega
 | succ f ih=>
  intro t n m x h;cases t with
  | leaf=>
   simp only[Tr.put];by_cases hn:n=0
   ·subst hn;by_cases hm:m=0
    ·simp[hm,Tr.get]
    ·simp only[if_true,Tr.get,hm,if_false];split<;>rfl
   ·rw[if_neg hn];by_cases ho:n%2=1
    ·rw[if_pos ho];simp only[Tr.get];by_cases hm:m=0
     ·rw[if_pos hm,if_neg (by omega)]
     ·rw[if_neg hm];by_cases hmo:m%2=1
      ·rw[if_pos hmo,ih _ _ _ _ (by omega)];by_cases e:m=n
       ·rw[if_pos e,if_pos (by omega)]
       ·rw[if_neg e,if_neg (by omega)];rfl
      ·rw[if_neg hmo,if_neg (by omega)]
    ·rw[if_neg ho];simp only[Tr.get];by_cases hm:m=0
     ·rw[if_pos hm,if_neg (by omega)]
     ·rw[if_neg hm];by_cases hmo:m%2=1
      ·rw[if_pos hmo,if_neg (by omega)]
      ·rw[if_neg hmo,ih _ _ _ _ (by omega)];by_cases e:m=n
       ·rw[if_pos e,if_pos (by omega)]
       ·rw[if_neg e,if_neg (by omega)];rfl
  | node l v r=>
   simp only[Tr.put];by_cases hn:n=0
   ·subst hn;by_cases hm:m=0
    ·simp[hm,Tr.get]
    ·simp[Tr.get,hm]
   ·rw[if_neg hn];by_cases ho:n%2=1
    ·rw[if_pos ho];simp only[Tr.get];by_cases hm:m=0
     ·rw[if_pos hm,if_pos hm,if_neg (by omega)]
     ·rw[if_neg hm,if_neg hm];by_cases hmo:m%2=1
      ·rw[if_pos hmo,if_pos hmo,ih _ _ _ _ (by omega)];by_cases e:m=n
       ·rw[if_pos e,if_pos (by omega)]
       ·rw[if_neg e,if_neg (by omega)]
      ·rw[if_neg hmo,if_neg hmo,if_neg (by omega)]
    ·rw[if_neg ho];simp only[Tr.get];by_cases hm:m=0
     ·rw[if_pos hm,if_pos hm,if_neg (by omega)]
     ·rw[if_neg hm,if_neg hm];by_cases hmo:m%2=1
      ·rw[if_pos hmo,if_pos hmo,if_neg (by omega)]
      ·rw[if_neg hmo,if_neg hmo,ih _ _ _ _ (by omega)];by_cases e:m=n
       ·rw[if_pos e,if_pos (by omega)]
       ·rw[if_neg e,if_neg (by omega)]
structure Hp where
 size:Nat
 t:Tr
def Hp.get(h:Hp)(b:Nat):Blk:=h.t.get b
def Hp.set(h:Hp)(b:Nat)(x:Blk):Hp:=⟨h.size,h.t.put (b+1) b x⟩
def Hp.push(h:Hp)(x:Blk):Hp:=⟨h.size+1,h.t.put (h.size+1) h.size x⟩
def Hp.empty:Hp:=⟨0,.leaf⟩
theorem Hp.get_set(h:Hp)(b c:Nat)(x:Blk):(h.set b x).get c=if c=b then x else h.get c:=Tr.get_put _ _ _ _ _ (by omega)
theorem Hp.get_push(h:Hp)(c:Nat)(x:Blk):(h.push x).get c=if c=h.size then x else h.get c:=Tr.get_put _ _ _ _ _ (by omega)
@[simp] theorem Hp.size_set (h:Hp) (b:Nat) (x:Blk):(h.set b x).size=h.size:=rfl
@[simp] theorem Hp.size_push (h:Hp) (x:Blk):(h.push x).size=h.size+1:=rfl
abbrev M(α:Type):Type:=Hp→Option (α×Hp)
def ret{α:Type}(a:α):M α:=fun h=>some (a,h)
def z0d{α:Type}:M α:=fun _=>none
def bd{α β:Type}(m:M α)(f:α→M β):M β:=fun h=>match m h with
 | none=>none
 | some (a,h')=>f a h'
structure Sl where
 p:Option MA
 len:Nat
inductive CTy where
 | bool | int (k:IntKind) | str | ptr | sl (esz:Nat) | map | any
 deriving DecidableEq
def CTy.den:CTy→Type
 | .bool=>Bool | .int _=>Int | .str=>List UInt8 | .ptr=>Option MA | .sl _=>Sl | .map=>Option Nat | .any=>MV
def CTy.enc:(t:CTy)→t.den→MV
 | .bool,b =>.bool b
 | .int k,n =>.int k n
 | .str,s =>.str s
 | .ptr,p =>.ptr p
 | .sl e,s =>.sl s.p s.len e
 | .map,r =>.map r
 | .any,v=>v
def CTy.dec:(t:CTy)→MV→Option t.den
 | .bool,.bool b=>some b
 | .int k,.int k' n=>if k=k' then some n else none
 | .str,.str s=>some s
 | .ptr,.ptr p=>some p
 | .sl e,.sl p l e'=>if e=e' then some ⟨p,l⟩else none
 | .map,.map r=>some r
 | .any,v=>some v
 | _,_=>none
def HC:List CTy→Type
 | []=>Unit
 | [t]=>t.den
 | t::u::r=>t.den×HC (u::r)
def HC.enc:(ts:List CTy)→HC ts→List MV
 | [],_=>[]
 | [t],x=>[t.enc x]
 | t::u::r,x=>t.enc x.1::HC.enc (u::r) x.2
def HC.dec:(ts:List CTy)→List MV→Option (HC ts)
 | [],vs=>match vs with
  | []=>some ()
  | _=>none
 | [t],vs=>match vs with
  | [v]=>t.dec v
  | _=>none
 | t::u::r,vs=>match vs with
  | []=>none
  | v::vs=>match t.dec v with
   | none=>none
   | some x=>match HC.dec (u::r) vs with
    | some y=>some (x,y)
    | none=>none
inductive Ty where
 | c (t:CTy) | st (ts:List CTy) | agg (n:Nat) | arr (k:IntKind) | fnc (f:FuncId) (caps:List CTy)
 deriving DecidableEq
def Ty.den:Ty→Type
 | .c t=>t.den | .st ts=>HC ts | .agg _=>List MV | .arr _=>List Int | .fnc _ caps=>HC caps
def zdx(k:IntKind):List MV→Option (List Int)
 | []=>some []
 | .int k' n::r=>if k=k' then(match zdx k r with
  | some l=>some (n::l)
  | none=>none)else none
 | _=>none
def Ty.enc:(t:Ty)→t.den→MV
 | .c t,x=>t.enc x
 | .st ts,x =>.agg (HC.enc ts x)
 | .agg _,cs =>.agg cs
 | .arr k,xs =>.agg (xs.map (.int k))
 | .fnc f caps,x =>.fn f (HC.enc caps x)
def Ty.dec:(t:Ty)→MV→Option t.den
 | .c t,v=>t.dec v
 | .st ts,v=>match v with
  | .agg cs=>HC.dec ts cs
  | _=>none
 | .agg _,v=>match v with
  | .agg cs=>some cs
  | _=>none
 | .arr k,v=>match v with
  | .agg cs=>zdx k cs
  | _=>none
 | .fnc f caps,v=>match v with
  | .fn g cs=>if g=f then HC.dec caps cs else none
  | _=>none
def HT:List Ty→Type
 | []=>Unit
 | [t]=>t.den
 | t::u::r=>t.den×HT (u::r)
def HT.enc:(ts:List Ty)→HT ts→List MV
 | [],_=>[]
 | [t],x=>[t.enc x]
 | t::u::r,x=>t.enc x.1::HT.enc (u::r) x.2
def HT.dec:(ts:List Ty)→List MV→Option (HT ts)
 | [],vs=>match vs with
  | []=>some ()
  | _=>none
 | [t],vs=>match vs with
  | [v]=>t.dec v
  | _=>none
 | t::u::r,vs=>match vs with
  | []=>none
  | v::vs=>match t.dec v with
   | none=>none
   | some x=>match HT.dec (u::r) vs with
    | some y=>some (x,y)
    | none=>none
def z09{α:Type}(o:Option α):M α:=fun h=>match o with
 | some a=>some (a,h)
 | none=>none
def ldc(p:Option MA):M MV:=fun h=>match p with
 | none=>none
 | some a=>match h.get a.blk with
  | .cells cs _=>match cs[a.off]? with
   | some v=>some (v,h)
   | none=>none
  | _=>none
def ldn(n:Nat)(p:Option MA):M (List MV):=fun h=>match p with
 | none=>none
 | some a=>match h.get a.blk with
  | .cells cs _=>if a.off+n≤cs.length then some ((cs.drop a.off).take n,h)else none
  | _=>none
def ldI(k:IntKind)(p:Option MA):M Int:=bd (ldc p) fun v=>z09 (CTy.dec (.int k) v)
def ldB(p:Option MA):M Bool:=bd (ldc p) fun v=>z09 (CTy.dec .bool v)
def ldS(p:Option MA):M (List UInt8):=bd (ldc p) fun v=>z09 (CTy.dec .str v)
def ldP(p:Option MA):M (Option MA):=bd (ldc p) fun v=>z09 (CTy.dec .ptr v)
def ldL(e:Nat)(p:Option MA):M Sl:=bd (ldc p) fun v=>z09 (CTy.dec (.sl e) v)
def ldM(p:Option MA):M (Option Nat):=bd (ldc p) fun v=>z09 (CTy.dec .map v)
def ldSt(ts:List CTy)(p:Option MA):M (HC ts):=bd (ldn ts.length p) fun cs=>z09 (HC.dec ts cs)
def ldC:(t:CTy)→Option MA→M t.den
 | .bool,p=>ldB p
 | .int k,p=>ldI k p
 | .str,p=>ldS p
 | .ptr,p=>ldP p
 | .sl e,p=>ldL e p
 | .map,p=>ldM p
 | .any,p=>ldc p
def ld:(t:Ty)→Option MA→M t.den
 | .c t,p=>ldC t p
 | .st ts,p=>ldSt ts p
 | .agg n,p=>ldn n p
 | .arr _,_=>z0d
 | .fnc f caps,p=>bd (ldC .any p) fun v=>z09 (Ty.dec (.fnc f caps) v)
def z0w(cs:List MV)(off:Nat)(vs:List MV):List MV:=cs.take off++vs++cs.drop (off+vs.length)
def z0v:MV→Bool
 | .agg _=>false
 | .tup _=>false
 | _=>true
def stc(p:Option MA)(v:MV):M Unit:=fun h=>match p with
 | none=>none
 | some a=>match h.get a.blk with
  | .cells cs false=>if a.off<cs.length∧z0v v=true then some ((),h.set a.blk (.cells (cs.set a.off v) false))else none
  | _=>none
def stn(n:Nat)(p:Option MA)(vs:List MV):M Unit:=fun h=>match p with
 | none=>none
 | some a=>match h.get a.blk with
  | .cells cs false=>if a.off+vs.length≤cs.length∧vs.length=n∧vs.all z0v=true then some ((),h.set a.blk (.cells (z0w cs a.off vs) false))else none
  | _=>none
def alloc(cs:List MV):M (Option MA):=fun h=>some (some ⟨h.size,0⟩,h.push (.cells cs false))
def zbg(v:MV):M (Option MA):=fun h=>if z0v v=true then some (some ⟨h.size,0⟩,h.push (.cells [v] false))else none
def mkMap:M (Option Nat):=fun h=>some (some h.size,h.push (.map []))
def MA.add(a:MA)(n:Nat):MA:=⟨a.blk,a.off+n⟩
def fld(p:Option MA)(off:Nat):M (Option MA):=match p with
 | some a=>ret (some (a.add off))
 | none=>z0d
def nonNil(p:Option MA):M (Option MA):=match p with
 | some a=>ret (some a)
 | none=>z0d
def idx(e:Nat)(s:Sl)(i:Int):M (Option MA):=match s.p with
 | some a=>if 0≤i∧i<s.len then ret (some (a.add (i.toNat * e)))else z0d
 | none=>z0d
def idxA(n e:Nat)(p:Option MA)(i:Int):M (Option MA):=match p with
 | some a=>if 0≤i∧i<n then ret (some (a.add (i.toNat * e)))else z0d
 | none=>z0d
def idxV(n:Nat)(cs:List MV)(i:Int):M MV:=if 0≤i∧i<n then z09 cs[i.toNat]? else z0d
def idxVn(n e:Nat)(cs:List MV)(i:Int):M (List MV):=
 if 0≤i∧i<n then(if i.toNat * e+e≤cs.length then ret ((cs.drop (i.toNat * e)).take e)else z0d)else z0d
def idxS(s:List UInt8)(i:Int):M Int:=if 0≤i then bd (z09 s[i.toNat]?) fun b=>ret (b.toNat:Int)else z0d
def slc(e:Nat)(s:Sl)(lo hi:Int):M Sl:=
 if 0≤lo∧lo≤hi∧hi≤s.len then ret ⟨s.p.map (·.add (lo.toNat * e)),(hi - lo).toNat⟩else z0d
def slcS(s:List UInt8)(lo hi:Int):M (List UInt8):=
 if 0≤lo∧lo≤hi∧hi≤s.length then ret ((s.drop lo.toNat).take (hi - lo).toNat)else z0d
def most:Nat:=70368744177664
def slcA(n e:Nat)(p:Option MA)(lo hi:Int):M Sl:=fun h=>match p with
 | some a=>match h.get a.blk with
  | .cells cs _=>if 0≤lo∧lo≤hi∧hi≤n∧a.off+n * e≤cs.length∧n≤most then some (⟨some (a.add (lo.toNat * e)),(hi - lo).toNat⟩,h)else none
  | _=>none
 | none=>none
def z0q:Nat→List MV→List MV
 | 0,_=>[]
 | n+1,z=>z++z0q n z
def mkSl(e bytes:Nat)(z:List MV)(len cap:Int):M Sl:=
 if 0≤len∧len≤cap∧cap * bytes≤most∧z.length=e then fun h=>some (⟨some ⟨h.size,0⟩,len.toNat⟩,h.push (.cells (z0q cap.toNat z) false))else z0d
def cellsOf(e:Nat)(s:Sl):M (List MV):=match s.p with
 | none=>if s.len=0 then ret []else z0d
 | some _=>ldn (s.len * e) s.p
def zck(e bytes:Nat)(s:Sl)(new:List MV):M Sl:=fun h=>
 if new=[]then some (s,h)else
 if new.length%e=0∧(s.len+new.length / e) * bytes≤most then match s.p with
  | none=>if s.len=0 then some (⟨some ⟨h.size,0⟩,new.length / e⟩,h.push (.cells new false))else none
  | some a=>match h.get a.blk with
   | .cells cs false=>if a.off+s.len * e≤cs.length then
     some (⟨some ⟨h.size,0⟩,s.len+new.length / e⟩,(h.set a.blk .dead).push (.cells ((cs.drop a.off).take (s.len * e)++new) false))else none
   | _=>none
 else none
def app(e bytes:Nat)(s t:Sl):M Sl:=bd (cellsOf e t) fun cs=>if cs.all z0v=true then zck e bytes s cs else z0d
def bytesOf(s:List UInt8):List MV:=s.map fun b =>.int .u8 b.toNat
def appS(s:Sl)(t:List UInt8):M Sl:=zck 1 1 s (bytesOf t)
def copy(e:Nat)(d s:Sl):M Int:=
 let n:=min s.len d.len
 if n * e=0 then ret n else
 bd (cellsOf e ⟨s.p,n⟩) fun cs=>bd (stn cs.length d.p cs) fun _=>ret n
def copyS(d:Sl)(s:List UInt8):M Int:=
 let n:=min s.length d.len
 if n=0 then ret n else bd (stn n d.p (bytesOf (s.take n))) fun _=>ret n
def strOf:List MV→Option (List UInt8)
 | []=>some []
 | .int .u8 n::r=>match strOf r with
  | some l=>some (UInt8.ofNat n.toNat::l)
  | none=>none
 | _=>none
def toStr(s:Sl):M (List UInt8):=bd (cellsOf 1 s) fun cs=>z09 (strOf cs)
def plain:Bool:=false
def GM:List Nat:=[]
def toBytes(s:List UInt8):M Sl:=if s.length≤most∧plain=false then fun h=>some (⟨some ⟨h.size,0⟩,s.length⟩,h.push (.cells (bytesOf s) false))else z0d
def Hp.holds:Nat→Hp→Hp
 | 0,h=>h
 | n+1,h=>Hp.holds n (h.push .dead)
def z47(n:Nat):M Nat:=fun h=>some (h.size,h.holds n)
def z9v(b:Nat)(x:Blk):M Unit:=fun h=>match h.get b with
 | .dead=>if b<h.size then some ((),h.set b x)else none
 | _=>none
def zdy(b:Nat)(cs:List MV):M (Option MA):=bd (z9v b (.cells cs false)) fun _=>ret (some ⟨b,0⟩)
def ziz(b:Nat)(v:MV):M (Option MA):=if z0v v=true then bd (z9v b (.cells [v] false)) fun _=>ret (some ⟨b,0⟩)else z0d
def zsj(b:Nat):M (Option Nat):=bd (z9v b (.map [])) fun _=>ret (some b)
def z9w(b e bytes:Nat)(z:List MV)(len cap:Int):M Sl:=
 if 0≤len∧len≤cap∧cap * bytes≤most∧z.length=e then bd (z9v b (.cells (z0q cap.toNat z) false)) fun _=>ret ⟨some ⟨b,0⟩,len.toNat⟩else z0d
def zgh(b:Nat)(s:List UInt8):M Sl:=if s.length≤most∧plain=false then bd (z9v b (.cells (bytesOf s) false)) fun _=>ret ⟨some ⟨b,0⟩,s.length⟩else z0d
def zzk(s t:List UInt8):M (List UInt8):=if s.length+t.length≤most then ret (s++t)else z0d
def z8i:MV→MV→Option Bool
 | .int k a,.int k' b=>if k=k' then some (decide (a=b))else none
 | .str a,.str b=>some (decide (a=b))
 | .bool a,.bool b=>some (decide (a=b))
 | _,_=>none
def z6h(k:MV):List (MV×MV)→Option (Option (Nat×MV))
 | []=>some none
 | e::r=>match z8i k e.1 with
  | some true=>some (some (0,e.2))
  | some false=>match z6h k r with
   | some (some (i,v))=>some (some (i+1,v))
   | some none=>some none
   | none=>none
  | none=>none
def z7w(r:Option Nat):M (List (MV×MV)):=fun h=>match r with
 | none=>some ([],h)
 | some b=>match h.get b with
  | .map es=>some (es,h)
  | _=>none
def z8j(r:Option Nat)(k:MV):M (Option MV):=bd (z7w r) fun es=>match z6h k es with
 | some (some (_,v))=>ret (some v)
 | some none=>ret none
 | none=>z0d
def mapPut(r:Option Nat)(k v:MV):M Unit:=fun h=>match r with
 | none=>none
 | some b=>match h.get b with
  | .map es=>match z6h k es with
   | some (some (i,_))=>some ((),h.set b (.map (es.set i (k,v))))
   | some none=>some ((),h.set b (.map (es++[(k,v)])))
   | none=>none
  | _=>none
def mapDel(r:Option Nat)(k:MV):M Unit:=fun h=>match r with
 | none=>some ((),h)
 | some b=>match h.get b with
  | .map es=>match z6h k es with
   | some (some (i,_))=>some ((),h.set b (.map (es.eraseIdx i)))
   | some none=>some ((),h)
   | none=>none
  | _=>none
def mapClr(r:Option Nat):M Unit:=fun h=>match r with
 | none=>some ((),h)
 | some b=>match h.get b with
  | .map _=>some ((),h.set b (.map []))
  | _=>none
def slClr(e:Nat)(z:List MV)(s:Sl):M Unit:=if s.len=0 then ret ()else stn (s.len * e) s.p (z0q s.len z)
def arrAt(n:Nat)(s:Sl):M (Option MA):=if 0<n∧n≤s.len then ret s.p else z0d
def markB(s:Sl):M Sl:=fun h=>match s.p with
 | none=>none
 | some a=>match h.get a.blk with
  | .cells cs false=>if 0<s.len∧plain=false then some (s,h.set a.blk (.cells cs false))else none
  | _=>none
def mapLen(r:Option Nat):M Int:=bd (z7w r) fun es=>ret es.length
def zb5(p q:Option MA):M Bool:=fun h=>match p,q with
 | none,q=>some (q.isNone,h)
 | some _,none=>some (false,h)
 | some a,some b=>if a.blk=b.blk then some (decide (a.off=b.off),h)else none
def z9x{β:Type}(p q:Option MA)(k:Bool→M β):M β:=match q with
 | none=>k p.isNone
 | some b=>bd (zb5 p (some b)) k
def zgi(v:MV):M Bool:=match v with
 | .nilIface=>ret true
 | .iface _ _=>ret false
 | _=>z0d
def z0l{α β:Type}:Nat→((α→M β)→α→M β)→α→M β
 | 0,_,_=>z0d
 | n+1,F,x=>F (z0l n F) x
mutual
def MV.beq:MV→MV→Bool
 | .bool a,.bool b=>a==b
 | .int k a,.int l b=>decide (k=l)&&decide (a=b)
 | .str a,.str b=>decide (a=b)
 | .ptr a,.ptr b=>decide (a=b)
 | .sl a l e,.sl b m f=>decide (a=b)&&(decide (l=m)&&decide (e=f))
 | .map a,.map b=>decide (a=b)
 | .fn f cs,.fn g ds=>decide (f=g)&&MV.beqs cs ds
 | .nilFn,.nilFn=>true
 | .iface t v,.iface u w=>decide (t=u)&&MV.beq v w
 | .nilIface,.nilIface=>true
 | .agg cs,.agg ds=>MV.beqs cs ds
 | .tup cs,.tup ds=>MV.beqs cs ds
 | _,_=>false
def MV.beqs:List MV→List MV→Bool
 | [],[]=>true
 | a::r,b::q=>MV.beq a b&&MV.beqs r q
 | _,_=>false
end
mutual
theorem MV.beq_eq:∀(a b:MV),MV.beq a b=true→a=b
 | .bool a,b,h=>by cases b<;>simp_all[MV.beq]
 | .int k a,b,h=>by cases b<;>simp_all[MV.beq]
 | .str a,b,h=>by cases b<;>simp_all[MV.beq]
 | .ptr a,b,h=>by cases b<;>simp_all[MV.beq]
 | .sl a l e,b,h=>by cases b<;>simp_all[MV.beq]
 | .map a,b,h=>by cases b<;>simp_all[MV.beq]
 | .fn f cs,b,h=>by
  cases b<;>simp[MV.beq]at h;rw[h.1,MV.beqs_eq _ _ h.2]
 | .nilFn,b,h=>by cases b<;>simp_all[MV.beq]
 | .iface t v,b,h=>by
  cases b<;>simp[MV.beq]at h;rw[h.1,MV.beq_eq _ _ h.2]
 | .nilIface,b,h=>by cases b<;>simp_all[MV.beq]
 | .agg cs,b,h=>by
  cases b<;>simp[MV.beq]at h;rw[MV.beqs_eq _ _ h]
 | .tup cs,b,h=>by
  cases b<;>simp[MV.beq]at h;rw[MV.beqs_eq _ _ h]
theorem MV.beqs_eq:∀(a b:List MV),MV.beqs a b=true→a=b
 | [],b,h=>by cases b<;>simp_all[MV.beqs]
 | a::r,b,h=>by
  cases b with
  | nil=>simp[MV.beqs]at h
  | cons b q=>
   simp[MV.beqs]at h;rw[MV.beq_eq _ _ h.1,MV.beqs_eq _ _ h.2]
end
mutual
theorem MV.beq_refl:∀(a:MV),MV.beq a a=true
 | .bool a=>by simp[MV.beq]
 | .int k a=>by simp[MV.beq]
 | .str a=>by simp[MV.beq]
 | .ptr a=>by simp[MV.beq]
 | .sl a l e=>by simp[MV.beq]
 | .map a=>by simp[MV.beq]
 | .fn f cs=>by simp[MV.beq,MV.beqs_refl cs]
 | .nilFn=>by simp[MV.beq]
 | .iface t v=>by simp[MV.beq,MV.beq_refl v]
 | .nilIface=>by simp[MV.beq]
 | .agg cs=>by simp[MV.beq,MV.beqs_refl cs]
 | .tup cs=>by simp[MV.beq,MV.beqs_refl cs]
theorem MV.beqs_refl:∀(a:List MV),MV.beqs a a=true
 | []=>by simp[MV.beqs]
 | a::r=>by simp[MV.beqs,MV.beq_refl a,MV.beqs_refl r]
end
def zeu:List (MV×MV)→List (MV×MV)→Bool
 | [],[]=>true
 | a::r,b::q=>(MV.beq a.1 b.1&&MV.beq a.2 b.2)&&zeu r q
 | _,_=>false
theorem zsk:∀(a b:List (MV×MV)),zeu a b=true→a=b
 | [],b,h=>by cases b<;>simp_all[zeu]
 | (x,y)::r,b,h=>by
  cases b with
  | nil=>simp[zeu]at h
  | cons b q=>
   obtain⟨u,v⟩:=b;simp[zeu]at h;rw[MV.beq_eq _ _ h.1.1,MV.beq_eq _ _ h.1.2,zsk _ _ h.2]
theorem zmh:∀(a:List (MV×MV)),zeu a a=true
 | []=>by simp[zeu]
 | (x,y)::r=>by simp[zeu,MV.beq_refl,zmh r]
def Blk.beq:Blk→Blk→Bool
 | .cells a r,.cells b q=>MV.beqs a b&&(r==q)
 | .map a,.map b=>zeu a b
 | .dead,.dead=>true
 | _,_=>false
theorem Blk.beq_eq(a b:Blk)(h:a.beq b=true):a=b:=by
 cases a<;>cases b<;>simp[Blk.beq]at h
 ·rw[MV.beqs_eq _ _ h.1,h.2]
 ·rw[zsk _ _ h]
 ·rfl
theorem Blk.beq_refl(a:Blk):a.beq a=true:=by
 cases a<;>simp[Blk.beq,MV.beqs_refl,zmh]
def z4a(h h':Hp):Prop:=h.size≤h'.size∧∀b,b<h.size→h'.get b=h.get b
theorem z4a.refl(h:Hp):z4a h h:=⟨Nat.le_refl _,fun _ _=>rfl⟩
theorem z4a.trans{a b c:Hp}(h:z4a a b)(k:z4a b c):z4a a c:=
 ⟨Nat.le_trans h.1 k.1,fun x hx=>(k.2 x (Nat.lt_of_lt_of_le hx h.1)).trans (h.2 x hx)⟩
theorem z4a.push(h:Hp)(x:Blk):z4a h (h.push x):=⟨by simp,fun b hb=>by rw[Hp.get_push,if_neg (by omega)]⟩
def zgj:Nat→Hp→Hp→Bool
 | 0,_,_=>true
 | n+1,h,h'=>(h.get n).beq (h'.get n)&&zgj n h h'
def zk6(h h':Hp):Bool:=Nat.ble h.size h'.size&&zgj h.size h h'
theorem ztt(n:Nat)(h h':Hp):zgj n h h'=true↔∀b,b<n→h'.get b=h.get b:=by
 induction n with
 | zero=>simp[zgj]
 | succ n ih=>
  simp only[zgj,Bool.and_eq_true,ih];constructor
  ·rintro⟨h1,h2⟩ b hb
   by_cases e:b=n
   ·subst e;exact(Blk.beq_eq _ _ h1).symm
   ·exact h2 b (by omega)
  ·intro h1;exact⟨by rw[h1 n (by omega)];exact Blk.beq_refl _,fun b hb=>h1 b (by omega)⟩
theorem zev(h h':Hp):zk6 h h'=true↔z4a h h':=by
 unfold zk6 z4a;rw[Bool.and_eq_true,ztt,Nat.ble_eq]
def frz{α:Type}(m:M α):M α:=fun h=>match m h with
 | none=>none
 | some (a,h')=>bif zk6 h h' then some (a,h')else none
theorem zp4{α:Type}{m:M α}{h h':Hp}{a:α}(e:frz m h=some (a,h')):m h=some (a,h')∧z4a h h':=by
 unfold frz at e;cases hm:m h with
 | none=>rw[hm]at e;cases e
 | some r=>
  obtain⟨x,h1⟩:=r;rw[hm]at e;dsimp only at e;cases hg:zk6 h h1 with
  | false=>rw[hg]at e;cases e
  | true=>
   rw[hg]at e;cases e;exact⟨rfl,(zev _ _).1 hg⟩
theorem zp5{α:Type}{m:M α}{h h':Hp}{a:α}(e:m h=some (a,h'))(g:z4a h h'):frz m h=some (a,h'):=by
 unfold frz;rw[e];dsimp only;rw[(zev _ _).2 g];rfl
end Go.Mini
