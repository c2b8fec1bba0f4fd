/- Regions whose order is drawn (4): whichever order comes, the same is found. -/
import Derived.Test.YtfieiaijdalkbaaGreatMXF
namespace Go.Mini
universe u
section
variable{β:Type}{C:List (Nat×Entry)}
theorem zrt{e:Entry}{vs:List MV}{k:MV→M β}{h:Hp}{res:β×Hp}(he:e.runz vs k h=some res):e.run vs k h=some res:=by
 unfold Entry.runz at he;unfold Entry.run;cases hd:e.dec vs with
 | none=>rw[hd]at he;cases he
 | some a=>
  rw[hd]at he;obtain⟨r,h1,e1,e2⟩:=z0f he;simp only[bd,(zsm e1).1];exact e2
theorem unz{w:Z}{x:Ins}(h5:(z0w w x).cls<5)(h2:(z0w w x).cls≠2){fr:Fr}{k:Fr→M β}{h:Hp}{res:β×Hp}(e:z08 C (z0w w x) fr k h=some res):z08 C x fr k h=some res:=by
 cases x with
 | mv d x=>
  simp only[z0w,z08]at e ⊢;cases hv:x.val fr with
  | none=>rw[hv]at e;cases e
  | some v=>rw[hv]at e;cases v<;>first | exact e | cases e
 | allocA | boxA | bsliceA | mkSlA | toBytesA | mkMapA=>simp[z0w,Ins.cls]at h5
 | alloc | box | bslice | mkSl | toBytes | mkMap=>
  clear h5;revert e h2;simp only[z0w];cases (mem _ w.rs)with
  | false=>intro _ e;exact e
  | true=>intro h2;exact absurd rfl h2
 | load d t p=>
  simp only[z0w]at e;revert e;cases (mem d w.rs)with
  | false=>intro e;exact e
  | true=>
   intro e;simp only[cond_true,z08]at e ⊢;rcases z2f e with⟨q,hv,e1⟩ | ⟨s,o,hv,e1⟩
   ·cases e1
   ·rw[hv];exact e1
 | call d f args=>
  simp only[z0w]at e;revert e;cases (w.w && !(mem d w.rs))with
  | false=>intro e;exact e
  | true=>
   intro e;simp only[cond_true,z08]at e ⊢;obtain⟨vs,h1,e⟩:=z0i e;obtain⟨en,h2,e⟩:=z0i e;rw[h1,h2];exact zrt e
 | callv d f args=>
  simp only[z0w]at e;revert e;cases (w.w && !(mem d w.rs))with
  | false=>intro e;exact e
  | true=>
   intro e;simp only[cond_true,z08]at e ⊢;obtain⟨g,caps,h0,e⟩:=zgb e;obtain⟨vs,h1,e⟩:=z0i e;obtain⟨en,h2,e⟩:=z0i e;rw[h0,h1];simp only[wFn,z19];rw[h2];exact zrt e
 | _=>exact e
def NG(m:M FV):Prop:=∀h V h',m h=some (V,h')→V≠.gone
theorem zdt(v:MV):NG (ret (.v v)):=fun h V h' e=>by cases e;simp
theorem z19b(a b:Nat):NG (ret (.loc a b)):=fun h V h' e=>by cases e;simp
theorem z2k:NG z0h:=fun h V h' e=>by cases e
theorem z89{α:Type}{m:M α}{f:α→M FV}(k:∀a,NG (f a)):NG (bd m f):=fun h V h' e=>by
 obtain⟨a,h1,_,e2⟩:=z0f e;exact k a _ _ _ e2
theorem zcg{c:Prop}[Decidable c]{m n:M FV}(k:NG m)(l:NG n):NG (if c then m else n):=by
 split
 ·exact k
 ·exact l
theorem zfa{ε:Type u}{x:Option ε}{f:ε→M FV}(k:∀v,NG (f v)):NG (z19 x f):=by
 cases x with
 | none=>exact z2k
 | some v=>exact k v
theorem zw9{x:Option MV}{f:IntKind→Int→M FV}(k:∀a b,NG (f a b)):NG (z3o x f):=by
 unfold z3o;split
 ·exact k _ _
 ·exact z2k
theorem z16z{x:Option MV}{f:List UInt8→M FV}(k:∀a,NG (f a)):NG (z58 x f):=by
 unfold z58;split
 ·exact k _
 ·exact z2k
theorem z19c{x:Option MV}{f:Option MA→Nat→Nat→M FV}(k:∀a b c,NG (f a b c)):NG (wSl x f):=by
 unfold wSl;split
 ·exact k _ _ _
 ·exact z2k
theorem z170{x:Option MV}{f:List MV→M FV}(k:∀a,NG (f a)):NG (zbd x f):=by
 unfold zbd;split
 ·exact k _
 ·exact z2k
theorem zfb{x:Option MV}{f:List MV→M FV}(k:∀a,NG (f a)):NG (z4s x f):=by
 unfold z4s;split
 ·exact k _
 ·exact z2k
theorem z171{x:Option MV}{f:Option Nat→M FV}(k:∀a,NG (f a)):NG (z7o x f):=by
 unfold z7o;split
 ·exact k _
 ·exact z2k
theorem z172{x:Option MV}{f:Option MA→M FV}(k:∀a,NG (f a)):NG (zd3 x f):=by
 unfold zd3;split
 ·exact k _
 ·exact z2k
theorem z19d{x:Option MV}{f:FuncId→List MV→M FV}(k:∀a b,NG (f a b)):NG (wFn x f):=by
 unfold wFn;split
 ·exact k _ _
 ·exact z2k
theorem zzw{x:Option FV}{f:Option MA→M FV}{g:Nat→Nat→M FV}(k:∀a,NG (f a))(l:∀a b,NG (g a b)):NG (z3e x f g):=by
 unfold z3e;split
 ·exact k _
 ·exact l _ _
 ·exact z2k
theorem z19e{b:Bool}{m:M FV}(k:NG m):NG (wIf b m):=by
 unfold wIf;split
 ·exact k
 ·exact z2k
theorem z141{x:Option FV}{f:FV→M FV}(k:∀v,v≠.gone→NG (f v)):NG (z9l x f):=by
 unfold z9l;split
 ·exact k _ (by simp)
 ·exact k _ (by simp)
 ·exact z2k
theorem z173{v:FV}(h:v≠.gone):NG (ret v):=fun _ V _ e=>by cases e;exact h
theorem z142{fr:Fr}{x:Option Opd}{e:Int}{f:Int→M FV}(k:∀a,NG (f a)):NG (intOf fr x e f):=by
 unfold intOf;split
 ·exact k _
 ·exact zw9 fun _ _=>k _
theorem z143{p q:Option MA}{f:Bool→M FV}(k:∀b,NG (f b)):NG (zao p q f):=by
 unfold zao;split
 ·exact k _
 ·exact z89 k
theorem z174{op:UnOp}{x:MV}{f:MV→M FV}(k:∀a,NG (f a)):NG (zdx op x f):=by
 unfold zdx;split<;>first | exact k _ | exact z2k
theorem z144{op:BinOp}{x y:MV}{f:MV→M FV}(k:∀a,NG (f a)):NG (z7n op x y f):=by
 unfold z7n;split
 ·exact zcg z2k (k _)
 ·exact zcg z2k (k _)
 ·refine zcg ?_ z2k;split<;>first | exact k _ | exact zcg z2k (k _)
 all_goals first | exact k _ | exact z143 fun _=>k _ | exact z2k
theorem z145{pv:PV}{t:Ty}{o:Nat}{f:MV→M FV}(k:∀a,NG (f a)):NG (z6l pv t o f):=by
 unfold z6l;split
 ·exact zfa k
 ·exact zcg (k _) z2k
 ·exact zcg (z89 fun _=>k _) z2k
 ·exact z89 fun _=>z89 fun _=>k _
 ·exact z89 fun _=>z89 fun _=>k _
 ·exact z89 fun _=>k _
 ·exact z2k
theorem z19f{e:Entry}{vs:List MV}{f:MV→M FV}(k:∀v,NG (f v)):NG (e.run vs f):=by
 unfold Entry.run;split
 ·exact z89 fun _=>k _
 ·exact z2k
theorem z175{e:Entry}{vs:List MV}{f:MV→M FV}(k:∀v,NG (f v)):NG (e.runz vs f):=by
 unfold Entry.runz;split
 ·exact z89 fun _=>k _
 ·exact z2k
theorem z19g{x:Ins}{d:Nat}(hd:x.val=some d)(hc:x.cls<5)(A:Fr):NG (z08 C x A tp):=by
 cases x with
 | palloc d pv=>cases hd
 | pbox d n x=>cases hd
 | store n p x=>cases hd
 | mapPut kt m k x=>cases hd
 | mapDel kt m k=>cases hd
 | mapClr m=>cases hd
 | slClr e z x=>cases hd
 | mv d x=>simp[Ins.cls]at hc
 | box d a x=>cases a<;>simp only[z08,z1f]<;>first | exact zfa fun _=>z89 fun _=>zdt _ | exact zfb fun _=>z89 fun _=>zdt _
 | boxA d b a x=>cases a<;>simp only[z08,z1f]<;>first | exact zfa fun _=>z89 fun _=>zdt _ | exact zfb fun _=>z89 fun _=>zdt _
 | fldV d' off t x=>cases t<;>simp only[z08,z1f]<;>first | exact z2k | exact zfb fun _=>zfa fun _=>zdt _ | exact zfb fun _=>zcg (zdt _) z2k
 | _=>
  simp only[z08,z1f,zjh,zfe];repeat (first
   | exact zdt _
   | exact z19b _ _
   | exact z2k
   | (exact z173 (by assumption))
   | refine zfa fun _=>?_
   | refine zw9 fun _ _=>?_
   | refine z16z fun _=>?_
   | refine z19c fun _ _ _=>?_
   | refine z170 fun _=>?_
   | refine zfb fun _=>?_
   | refine z171 fun _=>?_
   | refine z172 fun _=>?_
   | refine z19d fun _ _=>?_
   | refine z141 fun _ _=>?_
   | refine z19e ?_
   | refine z144 fun _=>?_
   | refine z174 fun _=>?_
   | refine z145 fun _=>?_
   | refine z142 fun _=>?_
   | refine z19f fun _=>?_
   | refine z175 fun _=>?_
   | refine zcg ?_ ?_
   | refine z89 fun _=>?_
   | refine zzw (fun _=>?_) (fun _ _=>?_))
/-! ### What is checked of a region -/
theorem zzx{o:Oper}{acc:List Nat}{j:Nat}(h:(zr7 o acc).testBit j=true):∃e∈o.after.toList,Region.binds .any e=true∧(j=e.on∨(acc.getD e.on 0).testBit j=true):=by
 unfold zr7 at h;generalize o.after.toList=l at h;induction l with
 | nil=>simp at h
 | cons e r ih=>
  simp only[List.foldr_cons]at h;cases hb:Region.binds .any e with
  | false=>
   rw[hb]at h;obtain⟨e',h1,h2⟩:=ih h;exact⟨e',by simp[h1],h2⟩
  | true=>
   rw[hb]at h;simp only[cond_true,Nat.testBit_or,Bool.or_eq_true]at h;rcases h with(h | h) | h
   ·obtain⟨e',h1,h2⟩:=ih h;exact⟨e',by simp[h1],h2⟩
   ·rw[Nat.one_shiftLeft,Nat.testBit_two_pow]at h;simp at h;exact⟨e,by simp,hb,.inl h.symm⟩
   ·exact⟨e,by simp,hb,.inr h⟩
def z67(L:Nat→Prop)(o:Oper):Prop:=∀e∈o.after.toList,Region.binds .any e=true→L e.on
theorem zwa{ops:List Oper}{L:Nat→Prop}(hdc:∀(i:Nat) o,ops[i]? = some o→L i→z67 L o):∀(l:List Oper)(acc:List Nat),(∀(i:Nat) o,l[i]? = some o→ops[acc.length+i]? = some o) →
  (∀(i:Nat) m o,acc[i]? = some m→ops[i]? = some o→z67 L o→∀j,m.testBit j=true→L j)→∀(i:Nat) m o,(zsi l acc)[i]? = some m→ops[i]? = some o→z67 L o→∀j,m.testBit j=true→L j
 | [],acc,_,ha=>ha
 | o::r,acc,hl,ha=>by
  refine zwa hdc r (acc++[zr7 o acc]) (fun i o' h=>?_) (fun i m o' hm ho hw j hj=>?_)
  ·have:=hl (i+1) o' (by simpa using h)
   simpa[Nat.add_assoc,Nat.add_comm 1 i]using this
  ·have h0:ops[acc.length]? = some o:=by have:=hl 0 o rfl;simpa using this
   by_cases hi:i<acc.length
   ·rw[List.getElem?_append_left hi]at hm;exact ha i m o' hm ho hw j hj
   ·have hi2:i=acc.length:=by
     have:=(List.getElem?_eq_some_iff.1 hm).1
     simp at this;omega
    subst hi2;rw[List.getElem?_append_right (Nat.le_refl _)]at hm;simp at hm;subst hm;rw[h0]at ho;cases ho;obtain⟨e,he,hb,hor⟩:=zzx hj;have hL:=hw e he hb;rcases hor with rfl | hor
    ·exact hL
    ·cases hx:acc[e.on]? with
     | none=>simp[List.getD_eq_getElem?_getD,hx]at hor
     | some m'=>
      have hlt:e.on<acc.length:=(List.getElem?_eq_some_iff.1 hx).1;have hlt2:e.on<ops.length:=Nat.lt_trans hlt (List.getElem?_eq_some_iff.1 h0).1;obtain⟨o'',ho''⟩:∃o'',ops[e.on]? = some o'':=⟨_,List.getElem?_eq_getElem hlt2⟩;refine ha e.on m' o'' hx ho'' (hdc e.on o'' ho'' hL) j ?_;simpa[List.getD_eq_getElem?_getD,hx]using hor
theorem zk9:∀(l:List Oper)(i:Nat)(ds:List DD)(ms:List Nat),zdl i l ds ms=true→∀(k:Nat) o,l[k]? = some o→∃a m,ds[k]? = some a∧ms[k]? = some m∧a.c<5∧z9c a.d a.us=false ∧
  (∀e∈o.after.toList,Region.binds .any e=true→e.on<i+k)∧∀j wt,o.guard=some (j,wt)→j<i+k∧m.testBit j=true
 | [],_,_,_,_,k,o,ho=>by simp at ho
 | o::r,i,[],_,h,_,_,_=>by simp[zdl]at h
 | o::r,i,a::ds,[],h,_,_,_=>by simp[zdl]at h
 | o::r,i,a::ds,m::ms,h,k,o',ho=>by
  simp only[zdl,Bool.and_eq_true,Bool.not_eq_true',List.all_eq_true,Bool.or_eq_true]at h;obtain⟨h1,h2,h3,h4,h5⟩:=h;cases k with
  | zero=>
   simp at ho;subst ho;refine⟨a,m,rfl,rfl,by simpa using h1,h2,fun e he hb=>?_,fun j wt hg=>?_⟩
   ·rcases h3 e he with h | h
    ·rw[hb]at h;cases h
    ·simpa using h
   ·rw[hg]at h4;simp only[Bool.and_eq_true]at h4;exact⟨by simpa using h4.1,h4.2⟩
  | succ k=>
   obtain⟨a',m',g1,g2,g3,g4,g5,g6⟩:=zk9 r (i+1) ds ms h5 k o' (by simpa using ho);refine⟨a',m',by simpa using g1,by simpa using g2,g3,g4,fun e he hb=>?_,fun j wt hg=>?_⟩
   ·have:=g5 e he hb;omega
   ·have:=g6 j wt hg;exact⟨by omega,this.2⟩
theorem zly{a:DD}{i:Nat}:∀(r:List DD)(ms:List Nat),zhy a i r ms=true→∀(k:Nat) b m,r[k]? = some b→ms[k]? = some m→zr8 a.d b.d=false∧(zek a b=true→m.testBit i=true)
 | [],_,_,k,b,m,hb,_=>by simp at hb
 | _::_,[],h,_,_,_,_,_=>by simp[zhy]at h
 | b::r,m::ms,h,k,b',m',hb,hm=>by
  simp only[zhy,Bool.and_eq_true,Bool.not_eq_true',Bool.or_eq_true]at h;cases k with
  | zero=>
   simp at hb hm;subst hb;subst hm;refine⟨h.1,fun hc=>?_⟩;rcases h.2.1 with h1 | h1
   ·rw[hc]at h1;cases h1
   ·exact h1
  | succ k=>exact zly r ms h.2.2 k b' m' (by simpa using hb) (by simpa using hm)
theorem zc0:∀(ds:List DD)(i:Nat)(ms:List Nat),zfj i ds ms=true→∀(k k':Nat) a b m,k<k'→ds[k]? = some a→ds[k']? = some b→ms[k']? = some m→zr8 a.d b.d=false∧(zek a b=true→m.testBit (i+k)=true)
 | [],_,_,_,k,k',a,b,m,_,ha,_,_=>by simp at ha
 | _::_,_,[],h,_,_,_,_,_,_,_,_,_=>by simp[zfj]at h
 | a::r,i,m0::ms,h,k,k',a',b,m,hlt,ha,hb,hm=>by
  simp only[zfj,Bool.and_eq_true]at h;cases k' with
  | zero=>omega
  | succ k'=>
   cases k with
   | zero=>
    simp at ha;subst ha;exact zly r ms h.1 k' b m (by simpa using hb) (by simpa using hm)
   | succ k=>
    have:=zc0 r (i+1) ms h.2 k k' a' b m (by omega) (by simpa using ha) (by simpa using hb) (by simpa using hm)
    refine⟨this.1,fun hc=>?_⟩;have h2:=this.2 hc;rwa [show i+1+k=i+(k+1) by omega]at h2
section
variable{P:Program}{priv pu:List Nat}{ntmps:Nat}{w:Z}{ops:Array Oper}
theorem zhq{o:Oper}{x:Ins}(hx:z0s P priv o=some x):z14 P w priv o=bif z4a (z0w w x).opds then⟨(z0w w x).cls,zbb (z0w w x).opds,o.dst,(z0w w x).pl,(z0w w x).lv⟩else⟨9,[],none,none,false⟩:=by
 obtain⟨dst,op,type,pos,after,guard⟩:=o;unfold z14;split
 ·rename_i hop;have hop':op=_:=hop;subst hop';cases dst<;>cases hx
 ·rename_i hop;have hop':op=_:=hop;subst hop';cases dst<;>cases hx
 ·rw[hx]
theorem zhr{o:Oper}{wt:Bool}{gs n d:Nat}(h:zhx o wt gs=some (n,d)):z14 P w priv o=⟨0,[gs,n],o.dst,none,false⟩:=by
 obtain⟨_,⟨_,hop⟩ | ⟨_,hop⟩⟩:=z5u h
 ·unfold z14;rw[hop]
 ·unfold z14;rw[hop]
theorem zfc{o:Oper}(h:(z14 P w priv o).c<5):(z14 P w priv o).d=o.dst:=by
 unfold z14 at h ⊢;split
 ·rfl
 ·rfl
 ·rename_i h1 h2;split at h
  ·rename_i hop;exact absurd hop (h1 _ _)
  ·rename_i hop;exact absurd hop (h2 _ _)
  ·split
   ·rename_i x hx;rw[hx]at h;dsimp only at h;cases hp:z4a (z0w w x).opds with
    | true=>rfl
    | false=>rw[hp]at h;simp at h
   ·rename_i hx;rw[hx]at h;simp at h
def PlT(o:Option Opd)(x:Opd):Prop:=o=some x∨(o=none∧x=tt)
structure Facts(P:Program)(w:Z)(priv:List Nat)(ops:Array Oper):Prop where
 cls:∀(i:Nat) o,ops[i]? = some o→(z14 P w priv o).c<5
 own:∀(i:Nat) o d,ops[i]? = some o→o.dst=some d→d ∉ (z14 P w priv o).us
 aft:∀(i:Nat) o,ops[i]? = some o→z67 (· < i) o
 grd:∀(i:Nat) o j wt,ops[i]? = some o→o.guard=some (j,wt)→j<i∧∀L:Nat→Prop,(∀(i:Nat) o,ops[i]? = some o→L i→z67 L o)→z67 L o→L j
 dis:∀(i j:Nat) oi oj d,i<j→ops[i]? = some oi→ops[j]? = some oj→oi.dst=some d→oj.dst≠some d
 clh:∀(i j:Nat) oi oj,i<j→ops[i]? = some oi→ops[j]? = some oj→zek (z14 P w priv oi) (z14 P w priv oj)=true→∀L:Nat→Prop,(∀(i:Nat) o,ops[i]? = some o→L i→z67 L o)→z67 L oj→L i
 fok:∀(i:Nat) o x,ops[i]? = some o→z0s P priv o=some x→zfk (z0w w x)=true
 apt:∀(i j:Nat) oi oj,i<j→ops[i]? = some oi→ops[j]? = some oj→zc1 (z14 P w priv oi) (z14 P w priv oj)=true →
  (∀L:Nat→Prop,(∀(i:Nat) o,ops[i]? = some o→L i→z67 L o)→z67 L oj→L i)∨∃x y,PlT (z14 P w priv oi).pl x∧PlT (z14 P w priv oj).pl y∧(x,y)∈z69 P w priv ops
 late:z69 P w priv ops≠[]→∀(i j:Nat) oi oj d,i<j→ops[i]? = some oi→ops[j]? = some oj→oj.dst=some d→d ∉ (z14 P w priv oi).us
theorem zp4{a:DD}{i:Nat}:∀{r:List DD}{ms:List Nat}{k:Nat}{b:DD}{m:Nat}{p:Opd×Opd},r[k]? = some b→ms[k]? = some m→zc1 a b=true→m.testBit i=false→zjk a b=some p→p∈zgg a i r ms
 | [],_,k,b,m,p,h,_,_,_,_=>by simp at h
 | _::_,[],k,b,m,p,_,h,_,_,_=>by simp at h
 | b0::r,m0::ms,0,b,m,p,h1,h2,h3,h4,h5=>by
  simp at h1 h2;subst h1;subst h2;simp only[zgg,h3,h4,h5,Bool.not_false,Bool.and_self,cond_true];simp
 | b0::r,m0::ms,k+1,b,m,p,h1,h2,h3,h4,h5=>by
  have ih:=zp4 (r:=r) (ms:=ms) (k:=k) (by simpa using h1) (by simpa using h2) h3 h4 h5;simp only[zgg];cases (zc1 a b0 && !m0.testBit i)with
  | false=>exact ih
  | true=>
   simp only[cond_true];split
   ·exact List.mem_cons_of_mem _ ih
   ·exact ih
theorem zp5:∀{ds:List DD}{n:Nat}{ms:List Nat}{i j:Nat}{a b:DD}{m:Nat}{p:Opd×Opd},i<j→ds[i]? = some a→ds[j]? = some b→ms[j]? = some m→zc1 a b=true→m.testBit (n+i)=false→zjk a b=some p→p∈zjl n ds ms
 | [],_,_,i,_,_,_,_,_,_,h,_,_,_,_,_=>by simp at h
 | a0::r,n,[],i,j,a,b,m,p,_,_,_,h,_,_,_=>by simp at h
 | a0::r,n,m0::ms,i,j,a,b,m,p,hij,h1,h2,h3,h4,h5,h6=>by
  simp only[zjl,List.mem_append];cases j with
  | zero=>omega
  | succ j=>
   cases i with
   | zero=>
    simp at h1;subst h1;exact .inl (zp4 (k:=j) (by simpa using h2) (by simpa using h3) h4 (by simpa using h5) h6)
   | succ i=>exact .inr (zp5 (i:=i) (j:=j) (by omega) (by simpa using h1) (by simpa using h2) (by simpa using h3) h4 (by rw[show n+1+i=n+(i+1) by omega];exact h5) h6)
theorem zlz:∀{ds:List DD}{i j:Nat}{a b:DD},zhz ds=true→i<j→ds[i]? = some a→ds[j]? = some b→z9c b.d a.us=false
 | [],i,_,_,_,_,_,h,_=>by simp at h
 | a0::r,i,j,a,b,h,hij,h1,h2=>by
  simp only[zhz,Bool.and_eq_true]at h;cases j with
  | zero=>omega
  | succ j=>
   cases i with
   | zero=>
    simp at h1;subst h1;have:=List.all_eq_true.1 h.1 b (List.mem_of_getElem? (by simpa using h2:r[j]? = some b))
    simpa using this
   | succ i=>exact zlz (i:=i) (j:=j) h.2 (by omega) (by simpa using h1) (by simpa using h2)
theorem z146{l:List Item}(h:zck P w priv ops l=true):Facts P w priv ops∧P.follows .mixedOrders=true∧∀(i:Nat) o d,ops[i]? = some o→o.dst=some d→d∈z0m l:=by
 simp only[zck,Bool.and_eq_true]at h;obtain⟨h1,h2,h3,h4,h5,h6⟩:=h;have hds:∀(k:Nat) o,ops[k]? = some o→(ops.toList.map (z14 P w priv))[k]? = some (z14 P w priv o):=fun k o ho=>by
  rw[List.getElem?_map];have:ops.toList[k]? = some o:=by simpa using ho
  rw[this];rfl
 have get:=fun(k:Nat) o(ho:ops[k]? = some o)=>zk9 _ _ _ _ h3 k o (by simpa using ho);have mask:∀(i:Nat) m o,(zsi ops.toList [])[i]? = some m→ops[i]? = some o→∀L:Nat→Prop,(∀(i:Nat) o,ops[i]? = some o→L i→z67 L o)→z67 L o→∀j,m.testBit j=true→L j:=by
  intro i m o hm ho L hdc hw j hj;exact zwa (ops:=ops.toList) (fun i o h=>hdc i o (by simpa using h)) ops.toList [] (by simp) (by simp) i m o hm (by simpa using ho) hw j hj
 refine⟨⟨?_,?_,?_,?_,?_,?_,?_,?_,?_⟩,h1,?_⟩
 ·intro i o ho;obtain⟨a,m,g1,_,g3,_⟩:=get i o ho;rw[hds i o ho]at g1;cases g1;exact g3
 ·intro i o d ho hd;obtain⟨a,m,g1,_,g3,g4,_⟩:=get i o ho;rw[hds i o ho]at g1;cases g1;rw[zfc g3,hd]at g4;intro c;have:=(mem_iff _ _).2 c
  simp only[z9c]at g4;rw[this]at g4;cases g4
 ·intro i o ho e he hb;obtain⟨a,m,_,_,_,_,g5,_⟩:=get i o ho;have:=g5 e he hb
  show e.on<i;omega
 ·intro i o j wt ho hg;obtain⟨a,m,_,g2,_,_,_,g6⟩:=get i o ho;have:=g6 j wt hg
  exact⟨by omega,fun L hdc hw=>mask i m o g2 ho L hdc hw j this.2⟩
 ·intro i j oi oj d hlt hi hj hdi hdj;obtain⟨_,m,g1,g2,g3,_⟩:=get j oj hj;obtain⟨_,_,g4,_,g5,_⟩:=get i oi hi;rw[hds j oj hj]at g1;cases g1;rw[hds i oi hi]at g4;cases g4;have:=(zc0 _ _ _ h4 i j _ _ m hlt (hds i oi hi) (hds j oj hj) g2).1
  rw[zfc g3,zfc g5,hdi,hdj]at this;simp[zr8]at this
 ·intro i j oi oj hlt hi hj hcl L hdc hw;obtain⟨_,m,_,g2,_⟩:=get j oj hj;have:=(zc0 _ _ _ h4 i j _ _ m hlt (hds i oi hi) (hds j oj hj) g2).2 hcl
  rw[Nat.zero_add]at this;exact mask j m oj g2 hj L hdc hw i this
 ·intro i o x ho hx;have:=List.all_eq_true.1 h5 o (by
   have:ops.toList[i]? = some o:=by simpa using ho
   exact List.mem_of_getElem? this)
  rw[hx]at this;exact this
 ·intro i j oi oj hlt hi hj hm;obtain⟨_,m,_,g2,_⟩:=get j oj hj;cases hb:m.testBit i with
  | true=>exact .inl fun L hdc hw=>mask j m oj g2 hj L hdc hw i hb
  | false=>
   cases ha:zjk (z14 P w priv oi) (z14 P w priv oj)with
   | none=>
    have:=(zc0 _ _ _ h4 i j _ _ m hlt (hds i oi hi) (hds j oj hj) g2).2 (by
     unfold zek;rw[hm,ha];simp[isSome])
    rw[Nat.zero_add,hb]at this;cases this
   | some p=>
    refine .inr ?_;have hmem:p∈z69 P w priv ops:=zp5 hlt (hds i oi hi) (hds j oj hj) g2 hm (by rw[Nat.zero_add];exact hb) ha;unfold zjk at ha;split at ha
    ·rename_i x y hx hy;cases ha;exact⟨x,y,.inl hx,.inl hy,hmem⟩
    ·rename_i x hx hy;cases ha;exact⟨x,tt,.inl hx,.inr ⟨hy,rfl⟩,hmem⟩
    ·rename_i y hx hy;cases ha;exact⟨tt,y,.inr ⟨hx,rfl⟩,.inl hy,hmem⟩
    ·cases ha
 ·intro hne i j oi oj d hlt hi hj hd hc;have hl:zhz (ops.toList.map (z14 P w priv))=true:=by
   simp only[Bool.or_eq_true]at h6;refine h6.resolve_left fun c=>hne ?_;unfold z69;generalize zjl 0 _ _=q at c;cases q with
   | nil=>rfl
   | cons=>cases c
  have:=zlz hl hlt (hds i oi hi) (hds j oj hj)
  obtain⟨_,_,g1,_,g3,_⟩:=get j oj hj;rw[hds j oj hj]at g1;cases g1;rw[zfc g3,hd]at this;simp only[z9c]at this;rw[(mem_iff _ _).2 hc]at this;cases this
 ·intro i o d ho hd;have:=List.all_eq_true.1 h2 o (by
   have:ops.toList[i]? = some o:=by simpa using ho
   exact List.mem_of_getElem? this)
  rw[hd]at this;exact(mem_iff _ _).1 this
/-! ### What one operation turns,in the text's order -/
theorem zru{i:Nat}{S S':TS}(h:zf0 P priv ntmps w ops C i S S'){o:Oper}(ho:ops[i]? = some o):∀x,o.dst≠some x→S'.W x=S.W x:=by
 obtain⟨o',ho',h⟩:=h;rw[ho]at ho';cases ho';intro x hx;rcases h with⟨_,rfl⟩ | ⟨_,y,A,h',_,_,_,⟨d,V,_,hd,_,rfl⟩ | ⟨_,_,A',u,_,_,rfl⟩⟩ | ⟨_,wt,gs,n,d,b,z,hp,_,_,_,_,rfl⟩
 ·show z3g S.W o.dst none x=S.W x;unfold z3g;rw[if_neg hx]
 ·exact zog _ _ (fun c=>hx (by rw[hd,c]))
 ·rfl
 ·exact zog _ _ (fun c=>hx (by rw[(z5u hp).1,c]))
theorem zaj{o:Oper}{y:Ins}(hy:z0s P priv o=some y)(hcl:(z14 P w priv o).c<5):(z14 P w priv o).c=(z0w w y).cls∧(z14 P w priv o).pl=(z0w w y).pl∧(z14 P w priv o).lv=(z0w w y).lv:=by
 have hdd:=zhq (w:=w) hy;cases hp:z4a (z0w w y).opds with
 | false=>rw[hp]at hdd;rw[hdd]at hcl;simp at hcl
 | true=>rw[hp]at hdd;rw[hdd];exact⟨rfl,rfl,rfl⟩
def valW(W:Nat→Option FV):Opd→Option FV
 | .t n=>W n
 | .c v=>some (.v v)
 | .gl _=>none
 | .fn f=>some (.v (.fn f []))
theorem Txt.valW{B:Nat}{fr:Fr}{S:TS}(tx:Txt B fr S){p:Opd}{v:FV}(h:p.val fr=some v)(hv:v≠.gone):valW S.W p=some v:=by
 cases p with
 | t n=>exact(tx.v n v h).resolve_left hv
 | c u=>exact h
 | gl g=>cases h
 | fn f=>exact h
theorem z176{n:Option Nat}{p x:Opd}{A A':Fr}{h h':Hp}(e:z08 C (.store n p x) A ret h=some (A',h')):(∃u,p.val A=some (.v u)∧A'=A)∨∃s o pv,p.val A=some (.loc s o)∧A'=A.pset s pv∧h'=h:=by
 have fin:∀{s o:Nat}{v:MV},z19 (z0g A.p s) (fun pv=>wIf pv.2 (pstore pv.1 n o v fun pv'=>ret (A.pset s pv'))) h=some (A',h')→∃pv,A'=A.pset s pv∧h'=h:=by
  intro s o v e;obtain⟨pv,hl,e1⟩:=z0i e;obtain⟨hb,e2⟩:=z2u e1;have h2:=z9z pv.1 n o v ret (fun pv'=>ret (A.pset s pv'));simp only[bd_ret]at h2;rw[←h2]at e2;obtain⟨pv',h3,e3,e4⟩:=z0f e2;cases e4;have hpu:Pu (pstore pv.1 n o v (ret:PV→M PV)):=by
   unfold pstore;split
   ·exact z2q (z1p _) z0z
   ·exact z2q (z1p _) z0z
   ·exact z2q (z3q (z2q (z1p _) z0z) fun _=>z1p _) z0z
   ·exact z3q (z2q (z1p _) z0z) fun _=>z1p _
   ·exact z3q (z2q (z1p _) z0z) fun _=>z1p _
   ·exact z0z
  exact⟨pv',rfl,(hpu _ _ _ e3).1⟩
 cases n with
 | none=>
  simp only[z08]at e;rcases z2f e with⟨q,hv,e1⟩ | ⟨s,o,hv,e1⟩
  ·obtain⟨v,_,e2⟩:=z0i e1;obtain⟨_,h1,_,e3⟩:=z0f e2;cases e3;exact .inl ⟨_,hv,rfl⟩
  ·obtain⟨pv,hl,e2⟩:=z0i e1;obtain⟨hb,e3⟩:=z2u e2;obtain⟨v,_,e4⟩:=z0i e3;obtain⟨pv',h1,h2⟩:=fin (s:=s) (o:=o) (v:=v) (by rw[hl];simp only[z19,wIf,hb,e4]);exact .inr ⟨s,o,pv',hv,h1,h2⟩
 | some n=>
  simp only[z08]at e;rcases z2f e with⟨q,hv,e1⟩ | ⟨s,o,hv,e1⟩
  ·obtain⟨v,_,e2⟩:=z2t e1;obtain⟨_,h1,_,e3⟩:=z0f e2;cases e3;exact .inl ⟨_,hv,rfl⟩
  ·obtain⟨pv,hl,e2⟩:=z0i e1;obtain⟨hb,e3⟩:=z2u e2;obtain⟨v,_,e4⟩:=z0i e3;obtain⟨pv',h1,h2⟩:=fin (s:=s) (o:=o) (v:=v) (by rw[hl];simp only[z19,wIf,hb,e4]);exact .inr ⟨s,o,pv',hv,h1,h2⟩
theorem z147{p:List (Nat×PV×Bool)}{u:Option (Nat×PV)}(h:z7q p u=p):u=none:=by
 cases u with
 | none=>rfl
 | some y=>
  have:=congrArg List.length h
  simp[z7q]at this
theorem zfd(F:Facts P w priv ops){i:Nat}{S S':TS}(h:zf0 P priv ntmps w ops C i S S'){o:Oper}(ho:ops[i]? = some o) :
  ((z14 P w priv o).c<2→S'.h=S.h∧S'.p=S.p) ∧
  ((z14 P w priv o).c=2→S'.p=S.p∧(S'.h=S.h∨∃x b blk,z0s P priv o=some x∧(z0w w x).fb=some b∧z6f blk∧S.h.get b=.dead∧b<S.h.size∧S'.h=S.h.set b blk)) ∧
  ((z14 P w priv o).c=3→z4g S.h S'.h∧S'.p=S.p) ∧
  ((z14 P w priv o).c=4→(z14 P w priv o).pl=none→S'.p=S.p) ∧
  ∀p,(z14 P w priv o).c=4→(z14 P w priv o).pl=some p→(S'.h=S.h∧S'.p=S.p) ∨
   (∃u,valW S.W p=some (.v u)∧S'.p=S.p∧S.h.size≤S'.h.size∧∀b,b<S.h.size→z7p u≠some b→S'.h.get b=S.h.get b) ∨
   ∃s o pv,valW S.W p=some (.loc s o)∧S'.h=S.h∧S'.p=(s,pv,true)::S.p:=by
 obtain⟨o',ho',h⟩:=h;rw[ho]at ho';cases ho';have hcl:=F.cls i o ho;rcases h with⟨_,rfl⟩ | ⟨_,y,A,h',hy,_,tx,⟨d,V,hv,hd,e,rfl⟩ | ⟨hn,_,A',u,e,hA,rfl⟩⟩ | ⟨_,wt,gs,n,d,b,z,hp,_,_,_,_,rfl⟩
 ·exact⟨fun _=>⟨rfl,rfl⟩,fun _=>⟨rfl,.inl rfl⟩,fun _=>⟨z4g.refl _,rfl⟩,fun _ _=>rfl,fun _ _ _ =>.inl ⟨rfl,rfl⟩⟩
 ·obtain⟨hc,hpl,_⟩:=zaj (w:=w) hy hcl;rw[hc,hpl];refine⟨fun h2=>⟨(z112 hv h2 A _ _ _ e).1,rfl⟩,fun h2=>⟨rfl,.inr ?_⟩,fun h3=>⟨z1a0 hv h3 A _ _ _ e,rfl⟩,fun _ _=>rfl,fun p h4 hp=>?_⟩
  ·obtain⟨b,hb,k⟩:=zrx (C:=C) h2 A;obtain⟨blk,k1,k2,k3,k4,_⟩:=k _ _ _ e;exact⟨y,b,blk,hy,hb,k1,k3,k4,k2⟩
  ·have e2:z08 C (z0w w y) A ret S.h=some (A.setF d V,h'):=by
    rw[zci hv];simp only[bd,e];rfl
   obtain⟨g1,g2⟩:=z102 h4 hp e2;have hu:∃u,p.val A=some (.v u):=by
    revert hp h4 hv e2;generalize z0w w y=q;intro hv h4 hp e2;cases q<;>first | (simp[Ins.cls]at h4;done) | (simp[Ins.pl]at hp;done) | (cases hv;done) | skip
    all_goals
     cases hp;simp only[z08]at e2;first
      | exact Exists.elim (z31 e2) fun r hr=>⟨_,Opd.mv_val hr.1⟩
      | exact Exists.elim (z2b e2) fun r hr=>Exists.elim hr fun l hl=>Exists.elim hl fun z hz=>⟨_,Opd.mv_val hz.1⟩
   obtain⟨u,hu⟩:=hu;refine .inr (.inl ⟨u,tx.valW hu (by simp),rfl,g1,fun b hb hne=>g2 b hb ?_⟩);simpa only[z4w,zcm hu]using hne
 ·obtain⟨hc,hpl,_⟩:=zaj (w:=w) hy hcl;have hc3:(z0w w y).cls=4:=by
   generalize z0w w y=q at hn;cases q<;>first | rfl | cases hn
  rw[hc,hc3,hpl];refine⟨fun c=>by omega,fun c=>by omega,fun c=>by omega,fun _ hp=>?_,fun p _ hp=>?_⟩
  ·exfalso;revert hp hn;generalize z0w w y=q;intro hn hp;cases q<;>first | (cases hn;done) | (cases hp;done)
  obtain⟨g1,g2⟩:=z102 hc3 hp e;have fin:∀u',p.val A=some (.v u')→A'=A→(S.h.size≤h'.size∧∀b,b<S.h.size→z7p u'≠some b→h'.get b=S.h.get b)∧u=none:=by
   intro u' hu hAA;refine⟨⟨g1,fun b hb hne=>g2 b hb (by simpa only[z4w,zcm hu]using hne)⟩,?_⟩;rw[hA]at hAA;exact z147 (congrArg Fr.p hAA)
  revert hp e hn;generalize z0w w y=q;intro hn e hp;cases q with
  | store n' p' x'=>
   cases hp;rcases z176 e with⟨u',hu,hAA⟩ | ⟨s,o,pv,hl,hAA,hh⟩
   ·obtain⟨⟨k1,k2⟩,rfl⟩:=fin u' hu hAA;exact .inr (.inl ⟨u',tx.valW hu (by simp),rfl,k1,k2⟩)
   ·refine .inr (.inr ⟨s,o,pv,tx.valW hl (by simp),hh,?_⟩);rw[hA]at hAA;have h6:z7q A.p u=(s,pv,true)::A.p:=congrArg Fr.p hAA;cases u with
    | none=>
     have:=congrArg List.length h6
     simp[z7q]at this
    | some z=>
     obtain⟨n'',pv''⟩:=z;simp only[z7q,List.cons.injEq,Prod.mk.injEq,and_true]at h6;show(n'',pv'',true)::S.p=_;rw[h6.1,h6.2]
  | mapPut kt m kk x'=>
   cases hp;have hAA:A'=A∧∃r,p.mv A=some (.map r):=by
    simp only[z08]at e;obtain⟨r,hm,e1⟩:=z31 e;obtain⟨_,_,e2⟩:=z0i e1;obtain⟨_,_,e3⟩:=z0i e2;obtain⟨_,e4⟩:=z2u e3;obtain⟨_,h1,_,e5⟩:=z0f e4;cases e5;exact⟨rfl,r,hm⟩
   obtain⟨hAA,r,hm⟩:=hAA;obtain⟨⟨k1,k2⟩,rfl⟩:=fin _ (Opd.mv_val hm) hAA;exact .inr (.inl ⟨_,tx.valW (Opd.mv_val hm) (by simp),rfl,k1,k2⟩)
  | mapDel kt m kk=>
   cases hp;have hAA:A'=A∧∃r,p.mv A=some (.map r):=by
    simp only[z08]at e;obtain⟨r,hm,e1⟩:=z31 e;obtain⟨_,_,e2⟩:=z0i e1;obtain⟨_,e4⟩:=z2u e2;obtain⟨_,h1,_,e5⟩:=z0f e4;cases e5;exact⟨rfl,r,hm⟩
   obtain⟨hAA,r,hm⟩:=hAA;obtain⟨⟨k1,k2⟩,rfl⟩:=fin _ (Opd.mv_val hm) hAA;exact .inr (.inl ⟨_,tx.valW (Opd.mv_val hm) (by simp),rfl,k1,k2⟩)
  | mapClr m=>
   cases hp;have hAA:A'=A∧∃r,p.mv A=some (.map r):=by
    simp only[z08]at e;obtain⟨r,hm,e1⟩:=z31 e;obtain⟨_,h1,_,e5⟩:=z0f e1;cases e5;exact⟨rfl,r,hm⟩
   obtain⟨hAA,r,hm⟩:=hAA;obtain⟨⟨k1,k2⟩,rfl⟩:=fin _ (Opd.mv_val hm) hAA;exact .inr (.inl ⟨_,tx.valW (Opd.mv_val hm) (by simp),rfl,k1,k2⟩)
  | slClr el z x'=>
   cases hp;have hAA:A'=A∧∃q l z',p.mv A=some (.sl q l z'):=by
    simp only[z08]at e;obtain⟨q,l,z',hm,e1⟩:=z2b e;obtain⟨_,h1,_,e5⟩:=z0f e1;cases e5;exact⟨rfl,q,l,z',hm⟩
   obtain⟨hAA,q,l,z',hm⟩:=hAA;obtain⟨⟨k1,k2⟩,rfl⟩:=fin _ (Opd.mv_val hm) hAA;exact .inr (.inl ⟨_,tx.valW (Opd.mv_val hm) (by simp),rfl,k1,k2⟩)
  | _=>cases hn
 ·have:=zhr (P:=P) (w:=w) (priv:=priv) hp
  refine⟨fun _=>⟨rfl,rfl⟩,fun _=>⟨rfl,.inl rfl⟩,fun _=>⟨z4g.refl _,rfl⟩,fun _ _=>rfl,fun _ _ _ =>.inl ⟨rfl,rfl⟩⟩
end
end
end Go.Mini
