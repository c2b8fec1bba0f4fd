/- Regions whose order is drawn: what fills a block that was held, and what changes one. -/
import Derived.Test.YtfieiaijdalkbaaGreatMX
namespace Go.Mini
universe u
section
variable{α β γ:Type}
def Fl(b:Nat)(m:M α):Prop:=∀h a h',m h=some (a,h')→∃blk:Blk,z6f blk∧h'=h.set b blk∧h.get b=.dead∧b<h.size∧∀h2:Hp,h2.get b=.dead→b<h2.size→m h2=some (a,h2.set b blk)
theorem zb7(b:Nat):Fl b (z0h:M α):=fun h a h' e=>by cases e
theorem zhs{b:Nat}{blk:Blk}(hb:z6f blk)(a:α):Fl b (bd (zc2 b blk) fun _=>ret a):=by
 intro h x h' e;obtain⟨_,h1,e1,e2⟩:=z0f e;cases e2;unfold zc2 at e1;split at e1
 ·rename_i hd;split at e1
  ·rename_i hl;cases e1;refine⟨blk,hb,rfl,hd,hl,fun h2 k1 k2=>?_⟩;unfold bd zc2;rw[k1];simp only[k2,if_true];rfl
  ·cases e1
 ·cases e1
theorem zg8{b:Nat}{m:M α}{f:α→M β}(k:Fl b m)(kf:∀a,Pu (f a)):Fl b (bd m f):=fun h x h' e=>by
 obtain⟨a,h1,e1,e2⟩:=z0f e;obtain⟨blk,k1,k2,k3,k4,k5⟩:=k _ _ _ e1;obtain⟨rfl,k6⟩:=kf a _ _ _ e2;exact⟨blk,k1,k2,k3,k4,fun h2 g1 g2=>by simp only[bd,k5 h2 g1 g2];exact k6 _⟩
theorem zrv{b:Nat}{c:Prop}[Decidable c]{m n:M α}(k:Fl b m)(l:Fl b n):Fl b (if c then m else n):=by
 split
 ·exact k
 ·exact l
theorem zo5{b:Nat}{ε:Type u}{x:Option ε}{f:ε→M β}(k:∀v,Fl b (f v)):Fl b (z19 x f):=by
 cases x with
 | none=>exact zb7 b
 | some v=>exact k v
theorem zwb{b:Nat}{x:Option MV}{f:IntKind→Int→M β}(k:∀a c,Fl b (f a c)):Fl b (z3o x f):=by
 unfold z3o;split
 ·exact k _ _
 ·exact zb7 b
theorem z177{b:Nat}{x:Option MV}{f:List UInt8→M β}(k:∀a,Fl b (f a)):Fl b (z58 x f):=by
 unfold z58;split
 ·exact k _
 ·exact zb7 b
theorem z178{b:Nat}{x:Option MV}{f:List MV→M β}(k:∀a,Fl b (f a)):Fl b (z4s x f):=by
 unfold z4s;split
 ·exact k _
 ·exact zb7 b
theorem zg9(b:Nat)(cs:List MV):Fl b (zfo b cs):=zhs (by simp[z6f]) _
theorem zv1(b:Nat)(v:MV):Fl b (zkz b v):=zrv (zhs (by simp[z6f]) _) (zb7 b)
theorem zxq(b:Nat):Fl b (zwl b):=zhs (by simp[z6f]) _
theorem zzy(b e n:Nat)(z:List MV)(l c:Int):Fl b (zsl b e n z l c):=zrv (zhs (by simp[z6f]) _) (zb7 b)
theorem zrw(b:Nat)(s:List UInt8):Fl b (zi2 b s):=zrv (zhs (by simp[z6f]) _) (zb7 b)
def Ins.fb:Ins→Option Nat
 | .allocA _ b _ | .boxA _ b _ _ | .bsliceA _ b _ _ _ _ | .mkSlA _ b _ _ _ _ _ | .toBytesA _ b _ | .mkMapA _ b=>some b
 | _=>none
variable{C:List (Nat×Entry)}
theorem zrx{x:Ins}(hc:x.cls=2)(A:Fr):∃b,x.fb=some b∧Fl b (z08 C x A tp):=by
 cases x with
 | allocA d b z=>exact⟨b,rfl,zg8 (zg9 b z) fun _=>z1p _⟩
 | boxA d b a x=>
  refine⟨b,rfl,?_⟩;cases a<;>simp only[z08,z1f]
  ·exact zo5 fun _=>zg8 (zv1 _ _) fun _=>z1p _
  ·exact z178 fun _=>zg8 (zg9 _ _) fun _=>z1p _
 | bsliceA d b e len z parts=>exact⟨b,rfl,zo5 fun _=>zo5 fun _=>zg8 (zg9 b _) fun _=>z1p _⟩
 | mkSlA d b e bytes z len cap=>exact⟨b,rfl,zwb fun _ _=>zwb fun _ _=>zg8 (zzy _ _ _ _ _ _) fun _=>z1p _⟩
 | toBytesA d b x=>exact⟨b,rfl,z177 fun _=>zg8 (zrw _ _) fun _=>z1p _⟩
 | mkMapA d b=>exact⟨b,rfl,zg8 (zxq b) fun _=>z1p _⟩
 | _=>simp[Ins.cls]at hc
def Ch(ob:Option Nat)(m:M α):Prop:=∀h a h',m h=some (a,h')→h.size≤h'.size∧∀b,b<h.size→ob≠some b→h'.get b=h.get b
theorem z4v(ob:Option Nat):Ch ob (z0h:M α):=fun h a h' e=>by cases e
theorem ch_ret(ob:Option Nat)(a:α):Ch ob (ret a):=fun h x h' e=>by cases e;exact⟨Nat.le_refl _,fun _ _ _=>rfl⟩
theorem z68{ob:Option Nat}{m:M α}{f:α→M β}(k:Ch ob m)(kf:∀a,Ch ob (f a)):Ch ob (bd m f):=fun h x h' e=>by
 obtain⟨a,h1,e1,e2⟩:=z0f e;obtain⟨k1,k2⟩:=k _ _ _ e1;obtain⟨k3,k4⟩:=kf a _ _ _ e2;exact⟨Nat.le_trans k1 k3,fun b hb hn=>(k4 b (Nat.lt_of_lt_of_le hb k1) hn).trans (k2 b hb hn)⟩
theorem z61{ob:Option Nat}{c:Prop}[Decidable c]{m n:M α}(k:Ch ob m)(l:Ch ob n):Ch ob (if c then m else n):=by
 split
 ·exact k
 ·exact l
theorem Pu.ch{ob:Option Nat}{m:M α}(k:Pu m):Ch ob m:=fun h a h' e=>by
 obtain⟨rfl,_⟩:=k _ _ _ e;exact⟨Nat.le_refl _,fun _ _ _=>rfl⟩
theorem Rd.ch{T:Nat→Prop}{ob:Option Nat}{m:M α}(k:Rd T m):Ch ob m:=fun h a h' e=>by
 obtain⟨rfl,_⟩:=k _ _ _ e;exact⟨Nat.le_refl _,fun _ _ _=>rfl⟩
theorem zch{h:Hp}{a:MA}{x:Blk}:h.size≤(h.set a.blk x).size∧∀b,b<h.size→some a.blk≠some b→(h.set a.blk x).get b=h.get b:=
 ⟨Nat.le_refl _,fun b _ hn=>by rw[Hp.get_set,if_neg (fun c=>hn (by rw[c]))]⟩
theorem z19h(q:Option MA)(v:MV):Ch (q.map MA.blk) (stc q v):=by
 intro h a h' e;unfold stc at e;cases q with
 | none=>cases e
 | some q=>
  dsimp only at e;split at e
  ·split at e
   ·cases e;exact zch
   ·cases e
  ·cases e
theorem zm0(n:Nat)(q:Option MA)(v:List MV):Ch (q.map MA.blk) (stn n q v):=by
 intro h a h' e;unfold stn at e;cases q with
 | none=>cases e
 | some q=>
  dsimp only at e;split at e
  ·split at e
   ·cases e;exact zch
   ·cases e
  ·cases e
theorem zzz(r:Option Nat)(k v:MV):Ch r (mapPut r k v):=by
 intro h a h' e;unfold mapPut at e;cases r with
 | none=>cases e
 | some q=>
  dsimp only at e;split at e
  ·split at e
   ·cases e;exact zch (a:=⟨q,0⟩)
   ·cases e;exact zch (a:=⟨q,0⟩)
   ·cases e
  ·cases e
theorem z100(r:Option Nat)(k:MV):Ch r (mapDel r k):=by
 intro h a h' e;unfold mapDel at e;cases r with
 | none=>cases e;exact⟨Nat.le_refl _,fun _ _ _=>rfl⟩
 | some q=>
  dsimp only at e;split at e
  ·split at e
   ·cases e;exact zch (a:=⟨q,0⟩)
   ·cases e;exact⟨Nat.le_refl _,fun _ _ _=>rfl⟩
   ·cases e
  ·cases e
theorem z148(e:Nat)(z:List MV)(s:Sl):Ch (s.p.map MA.blk) (slClr e z s):=by
 unfold slClr;exact z61 (ch_ret _ _) (zm0 _ _ _)
theorem z101(r:Option Nat):Ch r (mapClr r):=by
 intro h a h' e;unfold mapClr at e;cases r with
 | none=>cases e;exact⟨Nat.le_refl _,fun _ _ _=>rfl⟩
 | some q=>
  dsimp only at e;split at e
  ·cases e;exact zch (a:=⟨q,0⟩)
  ·cases e
theorem z149(s:Sl):Ch (s.p.map MA.blk) (markB s):=by
 intro h a h' e;unfold markB at e;split at e
 ·cases e
 ·rename_i q hq;rw[hq];split at e
  ·split at e
   ·cases e;exact zch
   ·cases e
  ·cases e
theorem zwc(e n:Nat)(s:Sl)(new:List MV):Ch (s.p.map MA.blk) (zdy e n s new):=by
 intro h a h' e;unfold zdy at e;split at e
 ·cases e;exact⟨Nat.le_refl _,fun _ _ _=>rfl⟩
 ·split at e
  ·split at e
   ·split at e
    ·cases e;exact⟨by simp,fun b hb _=>by rw[Hp.get_push,if_neg (by omega)]⟩
    ·cases e
   ·rename_i q hq;rw[hq];split at e
    ·split at e
     ·cases e;exact⟨by simp,fun b hb hn=>by rw[Hp.get_push,if_neg (by simp;omega)];exact zch.2 b hb hn⟩
     ·cases e
    ·cases e
  ·cases e
theorem zm1{ob:Option Nat}(e:Nat)(s:Sl):Ch ob (cellsOf e s):=(zmv (T:=fun _=>True) (fun _ _=>trivial)).ch
theorem z19i(e n:Nat)(s t:Sl):Ch (s.p.map MA.blk) (app e n s t):=z68 (zm1 e t) fun _=>z61 (zwc _ _ _ _) (z4v _)
theorem z179(e:Nat)(d s:Sl):Ch (d.p.map MA.blk) (copy e d s):=by
 unfold copy;exact z61 (ch_ret _ _) (z68 (zm1 _ _) fun _=>z68 (zm0 _ _ _) fun _=>ch_ret _ _)
theorem z14a(d:Sl)(s:List UInt8):Ch (d.p.map MA.blk) (copyS d s):=by
 unfold copyS;exact z61 (ch_ret _ _) (z68 (zm0 _ _ _) fun _=>ch_ret _ _)
def z4w(A:Fr)(p:Opd):Option Nat:=match p.mv A with
 | some v=>z7p v
 | none=>none
theorem z9y{ob:Option Nat}{ε:Type u}{x:Option ε}{f:ε→M β}(k:∀v,Ch ob (f v)):Ch ob (z19 x f):=by
 cases x with
 | none=>exact z4v _
 | some v=>exact k v
theorem zm2{ob:Option Nat}{b:Bool}{m:M β}(k:Ch ob m):Ch ob (wIf b m):=by
 unfold wIf;split
 ·exact k
 ·exact z4v _
theorem zp6{ob:Option Nat}{pv:PV}{n:Option Nat}{o:Nat}{v:MV}{k:PV→M β}(kk:∀v,Ch ob (k v)):Ch ob (pstore pv n o v k):=by
 unfold pstore;split
 ·exact z61 (kk _) (z4v _)
 ·exact z61 (kk _) (z4v _)
 ·exact z61 (z68 (z61 (ch_ret _ _) (z4v _)) fun _=>kk _) (z4v _)
 ·exact z68 (z61 (ch_ret _ _) (z4v _)) fun _=>kk _
 ·exact z68 (z61 (ch_ret _ _) (z4v _)) fun _=>kk _
 ·exact z4v _
theorem z102{x:Ins}(hc:x.cls=4){p:Opd}(hp:x.pl=some p){A A':Fr}{h h':Hp}(e:z08 C x A ret h=some (A',h')):h.size≤h'.size∧∀b,b<h.size→z4w A p≠some b→h'.get b=h.get b:=by
 have key:∀{m:M Fr},Ch (z4w A p) m→m h=some (A',h')→h.size≤h'.size∧∀b,b<h.size→z4w A p≠some b→h'.get b=h.get b:=fun k e=>k _ _ _ e;cases x with
 | store n p x=>
  cases hp;cases n with
  | none=>
   simp only[z08]at e;rcases z2f e with⟨q,hv,e1⟩ | ⟨s,o,hv,e1⟩
   ·have ho:z4w A p=q.map MA.blk:=by simp only[z4w,zcm hv,z7p]
    refine key ?_ e1;rw[ho];exact z9y fun _=>z68 (z19h _ _) fun _=>ch_ret _ _
   ·refine key (z9y fun pv=>zm2 (z9y fun v=>?_)) e1;exact zp6 fun _=>ch_ret _ _
  | some n=>
   simp only[z08]at e;rcases z2f e with⟨q,hv,e1⟩ | ⟨s,o,hv,e1⟩
   ·have ho:z4w A p=q.map MA.blk:=by simp only[z4w,zcm hv,z7p]
    obtain⟨vs,_,e2⟩:=z2t e1;refine key ?_ e2;rw[ho];exact z68 (zm0 _ _ _) fun _=>ch_ret _ _
   ·refine key (z9y fun pv=>zm2 (z9y fun v=>?_)) e1;exact zp6 fun _=>ch_ret _ _
 | mapPut kt m kk x=>
  cases hp;simp only[z08]at e;obtain⟨r,hv,e1⟩:=z31 e;have ho:z4w A p=r:=by simp only[z4w,hv,z7p]
  refine key ?_ e1;rw[ho];exact z9y fun _=>z9y fun _=>zm2 (z68 (zzz _ _ _) fun _=>ch_ret _ _)
 | mapDel kt m kk=>
  cases hp;simp only[z08]at e;obtain⟨r,hv,e1⟩:=z31 e;have ho:z4w A p=r:=by simp only[z4w,hv,z7p]
  refine key ?_ e1;rw[ho];exact z9y fun _=>zm2 (z68 (z100 _ _) fun _=>ch_ret _ _)
 | mapClr m=>
  cases hp;simp only[z08]at e;obtain⟨r,hv,e1⟩:=z31 e;have ho:z4w A p=r:=by simp only[z4w,hv,z7p]
  refine key ?_ e1;rw[ho];exact z68 (z101 _) fun _=>ch_ret _ _
 | slClr el z s=>
  cases hp;simp only[z08]at e;obtain⟨q,l,z',hv,e1⟩:=z2b e;have ho:z4w A p=q.map MA.blk:=by simp only[z4w,hv,z7p]
  refine key ?_ e1;rw[ho];exact z68 (z148 _ _ _) fun _=>ch_ret _ _
 | app d el by' s t=>
  cases hp;simp only[z08]at e;obtain⟨q,l,z,hv,e1⟩:=z2b e;have ho:z4w A p=q.map MA.blk:=by simp only[z4w,hv,z7p]
  obtain⟨q2,l2,z2,hv2,e2⟩:=z2b e1;refine key ?_ e2;rw[ho];exact z61 (z68 (z19i _ _ ⟨q,l⟩ _) fun _=>ch_ret _ _) (z4v _)
 | appS d s t=>
  cases hp;simp only[z08]at e;obtain⟨q,l,z,hv,e1⟩:=z2b e;have ho:z4w A p=q.map MA.blk:=by simp only[z4w,hv,z7p]
  obtain⟨l2,hv2,e2⟩:=z49 e1;refine key ?_ e2;rw[ho];exact z61 (z68 (zwc _ _ ⟨q,l⟩ _) fun _=>ch_ret _ _) (z4v _)
 | copy d el s t=>
  cases hp;simp only[z08]at e;obtain⟨q,l,z,hv,e1⟩:=z2b e;have ho:z4w A p=q.map MA.blk:=by simp only[z4w,hv,z7p]
  obtain⟨q2,l2,z2,hv2,e2⟩:=z2b e1;refine key ?_ e2;rw[ho];exact z61 (z68 (z179 _ ⟨q,l⟩ _) fun _=>ch_ret _ _) (z4v _)
 | copyS d s t=>
  cases hp;simp only[z08]at e;obtain⟨q,l,z,hv,e1⟩:=z2b e;have ho:z4w A p=q.map MA.blk:=by simp only[z4w,hv,z7p]
  obtain⟨l2,hv2,e2⟩:=z49 e1;refine key ?_ e2;rw[ho];exact z61 (z68 (z14a ⟨q,l⟩ _) fun _=>ch_ret _ _) (z4v _)
 | markB d s=>
  cases hp;simp only[z08]at e;obtain⟨q,l,z,hv,e1⟩:=z2b e;have ho:z4w A p=q.map MA.blk:=by simp only[z4w,hv,z7p]
  refine key ?_ e1;rw[ho];exact z61 (z68 (z149 ⟨q,l⟩) fun _=>ch_ret _ _) (z4v _)
 | _=>first | (simp[Ins.cls]at hc;done) | (simp[Ins.pl]at hp;done)
end
end Go.Mini

/- Regions whose order is drawn (3): what is found in the text's order. -/
namespace Go.Mini
universe u

section
variable{β:Type}{C:List (Nat×Entry)}

theorem zsx(w:Z)(x:Ins):(z0w w x).dst=x.dst:=by
  obtain⟨b,rs,n⟩:=w;cases x<;>first | rfl | (simp only[z0w];cases b<;>cases (mem _ rs)<;>rfl)

mutual
theorem zyd(w:Z):∀x:Item,(z8w w x).dsts=x.dsts
  | .i x=>by simp only[z8w,Item.dsts,zsx]
  | .sc p a g body b d=>by simp only[z8w,Item.dsts,zc6 w body]
theorem zc6(w:Z):∀l:List Item,z0m (zItems w l)=z0m l
  | []=>rfl
  | x::r=>by simp only[zItems,z0m,zyd w x,zc6 w r]
end

theorem zye(pu:List Nat)(w:Z)(x:Ins):z6q pu (.i (z0w w x))=z6q pu (.i x):=by
  cases x with
  | mv d x=>simp only[z0w,z6q,zjj]
  | call d f args=>simp only[z0w];cases (w.w && !(mem d w.rs))<;>simp only[z6q,zjj,cond_true,cond_false]
  | callv d f args=>simp only[z0w];cases (w.w && !(mem d w.rs))<;>simp only[z6q,zjj,cond_true,cond_false]
  | alloc | box | bslice | mkSl | toBytes | mkMap=>simp only[z0w];cases (mem _ w.rs)<;>rfl
  | load d t p=>
    simp only[z0w];cases (mem d w.rs)with
    | false=>rfl
    | true=>cases t<;>first | rfl | (cases p<;>rfl)
  | _=>rfl

mutual
theorem zyf(pu:List Nat)(w:Z):∀x:Item,z6q pu (z8w w x)=z6q pu x
  | .i x=>by simp only[z8w,zye]
  | .sc p a g body b d=>by simp only[z8w,z6q]
theorem zkh(pu:List Nat)(w:Z):∀l:List Item,z5t pu (zItems w l)=z5t pu l
  | []=>rfl
  | x::r=>by simp only[zItems,z5t,zyf pu w x,zkh pu w r]
end

def z7q(p:List (Nat×PV×Bool)):Option (Nat×PV)→List (Nat×PV×Bool)
  | none=>p
  | some (n,pv)=>(n,pv,true)::p
def Fr.ups(fr:Fr)(u:Option (Nat×PV)):Fr:=⟨fr.v,z7q fr.p u⟩

theorem zb8.ups{p q:List (Nat×PV×Bool)}(h:zb8 p q)(u:Option (Nat×PV)):zb8 (z7q p u) (z7q q u):=by
  cases u with
  | none=>exact h
  | some x=>
    obtain⟨n,pv⟩:=x;intro m qv b e;simp only[z7q,z1i]at e ⊢;split at e
    · cases e;rename_i hm;rw[if_pos hm];exact⟨true,rfl,id⟩
    · rename_i hm;rw[if_neg hm];exact h m qv b e

def zyg:Ins→Bool
  | .store _ _ _ | .mapPut _ _ _ _ | .mapDel _ _ _ | .mapClr _ | .slClr _ _ _=>true
  | _=>false

theorem zki{x:Ins}(hx:zyg x=true){A A' B:Fr}(up:Up A B x.opds)(ps:zb8 A.p B.p){h h':Hp}(e:z08 C x A ret h=some (A',h')) :
    ∃u,A'=A.ups u∧z08 C x B ret h=some (B.ups u,h')∧(∀n pv,u=some (n,pv)→∃q,z0g A.p n=some (q,true)):=by
  have fin0:∀{m:M Unit}{h1:Hp},bd m (fun _=>ret A) h1=some (A',h')→∃u,A'=A.ups u∧bd m (fun _=>ret B) h1=some (B.ups u,h')∧(∀n pv,u=some (n,pv)→∃q,z0g A.p n=some (q,true)):=by
    intro m h1 e;obtain⟨_,h2,e1,e2⟩:=z0f e;cases e2;exact⟨none,rfl,by simp only[bd,e1];rfl,fun _ _ c=>by cases c⟩
  cases x with
  | mapPut kt m kk x=>
    simp only[z08,Ins.opds]at e up ⊢;obtain⟨r,hv,e1⟩:=z31 e;obtain⟨kv,hk,e2⟩:=z0i e1;obtain⟨v,hv2,e3⟩:=z0i e2;obtain⟨hkk,e4⟩:=z2u e3;obtain⟨u,h1,h2,h3⟩:=fin0 e4;refine⟨u,h1,?_,h3⟩;rw[up.mv (by simp) hv,up.mv (by simp) hk,up.mv (by simp) hv2];simp only[z7o,z19,hkk,wIf];exact h2
  | mapDel kt m kk=>
    simp only[z08,Ins.opds]at e up ⊢;obtain⟨r,hv,e1⟩:=z31 e;obtain⟨kv,hk,e2⟩:=z0i e1;obtain⟨hkk,e4⟩:=z2u e2;obtain⟨u,h1,h2,h3⟩:=fin0 e4;refine⟨u,h1,?_,h3⟩;rw[up.mv (by simp) hv,up.mv (by simp) hk];simp only[z7o,z19,hkk,wIf];exact h2
  | mapClr m=>
    simp only[z08,Ins.opds]at e up ⊢;obtain⟨r,hv,e1⟩:=z31 e;obtain⟨u,h1,h2,h3⟩:=fin0 e1;refine⟨u,h1,?_,h3⟩;rw[up.mv (by simp) hv];exact h2
  | slClr e' z x=>
    simp only[z08,Ins.opds]at e up ⊢;obtain⟨p,l,z',hv,e1⟩:=z2b e;obtain⟨u,h1,h2,h3⟩:=fin0 e1;refine⟨u,h1,?_,h3⟩;rw[up.mv (by simp) hv];exact h2
  | store n p x=>
    have hp:∀{s o:Nat}{v:FV},p.val A=some v→v≠.gone→p.val B=some v:=by
      intro s o v hv hne;exact(up p (by simp[Ins.opds]) v hv).resolve_left hne
    have key:∀(n:Option Nat)(v:MV)(s o:Nat),z19 (z0g A.p s) (fun pv=>wIf pv.2 (pstore pv.1 n o v fun pv'=>ret (A.pset s pv'))) h=some (A',h') →
        ∃u,A'=A.ups u∧z19 (z0g B.p s) (fun pv=>wIf pv.2 (pstore pv.1 n o v fun pv'=>ret (B.pset s pv'))) h=some (B.ups u,h')∧(∀n pv,u=some (n,pv)→∃q,z0g A.p n=some (q,true)):=by
      intro n v s o e;obtain⟨⟨pv,b⟩,hl,e1⟩:=z0i e;obtain⟨hb,e2⟩:=z2u e1;have hb':b=true:=hb;subst hb';obtain⟨b',hl',hbb⟩:=ps s pv true hl;obtain rfl:=hbb rfl;rw[hl'];simp only[z19,wIf];have h1:=z9z pv n o v ret (fun pv'=>ret (A.pset s pv'));have h2:=z9z pv n o v ret (fun pv'=>ret (B.pset s pv'));simp only[bd_ret]at h1 h2;simp only[←h1]at e2;simp only[←h2];obtain⟨pv',h3,e3,e4⟩:=z0f e2;cases e4;exact⟨some (s,pv'),rfl,by simp only[bd,e3];rfl,fun n pv c=>by cases c;exact⟨_,hl⟩⟩
    cases n with
    | none=>
      simp only[z08]at e ⊢;rcases z2f e with⟨q,hv,e1⟩ | ⟨s,o,hv,e1⟩
      · obtain⟨v,hv2,e2⟩:=z0i e1
        obtain⟨u,h1,h2,h3⟩:=fin0 e2;refine⟨u,h1,?_,h3⟩;rw[hp (s:=0) (o:=0) hv (by simp),up.mv (by simp[Ins.opds]) hv2];exact h2
      · obtain⟨⟨pv,b⟩,hl,e2⟩:=z0i e1
        obtain⟨hb,e3⟩:=z2u e2;obtain⟨v,hv2,e4⟩:=z0i e3;have hk:=key none v s o (by
          rw[hl];have hb':b=true:=hb;subst hb';exact e4)
        obtain⟨u,h1,h2,h3⟩:=hk;refine⟨u,h1,?_,h3⟩;rw[hp (s:=0) (o:=0) hv (by simp)];simp only[z3e];obtain⟨⟨pv2,b2⟩,hl2,e5⟩:=z0i h2;obtain⟨hb2,e6⟩:=z2u e5;rw[hl2];have hb2':b2=true:=hb2;subst hb2';simp only[z19,wIf];rw[up.mv (by simp[Ins.opds]) hv2];exact e6
    | some n=>
      simp only[z08]at e ⊢;rcases z2f e with⟨q,hv,e1⟩ | ⟨s,o,hv,e1⟩
      · obtain⟨v,hv2,e2⟩:=z2t e1
        obtain⟨u,h1,h2,h3⟩:=fin0 e2;refine⟨u,h1,?_,h3⟩;rw[hp (s:=0) (o:=0) hv (by simp),up.mv (by simp[Ins.opds]) hv2];exact h2
      · obtain⟨⟨pv,b⟩,hl,e2⟩:=z0i e1
        obtain⟨hb,e3⟩:=z2u e2;obtain⟨v,hv2,e4⟩:=z0i e3;have hk:=key (some n) v s o (by
          rw[hl];have hb':b=true:=hb;subst hb';exact e4)
        obtain⟨u,h1,h2,h3⟩:=hk;refine⟨u,h1,?_,h3⟩;rw[hp (s:=0) (o:=0) hv (by simp)];simp only[z3e];obtain⟨⟨pv2,b2⟩,hl2,e5⟩:=z0i h2;obtain⟨hb2,e6⟩:=z2u e5;rw[hl2];have hb2':b2=true:=hb2;subst hb2';simp only[z19,wIf];rw[up.mv (by simp[Ins.opds]) hv2];exact e6
  | _=>cases hx

structure TS where
  W:Nat→Option FV
  h:Hp
  p:List (Nat×PV×Bool)

def z3g(W:Nat→Option FV)(d:Option Nat)(v:Option FV):Nat→Option FV:=fun n=>if d=some n then v else W n

structure Txt(B:Nat)(fr:Fr)(S:TS):Prop where
  b:∀n v,z0g fr.v n=some v→n<B
  v:∀n v,z0g fr.v n=some v→v=.gone∨S.W n=some v
  p:zb8 fr.p S.p

section
variable(P:Program)(priv:List Nat)(ntmps:Nat)(w:Z)(ops:Array Oper)

def z9d(o:Oper)(W:Nat→Option FV):Prop:=match o.guard with
  | none=>True
  | some (j,wt)=>∃oj gs,ops[j]? = some oj∧oj.dst=some gs∧W gs=some (.v (.bool wt))

def zf0(C:List (Nat×Entry))(i:Nat)(S S':TS):Prop:=∃o,ops[i]? = some o ∧
  ((¬z9d ops o S.W∧S'=⟨z3g S.W o.dst none,S.h,S.p⟩) ∨
   (z9d ops o S.W∧∃x A h',z0s P priv o=some x∧insOk ntmps x=true∧Txt ntmps A S ∧
      ((∃d V,(z0w w x).val=some d∧o.dst=some d∧z08 C (z0w w x) A tp S.h=some (V,h')∧S'=⟨z3g S.W (some d) (some V),h',S.p⟩) ∨
       (zyg (z0w w x)=true∧o.dst=none∧∃A' u,z08 C (z0w w x) A ret S.h=some (A',h')∧A'=A.ups u∧S'=⟨S.W,h',z7q S.p u⟩))) ∨
   (z9d ops o S.W∧∃wt gs n d b x,zhx o wt gs=some (n,d)∧d<ntmps∧S.W gs=some (.v (.bool b))∧(b=wt→S.W n=some (.v (.bool x)))∧(b≠wt→x = !wt) ∧
      S'=⟨z3g S.W (some d) (some (.v (.bool x))),S.h,S.p⟩))

inductive Run(C:List (Nat×Entry)):Nat→TS→Nat→TS→Prop
  | nil (a:Nat) (S:TS):Run C a S a S
  | cons (a b:Nat) (S S1 S2:TS) (h:zf0 P priv ntmps w ops C a S S1) (t:Run C (a+1) S1 b S2):Run C a S b S2

end

section
variable{P:Program}{priv pu:List Nat}{ntmps:Nat}{w:Z}{ops:Array Oper}

theorem Run.trans{a b c:Nat}{S S1 S2:TS}(h:Run P priv ntmps w ops C a S b S1)(k:Run P priv ntmps w ops C b S1 c S2):Run P priv ntmps w ops C a S c S2:=by
  induction h with
  | nil=>exact k
  | cons a b S S1 S2 h t ih=>exact .cons a c S S1 _ h (ih k)

def zd4(ops:Array Oper)(j:Nat)(wt:Bool)(W:Nat→Option FV):Prop:=∀oj gs,ops[j]? = some oj→oj.dst=some gs→W gs≠some (.v (.bool wt))

theorem zd4.put{j:Nat}{wt:Bool}{W:Nat→Option FV}(h:zd4 ops j wt W)(d:Option Nat):zd4 ops j wt (z3g W d none):=by
  intro oj gs h1 h2;unfold z3g;split
  · simp
  · exact h oj gs h1 h2

def zf1(ops:Array Oper)(j:Nat)(W:Nat→Option FV):Prop:=∀oj gs,ops[j]? = some oj→oj.dst=some gs→W gs=none

theorem zf1.put{j:Nat}{W:Nat→Option FV}(h:zf1 ops j W)(d:Option Nat):zf1 ops j (z3g W d none):=by
  intro oj gs h1 h2;unfold z3g;split
  · rfl
  · exact h oj gs h1 h2
theorem zf1.notW{j:Nat}{W:Nat→Option FV}(h:zf1 ops j W)(wt:Bool):zd4 ops j wt W:=fun oj gs h1 h2=>by rw[h oj gs h1 h2];simp

theorem zd4.wanted{o:Oper}{j:Nat}{wt:Bool}{W:Nat→Option FV}(hg:o.guard=some (j,wt))(h:zd4 ops j wt W):¬z9d ops o W:=by
  unfold z9d;rw[hg];rintro⟨oj,gs,h1,h2,h3⟩
  exact h oj gs h1 h2 h3

theorem zcn{n a i:Nat}{r:List Nat}(h:List.range' a (n - a)=i::r):i=a∧a<n∧r=List.range' (a+1) (n - (a+1)):=by
  cases hk:n - a with
  | zero=>rw[hk]at h;simp at h
  | succ k=>
    rw[hk,List.range'_succ]at h;cases h;exact⟨rfl,by omega,by rw[show n - (a+1)=k by omega]⟩

theorem z14v(f:Nat):∀(a:Nat)(j:Nat)(wt:Bool)(lev:List Nat)(l:List Item)(rest:List Nat),z4e P ntmps priv pu ops f (List.range' a (ops.size - a)) (some (j,wt)) lev=some (l,rest) →
    ∀(S:TS),zd4 ops j wt S.W→(∀j'∈lev,zf1 ops j' S.W)→∃b S',rest=List.range' b (ops.size - b)∧Run P priv ntmps w ops C a S b S'∧S'.h=S.h∧S'.p=S.p∧(∀i,i ∉ z0m l→S'.W i=S.W i)∧∀j',(zf1 ops j' S.W→zf1 ops j' S'.W)∧∀w',zd4 ops j' w' S.W→zd4 ops j' w' S'.W:=by
  induction f with
  | zero=>intro a j wt lev l rest h;cases h
  | succ f ih=>
    intro a j wt lev l rest h S hne hlev;have done:some (l,rest)=some ([],List.range' a (ops.size - a))→∃b S',rest=List.range' b (ops.size - b)∧Run P priv ntmps w ops C a S b S'∧S'.h=S.h∧S'.p=S.p∧(∀i,i ∉ z0m l→S'.W i=S.W i)∧∀j',(zf1 ops j' S.W→zf1 ops j' S'.W)∧∀w',zd4 ops j' w' S.W→zd4 ops j' w' S'.W:=by
      intro e;cases e;exact⟨a,S,rfl,.nil _ _,rfl,rfl,fun _ _=>rfl,fun _=>⟨fun h=>h,fun _ h=>h⟩⟩
    cases his:List.range' a (ops.size - a)with
    | nil=>
      rw[his]at h;simp only[z4e]at h;exact done (by rw[his];exact h.symm)
    | cons i r=>
      obtain⟨rfl,hlt,rfl⟩:=zcn his;rw[his]at h;have h0:=h;simp only[z4e]at h;cases ho:ops[i]? with
      | none=>rw[ho]at h;cases h
      | some o=>
        rw[ho]at h;dsimp only at h;cases hg:z8v o.guard (some (j,wt))with
        | true=>
          rw[hg]at h;simp only[cond_true]at h;have hgd:=z9s hg;split at h
          · rename_i x hx
            cases hc:insOk ntmps x&&zdb o x with
            | false=>rw[hc]at h;cases h
            | true=>
              rw[hc]at h;simp only[cond_true]at h;simp only[Bool.and_eq_true]at hc;split at h
              · rename_i l' q hl'
                cases h;have st:zf0 P priv ntmps w ops C i S ⟨z3g S.W o.dst none,S.h,S.p⟩:=⟨o,ho,.inl ⟨hne.wanted hgd,rfl⟩⟩;obtain⟨b,S',h1,h2,h3,h4,h5,h6⟩:=ih (i+1) j wt (i::lev) l' rest hl' ⟨z3g S.W o.dst none,S.h,S.p⟩ (hne.put _) (by
                  intro j' hj';rcases List.mem_cons.1 hj' with rfl | hj'
                  · intro oj gs e1 e2
                    rw[ho]at e1;cases e1;simp only[z3g,e2,if_true]
                  · exact(hlev j' hj').put _)
                refine⟨b,S',h1,.cons _ _ _ _ _ st h2,h3,h4,?_,fun j'=>⟨fun hn=>(h6 j').1 (hn.put _),fun w' hn=>(h6 j').2 w' (hn.put _)⟩⟩;intro n hn;simp only[z0m,Item.dsts,List.mem_append,not_or]at hn;rw[h5 n hn.2];show z3g S.W o.dst none n=S.W n;unfold z3g;rw[if_neg];intro hd;have:=hc.2
                unfold zdb at this;rw[hd]at this;exact hn.1 ((mem_iff _ _).1 this)
              · cases h
          · cases h
        | false=>
          rw[hg]at h;simp only[cond_false]at h;split at h
          · exact done (by rw[his];exact h.symm)
          · rename_i j2 w2 hgo
            cases hm:mem j2 lev with
            | false=>
              rw[hm]at h;exact done (by rw[his];exact h.symm)
            | true=>
              rw[hm]at h;simp only[cond_true]at h;split at h
              · cases h
              · rename_i oj hoj
                split at h
                · cases h
                · rename_i gs hgs
                  split at h
                  · rename_i body kk q hbody
                    split at h
                    · cases h
                    · rename_i okk hokk
                      split at h
                      · cases h
                      · rename_i n d hpick
                        obtain⟨hdst,_⟩:=z5u hpick;cases hcc:z8v okk.guard (some (j,wt))&&Nat.blt d ntmps && !(mem gs (z0m body))with
                        | false=>rw[hcc]at h;cases h
                        | true=>
                          rw[hcc]at h;simp only[cond_true]at h;simp only[Bool.and_eq_true]at hcc;have hgk:=z9s hcc.1.1;split at h
                          · rename_i l' q' hl'
                            cases h;rw[←his]at hbody;obtain⟨b1,S1,h1,h2,h3,h4,h5,h6⟩:=ih i j2 w2 [] body (kk::q) hbody S ((hlev j2 ((mem_iff _ _).1 hm)).notW w2) (by intro j' hj';cases hj');obtain⟨rfl,_,rfl⟩:=zcn h1.symm;have st:zf0 P priv ntmps w ops C kk S1 ⟨z3g S1.W okk.dst none,S1.h,S1.p⟩:=⟨okk,hokk,.inl ⟨((h6 j).2 wt hne).wanted hgk,rfl⟩⟩;obtain⟨b,S',g1,g2,g3,g4,g5,g6⟩:=ih (kk+1) j wt (kk::lev) l' rest hl' ⟨z3g S1.W okk.dst none,S1.h,S1.p⟩ (((h6 j).2 wt hne).put _) (by
                              intro j' hj';rcases List.mem_cons.1 hj' with rfl | hj'
                              · intro oj' gs' e1 e2
                                rw[hokk]at e1;cases e1;simp only[z3g,e2,if_true]
                              · exact((h6 j').1 (hlev j' hj')).put _)
                            refine⟨b,S',g1,h2.trans (.cons _ _ _ _ _ st g2),g3.trans h3,g4.trans h4,?_,fun j'=>⟨fun hn=>(g6 j').1 (((h6 j').1 hn).put _),fun w' hn=>(g6 j').2 w' (((h6 j').2 w' hn).put _)⟩⟩;intro m hm';simp only[z0m,Item.dsts,List.mem_append,not_or]at hm';rw[g5 m hm'.2];show z3g S1.W okk.dst none m=S.W m;unfold z3g;rw[if_neg (by rw[hdst];intro c;cases c;exact hm'.1.2 (by simp)),h5 m hm'.1.1]
                          · cases h
                  · cases h

theorem z8i(W:Nat→Option FV)(d:Nat)(v:Option FV):z3g W (some d) v d=v:=by unfold z3g;rw[if_pos rfl]
theorem zog(W:Nat→Option FV){d n:Nat}(v:Option FV)(h:d≠n):z3g W (some d) v n=W n:=by unfold z3g;rw[if_neg (fun c=>h (by cases c;rfl))]

theorem Txt.setF{B:Nat}{fr:Fr}{S:TS}(t:Txt B fr S)(d:Nat)(hd:d<B)(V:FV)(h:Hp):Txt B (fr.setF d V) ⟨z3g S.W (some d) (some V),h,S.p⟩:=by
  refine⟨fun n v e=>?_,fun n v e=>?_,t.p⟩
  · have e2:z0g ((d,V)::fr.v) n=some v:=e
    rw[z1i]at e2;split at e2
    · rename_i hn;rw[←hn];exact hd
    · exact t.b n v e2
  have e2:z0g ((d,V)::fr.v) n=some v:=e;rw[z1i]at e2;split at e2
  · rename_i hn
    cases e2;subst hn;exact .inr (z8i _ _ _)
  · rename_i hn
    rcases t.v n v e2 with h | h
    · exact .inl h
    · exact .inr ((zog _ _ hn).trans h)

theorem Txt.ups{B:Nat}{fr:Fr}{S:TS}(t:Txt B fr S)(u:Option (Nat×PV))(h:Hp):Txt B (fr.ups u) ⟨S.W,h,z7q S.p u⟩:=⟨t.b,t.v,t.p.ups u⟩

theorem zsy{w:Z}{x:Ins}(hc:(z0w w x).cls<5):(zyg (z0w w x)=true∧x.dst=[])∨∃d,(z0w w x).val=some d∧x.dst=[d]:=by
  rw[←zsx w x];generalize z0w w x=y at hc;cases y with
  | store n p x=>exact .inl ⟨rfl,rfl⟩
  | mapPut kt m k x=>exact .inl ⟨rfl,rfl⟩
  | mapDel kt m k=>exact .inl ⟨rfl,rfl⟩
  | mapClr m=>exact .inl ⟨rfl,rfl⟩
  | slClr e z x=>exact .inl ⟨rfl,rfl⟩
  | palloc d pv=>simp[Ins.cls]at hc
  | pbox d n x=>simp[Ins.cls]at hc
  | _=>exact .inr ⟨_,rfl,rfl⟩

theorem zsz{o:Oper}{x:Ins}(hx:z0s P priv o=some x)(hd:o.dst=none):x.dst=[]:=by
  obtain⟨dst,op,type,pos,after,guard⟩:=o;cases hd;cases op with
  | store t a y=>
    simp only[z0s]at hx;split at hx
    · rename_i b hb
      cases hg:z9b P t with
      | true=>rw[hg]at hx;cases hx;rfl
      | false=>
        rw[hg]at hx;simp only[cond_false]at hx;split at hx
        · cases hx;rfl
        · cases hx
    · cases hx
  | mapUpdate t m kk y=>
    simp only[z0s]at hx;split at hx
    · split at hx
      · cases hx;rfl
      · cases hx
    · cases hx
  | call c=>
    simp only[z0s]at hx;split at hx
    · split at hx
      · split at hx
        · cases hx;rfl
        · split at hx
          · split at hx
            · cases hx;rfl
            · cases hx
          · cases hx
        · cases hx
      · cases hx
    · split at hx
      · split at hx
        · split at hx
          · cases hx;rfl
          · cases hx
        · cases hx
      · cases hx
    · cases hx
  | _=>cases hx

theorem Txt.lock{B:Nat}{fr:Fr}{S:TS}(t:Txt B fr S)(keep:List Nat):Txt B (fr.lock keep) S:=by
  refine⟨t.b,t.v,fun n pv b e=>?_⟩;obtain⟨b',h1,h2⟩:=z51 (l:=fr.p) e;obtain⟨b2,h3,h4⟩:=t.p n pv b' h1;refine⟨b2,h3,fun hb=>h4 ?_⟩;have h2':b=(b'&&mem n keep):=h2;rw[hb]at h2';cases b' with
  | true=>rfl
  | false=>cases h2'

def GW(ops:Array Oper)(W:Nat→Option FV)(l:List Item):Option (Nat×Bool)→Prop
  | none=>True
  | some (j,wt)=>∃oj gs,ops[j]? = some oj∧oj.dst=some gs∧W gs=some (.v (.bool wt))∧gs ∉ z0m l

theorem z114(hcl:∀(i:Nat) o x,ops[i]? = some o→z0s P priv o=some x→(z0w w x).cls<5)(f:Nat):∀(a:Nat)(g:Option (Nat×Bool))(lev:List Nat)(l:List Item)(rest:List Nat),z4e P ntmps priv pu ops f (List.range' a (ops.size - a)) g lev=some (l,rest) →
    ∀{β:Type}(k:Fr→M β)(fr:Fr)(S:TS)(res:β×Hp),Txt ntmps fr S→GW ops S.W l g→z3p C (zItems w l) fr k S.h=some res →
      ∃b S' fr',rest=List.range' b (ops.size - b)∧Run P priv ntmps w ops C a S b S'∧Txt ntmps fr' S'∧k fr' S'.h=some res∧(∀i,i ∉ z0m l→S'.W i=S.W i) ∧
        ((∀n pv,z0g fr.p n≠some (pv,true))→S'.p=S.p):=by
  induction f with
  | zero=>intro a g lev l rest h;cases h
  | succ f ih=>
    intro a g lev l rest h β k fr S res tx hG e;have done:some (l,rest)=some ([],List.range' a (ops.size - a))→∃b S' fr',rest=List.range' b (ops.size - b)∧Run P priv ntmps w ops C a S b S'∧Txt ntmps fr' S'∧k fr' S'.h=some res∧(∀i,i ∉ z0m l→S'.W i=S.W i) ∧
        ((∀n pv,z0g fr.p n≠some (pv,true))→S'.p=S.p):=by
      intro e2;cases e2;exact⟨a,S,fr,rfl,.nil _ _,tx,by simpa only[zItems,z3p]using e,fun _ _=>rfl,fun _=>rfl⟩
    cases his:List.range' a (ops.size - a)with
    | nil=>
      rw[his]at h;simp only[z4e]at h;exact done (by rw[his];exact h.symm)
    | cons i r=>
      obtain⟨rfl,hlt,rfl⟩:=zcn his;rw[his]at h;simp only[z4e]at h;cases ho:ops[i]? with
      | none=>rw[ho]at h;cases h
      | some o=>
        rw[ho]at h;dsimp only at h;have wantG:∀(W:Nat→Option FV),(∀i,i ∉ z0m l→W i=S.W i)→∀o':Oper,z8v o'.guard g=true→z9d ops o' W:=by
          intro W hW o' hg';have hgd:=z9s hg';unfold z9d;rw[hgd];cases g with
          | none=>trivial
          | some jw=>
            obtain⟨j,wt⟩:=jw;obtain⟨oj,gs,h1,h2,h3,h4⟩:=hG;exact⟨oj,gs,h1,h2,by rw[hW gs h4];exact h3⟩
        have nextG:∀(S1:TS)(x:Item)(l':List Item),l=x::l'→(∀i,i ∉ x.dsts→S1.W i=S.W i)→GW ops S1.W l' g:=by
          intro S1 x l' hl hW;cases g with
          | none=>trivial
          | some jw=>
            obtain⟨j,wt⟩:=jw;obtain⟨oj,gs,h1,h2,h3,h4⟩:=hG;rw[hl]at h4;simp only[z0m,List.mem_append,not_or]at h4;exact⟨oj,gs,h1,h2,by rw[hW gs h4.1];exact h3,h4.2⟩
        cases hg:z8v o.guard g with
        | true=>
          have hwant:=wantG S.W (fun _ _=>rfl) o hg;rw[hg]at h;simp only[cond_true]at h;split at h
          · rename_i x hx
            cases hc:insOk ntmps x&&zdb o x with
            | false=>rw[hc]at h;cases h
            | true=>
              rw[hc]at h;simp only[cond_true]at h;simp only[Bool.and_eq_true]at hc;split at h
              · rename_i l' q hl'
                cases h;simp only[zItems,z8w,z3p,zan]at e;obtain⟨fr1,h1,e1,e2⟩:=zv2 e;have hcls:=hcl i o x ho hx;have hdl:∀d,x.dst=[d]→d<ntmps:=by
                  intro d hd;have:=hc.1
                  simp only[insOk,hd,List.all_cons,List.all_nil,Bool.and_true]at this;simpa using this
                have tell:∀S1:TS,S1.h=h1→Txt ntmps fr1 S1→zf0 P priv ntmps w ops C i S S1→(∀i,i ∉ x.dst→S1.W i=S.W i)→((∀n pv,z0g fr.p n≠some (pv,true))→S1.p=S.p∧∀n pv,z0g fr1.p n≠some (pv,true)) →
                    ∃b S' fr',rest=List.range' b (ops.size - b)∧Run P priv ntmps w ops C i S b S'∧Txt ntmps fr' S'∧k fr' S'.h=some res∧(∀j,j ∉ z0m (.i x::l')→S'.W j=S.W j)∧((∀n pv,z0g fr.p n≠some (pv,true))→S'.p=S.p):=by
                  intro S1 hh1 tx1 st hW hp;obtain⟨b,S',fr',g1,g2,g3,g4,g5,g6⟩:=ih (i+1) g (i::lev) l' rest hl' k fr1 S1 res tx1 (nextG S1 (.i x) l' rfl hW) (by rw[hh1];exact e2);refine⟨b,S',fr',g1,.cons _ _ _ _ _ st g2,g3,g4,?_,fun hf=>?_⟩
                  · intro j hj
                    simp only[z0m,Item.dsts,List.mem_append,not_or]at hj;rw[g5 j hj.2,hW j hj.1]
                  · obtain⟨hp1,hp2⟩:=hp hf
                    rw[g6 hp2,hp1]
                rcases zsy hcls with⟨hnd,hdst⟩ | ⟨d,hv,hdst⟩
                · obtain⟨u,e3,e4,e5⟩:=zki (B:=fr) hnd (fun o _ v hv =>.inr hv) (zb8.refl _) e1
                  have hod:o.dst=none:=by
                    cases hdd:o.dst with
                    | none=>rfl
                    | some d=>
                      have:=hc.2
                      unfold zdb at this;rw[hdd,hdst]at this;cases this
                  subst e3;refine tell ⟨S.W,h1,z7q S.p u⟩ rfl (tx.ups u h1) ⟨o,ho,.inr (.inl ⟨hwant,x,fr,h1,hx,hc.1,tx,.inr ⟨hnd,hod,_,u,e1,rfl,rfl⟩⟩)⟩ (fun _ _=>rfl) (fun hf=>?_);cases u with
                  | none=>exact⟨rfl,hf⟩
                  | some y=>
                    obtain⟨n,pv⟩:=y;obtain⟨q,hq⟩:=e5 n pv rfl;exact absurd hq (hf n q)
                · rw[zci hv]at e1
                  obtain⟨V,h2,e3,e4⟩:=z0f e1;cases e4;have hod:o.dst=some d:=by
                    cases hdd:o.dst with
                    | none=>
                      have:=zsz hx hdd
                      rw[hdst]at this;cases this
                    | some d'=>
                      have:=hc.2
                      unfold zdb at this;rw[hdd,hdst]at this;have h3:=(mem_iff _ _).1 this;simp at h3;rw[h3]
                  refine tell ⟨z3g S.W (some d) (some V),h1,S.p⟩ rfl (tx.setF d (hdl d hdst) V h1) ⟨o,ho,.inr (.inl ⟨hwant,x,fr,h1,hx,hc.1,tx,.inl ⟨d,V,hv,hod,e3,rfl⟩⟩)⟩ ?_ (fun hf=>⟨rfl,hf⟩)
                  · intro j hj
                    rw[hdst]at hj;show z3g S.W (some d) (some V) j=S.W j;unfold z3g;rw[if_neg (fun c=>hj (by cases c;simp))]
              · cases h
          · cases h
        | false=>
          rw[hg]at h;simp only[cond_false]at h;split at h
          · exact done (by rw[his];exact h.symm)
          · rename_i j wt hgo
            cases hm:mem j lev with
            | false=>
              rw[hm]at h;exact done (by rw[his];exact h.symm)
            | true=>
              rw[hm]at h;simp only[cond_true]at h;split at h
              · cases h
              · rename_i oj hoj
                split at h
                · cases h
                · rename_i gs hgs
                  split at h
                  · rename_i body kk q hbody
                    split at h
                    · cases h
                    · rename_i okk hokk
                      split at h
                      · cases h
                      · rename_i n d hpick
                        obtain⟨hdst,_⟩:=z5u hpick;cases hcc:z8v okk.guard g&&Nat.blt d ntmps && !(mem gs (z0m body))with
                        | false=>rw[hcc]at h;cases h
                        | true=>
                          rw[hcc]at h;simp only[cond_true]at h;simp only[Bool.and_eq_true,Bool.not_eq_true']at hcc;have hdlt:d<ntmps:=by simpa using hcc.1.2
                          have hgsb:gs ∉ z0m body:=fun c=>by rw[(mem_iff _ _).2 c]at hcc;cases hcc.2
                          split at h
                          · rename_i l' q' hl'
                            cases h;rw[←his]at hbody;simp only[zItems,z8w,z3p]at e;obtain⟨t,hlk,hyes,hno⟩:=z10v (pu:=pu) (zkh pu w body).symm e;rw[zc6]at hyes hno;have hWg:S.W gs=some (.v (.bool t)):=(tx.v gs _ hlk).resolve_left (by simp)
                            -- what stands behind the pick
                            have behind:∀(S1:TS)(x:Bool),Run P priv ntmps w ops C i S kk S1→S1.p=S.p→(∀i,i ∉ z0m body→S1.W i=S.W i)→q=List.range' (kk+1) (ops.size - (kk+1)) →
                                (t=wt→S1.W n=some (.v (.bool x)))→(t≠wt→x = !wt) →
                                z3p C (zItems w l') ((fr.del (z0m body)).set d (.bool x)) k S1.h=some res →
                                ∃b S' fr',rest=List.range' b (ops.size - b)∧Run P priv ntmps w ops C i S b S'∧Txt ntmps fr' S'∧k fr' S'.h=some res∧(∀j,j ∉ z0m (.sc (z5t pu body) wt gs body (.t n) d::l')→S'.W j=S.W j)∧((∀n pv,z0g fr.p n≠some (pv,true))→S'.p=S.p):=by
                              intro S1 x run hp1 hW1 hq hyes' hno' e2;have tx1:Txt ntmps (fr.del (z0m body)) S1:=by
                                refine⟨fun m v hv=>?_,fun m v hv=>?_,fun m pv b hv=>?_⟩
                                · obtain⟨y,hy⟩:=z72 (l:=fr.v) hv
                                  exact tx.b m y hy
                                · obtain⟨h1,h2⟩:=zak (l:=fr.v) hv
                                  rcases h2 with rfl | ⟨h2,_⟩
                                  · exact .inl rfl
                                  · rw[hW1 m h1];exact tx.v m v h2
                                · obtain⟨_,h2⟩:=z52 (l:=fr.p) hv
                                  rw[hp1];exact tx.p m pv b h2
                              have hwk:z9d ops okk S1.W:=wantG S1.W (fun j hj=>hW1 j (fun c=>hj (by simp only[z0m,Item.dsts,List.mem_append];exact .inl (.inl c)))) okk hcc.1.1;have st:zf0 P priv ntmps w ops C kk S1 ⟨z3g S1.W (some d) (some (.v (.bool x))),S1.h,S1.p⟩:=
                                ⟨okk,hokk,.inr (.inr ⟨hwk,wt,gs,n,d,t,x,hpick,hdlt,by rw[hW1 gs hgsb];exact hWg,hyes',hno',rfl⟩)⟩
                              subst hq;have hW2:∀j,j ∉ (Item.sc (z5t pu body) wt gs body (.t n) d).dsts→z3g S1.W (some d) (some (.v (.bool x))) j=S.W j:=by
                                intro j hj;simp only[Item.dsts,List.mem_append,not_or,List.mem_singleton]at hj;unfold z3g;rw[if_neg (fun c=>hj.2 (by cases c;rfl))];exact hW1 j hj.1
                              obtain⟨b,S',fr',g1,g2,g3,g4,g5,g6⟩:=ih (kk+1) g (kk::lev) l' rest hl' k _ ⟨z3g S1.W (some d) (some (.v (.bool x))),S1.h,S1.p⟩ res (tx1.setF d hdlt (.v (.bool x)) S1.h) (nextG ⟨z3g S1.W (some d) (some (.v (.bool x))),S1.h,S1.p⟩ _ l' rfl hW2) e2;refine⟨b,S',fr',g1,run.trans (.cons _ _ _ _ _ st g2),g3,g4,?_,fun hf=>?_⟩
                              · intro j hj
                                simp only[z0m,List.mem_append,not_or]at hj;rw[g5 j hj.2];exact hW2 j hj.1
                              · rw[g6 ?_]
                                · exact hp1
                                · intro m pv hm'
                                  obtain⟨_,h2⟩:=z52 (l:=fr.p) hm';exact hf m pv h2
                            by_cases htw:t=wt
                            · obtain⟨x,h1,e1,e2⟩:=hyes htw
                              obtain⟨b1,S1,fr1,g1,g2,g3,g4,g5,g6⟩:=ih i (some (j,wt)) [] body (kk::q) hbody _ (fr.lock []) S (x,h1) (tx.lock []) ⟨oj,gs,hoj,hgs,by rw[←htw];exact hWg,hgsb⟩ e1;obtain⟨rfl,_,rfl⟩:=zcn g1.symm;have hp:S1.p=S.p:=g6 (by
                                intro m pv hm';obtain⟨b',_,h2⟩:=z51 (l:=fr.p) hm';cases b'<;>cases h2)
                              cases hmv:(Opd.t n).mv fr1 with
                              | none=>rw[hmv]at g4;cases g4
                              | some m=>
                                rw[hmv]at g4;cases m with
                                | bool y=>
                                  have hxy:some (y,S1.h)=some (x,h1):=g4;cases hxy;have hWn:S1.W n=some (.v (.bool x)):=by
                                    have h5:z0g fr1.v n=some (.v (.bool x)):=by
                                      unfold Opd.mv at hmv;split at hmv
                                      · rename_i v' hv'
                                        cases hmv;exact hv'
                                      · cases hmv
                                    exact(g3.v n _ h5).resolve_left (by simp)
                                  exact behind S1 x g2 hp g5 rfl (fun _=>hWn) (fun c=>absurd htw c) e2
                                | _=>cases g4
                            · have e2:=hno htw
                              have hnw:zd4 ops j wt S.W:=by
                                intro oj' gs' e3 e4;rw[hoj]at e3;cases e3;rw[hgs]at e4;cases e4;rw[hWg];intro c;cases c;exact htw rfl
                              obtain⟨b1,S1,g1,g2,g3,g4,g5,_⟩:=z14v (C:=C) (w:=w) f i j wt [] body (kk::q) hbody S hnw (by intro j' hj';cases hj');obtain⟨rfl,_,rfl⟩:=zcn g1.symm;exact behind S1 (!wt) g2 g4 g5 rfl (fun c=>absurd c htw) (fun _=>rfl) (by rw[g3];exact e2)
                          · cases h
                  · cases h

end
end
end Go.Mini
