/- Regions whose order is drawn: what fills a block that was held, and what changes one. -/
import Derived.Test.YtcaaljlhljemoaaGreatMX2
namespace Go.Mini
universe u
section
variable {α β γ:Type}
def Fl (b:Nat) (m:M α):Prop:=∀h a h',m h=some (a,h')→∃blk:Blk,OwnB blk∧h'=h.set b blk∧h.get b=.dead∧b<h.size∧∀h2:Hp,h2.get b=.dead→b<h2.size→m h2=some (a,h2.set b blk)
theorem z5m (b:Nat):Fl b (fail:M α):=fun h a h' e=>by cases e
theorem z9r {b:Nat} {blk:Blk} (hb:OwnB blk) (a:α):Fl b (bd (putAt b blk) fun _=>ret a):=by
 intro h x h' e
 obtain ⟨_,h1,e1,e2⟩:=z0d e
 cases e2
 unfold putAt at e1
 split at e1
 ·rename_i hd
  split at e1
  ·rename_i hl
   cases e1
   refine ⟨blk,hb,rfl,hd,hl,fun h2 k1 k2=>?_⟩
   unfold bd putAt
   rw [k1]
   simp only [k2,if_true]
   rfl
  ·cases e1
 ·cases e1
theorem z8j {b:Nat} {m:M α} {f:α→M β} (k:Fl b m) (kf:∀a,Pu (f a)):Fl b (bd m f):=fun h x h' e=>by
 obtain ⟨a,h1,e1,e2⟩:=z0d e
 obtain ⟨blk,k1,k2,k3,k4,k5⟩:=k _ _ _ e1
 obtain ⟨rfl,k6⟩:=kf a _ _ _ e2
 exact ⟨blk,k1,k2,k3,k4,fun h2 g1 g2=>by simp only [bd,k5 h2 g1 g2];exact k6 _⟩
theorem zgu {b:Nat} {c:Prop} [Decidable c] {m n:M α} (k:Fl b m) (l:Fl b n):Fl b (if c then m else n):=by
 split
 ·exact k
 ·exact l
theorem zeb {b:Nat} {ε:Type u} {x:Option ε} {f:ε→M β} (k:∀v,Fl b (f v)):Fl b (okOf x f):=by
 cases x with
 | none=>exact z5m b
 | some v=>exact k v
theorem zk6 {b:Nat} {x:Option MV} {f:IntKind→Int→M β} (k:∀a c,Fl b (f a c)):Fl b (wInt x f):=by
 unfold wInt;split
 ·exact k _ _
 ·exact z5m b
theorem zsu {b:Nat} {x:Option MV} {f:List UInt8→M β} (k:∀a,Fl b (f a)):Fl b (wStr x f):=by
 unfold wStr;split
 ·exact k _
 ·exact z5m b
theorem zsv {b:Nat} {x:Option MV} {f:List MV→M β} (k:∀a,Fl b (f a)):Fl b (wAgg x f):=by
 unfold wAgg;split
 ·exact k _
 ·exact z5m b
theorem z8k (b:Nat) (cs:List MV):Fl b (allocAt b cs):=z9r (by simp [OwnB]) _
theorem ziz (b:Nat) (v:MV):Fl b (alloc1At b v):=zgu (z9r (by simp [OwnB]) _) (z5m b)
theorem zl8 (b:Nat):Fl b (mkMapAt b):=z9r (by simp [OwnB]) _
theorem zn0 (b e n:Nat) (z:List MV) (l c:Int):Fl b (mkSlAt b e n z l c):=zgu (z9r (by simp [OwnB]) _) (z5m b)
theorem zgv (b:Nat) (s:List UInt8):Fl b (toBytesAt b s):=zgu (z9r (by simp [OwnB]) _) (z5m b)
def Ins.fb:Ins→Option Nat
 | .allocA _ b _ | .boxA _ b _ _ | .bsliceA _ b _ _ _ _ | .mkSlA _ b _ _ _ _ _ | .toBytesA _ b _ | .mkMapA _ b=>some b
 | _=>none
variable {C:List (Nat×Entry)}
theorem zgw {x:Ins} (hc:x.cls=2) (A:Fr):∃b,x.fb=some b∧Fl b (evIns C x A tp):=by
 cases x with
 | allocA d b z=>exact ⟨b,rfl,z8j (z8k b z) fun _=>z0z _⟩
 | boxA d b a x=>
  refine ⟨b,rfl,?_⟩
  cases a<;>simp only [evIns,z0v]
  ·exact zeb fun _=>z8j (ziz _ _) fun _=>z0z _
  ·exact zsv fun _=>z8j (z8k _ _) fun _=>z0z _
 | bsliceA d b e len z parts=>exact ⟨b,rfl,zeb fun _=>zeb fun _=>z8j (z8k b _) fun _=>z0z _⟩
 | mkSlA d b e bytes z len cap=>exact ⟨b,rfl,zk6 fun _ _=>zk6 fun _ _=>z8j (zn0 _ _ _ _ _ _) fun _=>z0z _⟩
 | toBytesA d b x=>exact ⟨b,rfl,zsu fun _=>z8j (zgv _ _) fun _=>z0z _⟩
 | mkMapA d b=>exact ⟨b,rfl,z8j (zl8 b) fun _=>z0z _⟩
 | _=>simp [Ins.cls] at hc
def Ch (ob:Option Nat) (m:M α):Prop:=∀h a h',m h=some (a,h')→h.size≤h'.size∧∀b,b<h.size→ob≠some b→h'.get b=h.get b
theorem z2g (ob:Option Nat):Ch ob (fail:M α):=fun h a h' e=>by cases e
theorem ch_ret (ob:Option Nat) (a:α):Ch ob (ret a):=fun h x h' e=>by cases e;exact ⟨Nat.le_refl _,fun _ _ _=>rfl⟩
theorem z34 {ob:Option Nat} {m:M α} {f:α→M β} (k:Ch ob m) (kf:∀a,Ch ob (f a)):Ch ob (bd m f):=fun h x h' e=>by
 obtain ⟨a,h1,e1,e2⟩:=z0d e
 obtain ⟨k1,k2⟩:=k _ _ _ e1
 obtain ⟨k3,k4⟩:=kf a _ _ _ e2
 exact ⟨Nat.le_trans k1 k3,fun b hb hn=>(k4 b (Nat.lt_of_lt_of_le hb k1) hn).trans (k2 b hb hn)⟩
theorem z31 {ob:Option Nat} {c:Prop} [Decidable c] {m n:M α} (k:Ch ob m) (l:Ch ob n):Ch ob (if c then m else n):=by
 split
 ·exact k
 ·exact l
theorem Pu.ch {ob:Option Nat} {m:M α} (k:Pu m):Ch ob m:=fun h a h' e=>by
 obtain ⟨rfl,_⟩:=k _ _ _ e
 exact ⟨Nat.le_refl _,fun _ _ _=>rfl⟩
theorem Rd.ch {T:Nat→Prop} {ob:Option Nat} {m:M α} (k:Rd T m):Ch ob m:=fun h a h' e=>by
 obtain ⟨rfl,_⟩:=k _ _ _ e
 exact ⟨Nat.le_refl _,fun _ _ _=>rfl⟩
theorem z6d {h:Hp} {a:MA} {x:Blk}:h.size≤(h.set a.blk x).size∧∀b,b<h.size→some a.blk≠some b→(h.set a.blk x).get b=h.get b:=
 ⟨Nat.le_refl _,fun b _ hn=>by rw [Hp.get_set,if_neg (fun c=>hn (by rw [c]))]⟩
theorem zug (q:Option MA) (v:MV):Ch (q.map MA.blk) (stc q v):=by
 intro h a h' e
 unfold stc at e
 cases q with
 | none=>cases e
 | some q=>
  dsimp only at e
  split at e
  ·split at e
   ·cases e;exact z6d
   ·cases e
  ·cases e
theorem zco (n:Nat) (q:Option MA) (v:List MV):Ch (q.map MA.blk) (stn n q v):=by
 intro h a h' e
 unfold stn at e
 cases q with
 | none=>cases e
 | some q=>
  dsimp only at e
  split at e
  ·split at e
   ·cases e;exact z6d
   ·cases e
  ·cases e
theorem zn1 (r:Option Nat) (k v:MV):Ch r (mapPut r k v):=by
 intro h a h' e
 unfold mapPut at e
 cases r with
 | none=>cases e
 | some q=>
  dsimp only at e
  split at e
  ·split at e
   ·cases e;exact z6d (a:=⟨q,0⟩)
   ·cases e;exact z6d (a:=⟨q,0⟩)
   ·cases e
  ·cases e
theorem zn2 (r:Option Nat) (k:MV):Ch r (mapDel r k):=by
 intro h a h' e
 unfold mapDel at e
 cases r with
 | none=>cases e;exact ⟨Nat.le_refl _,fun _ _ _=>rfl⟩
 | some q=>
  dsimp only at e
  split at e
  ·split at e
   ·cases e;exact z6d (a:=⟨q,0⟩)
   ·cases e;exact ⟨Nat.le_refl _,fun _ _ _=>rfl⟩
   ·cases e
  ·cases e
theorem zqk (e:Nat) (z:List MV) (s:Sl):Ch (s.p.map MA.blk) (slClr e z s):=by
 unfold slClr
 exact z31 (ch_ret _ _) (zco _ _ _)
theorem zn3 (r:Option Nat):Ch r (mapClr r):=by
 intro h a h' e
 unfold mapClr at e
 cases r with
 | none=>cases e;exact ⟨Nat.le_refl _,fun _ _ _=>rfl⟩
 | some q=>
  dsimp only at e
  split at e
  ·cases e;exact z6d (a:=⟨q,0⟩)
  ·cases e
theorem zql (s:Sl):Ch (s.p.map MA.blk) (markB s):=by
 intro h a h' e
 unfold markB at e
 split at e
 ·cases e
 ·rename_i q hq
  rw [hq]
  split at e
  ·split at e
   ·cases e;exact z6d
   ·cases e
  ·cases e
theorem zk7 (e n:Nat) (s:Sl) (new:List MV):Ch (s.p.map MA.blk) (appc e n s new):=by
 intro h a h' e
 unfold appc at e
 split at e
 ·cases e;exact ⟨Nat.le_refl _,fun _ _ _=>rfl⟩
 ·split at e
  ·split at e
   ·split at e
    ·cases e;exact ⟨by simp,fun b hb _=>by rw [Hp.get_push,if_neg (by omega)]⟩
    ·cases e
   ·rename_i q hq
    rw [hq]
    split at e
    ·split at e
     ·cases e
      exact ⟨by simp,fun b hb hn=>by rw [Hp.get_push,if_neg (by simp;omega)];exact z6d.2 b hb hn⟩
     ·cases e
    ·cases e
  ·cases e
theorem zcp {ob:Option Nat} (e:Nat) (s:Sl):Ch ob (cellsOf e s):=(zcr (T:=fun _=>True) (fun _ _=>trivial)).ch
theorem zuh (e n:Nat) (s t:Sl):Ch (s.p.map MA.blk) (app e n s t):=z34 (zcp e t) fun _=>z31 (zk7 _ _ _ _) (z2g _)
theorem zsw (e:Nat) (d s:Sl):Ch (d.p.map MA.blk) (copy e d s):=by
 unfold copy
 exact z31 (ch_ret _ _) (z34 (zcp _ _) fun _=>z34 (zco _ _ _) fun _=>ch_ret _ _)
theorem zqm (d:Sl) (s:List UInt8):Ch (d.p.map MA.blk) (copyS d s):=by
 unfold copyS
 exact z31 (ch_ret _ _) (z34 (zco _ _ _) fun _=>ch_ret _ _)
def obOf (A:Fr) (p:Opd):Option Nat:=match p.mv A with
 | some v=>blkM v
 | none=>none
theorem z4x {ob:Option Nat} {ε:Type u} {x:Option ε} {f:ε→M β} (k:∀v,Ch ob (f v)):Ch ob (okOf x f):=by
 cases x with
 | none=>exact z2g _
 | some v=>exact k v
theorem zcq {ob:Option Nat} {b:Bool} {m:M β} (k:Ch ob m):Ch ob (wIf b m):=by
 unfold wIf;split
 ·exact k
 ·exact z2g _
theorem zf2 {ob:Option Nat} {pv:PV} {n:Option Nat} {o:Nat} {v:MV} {k:PV→M β} (kk:∀v,Ch ob (k v)):Ch ob (pstore pv n o v k):=by
 unfold pstore
 split
 ·exact z31 (kk _) (z2g _)
 ·exact z31 (kk _) (z2g _)
 ·exact z31 (z34 (z31 (ch_ret _ _) (z2g _)) fun _=>kk _) (z2g _)
 ·exact z34 (z31 (ch_ret _ _) (z2g _)) fun _=>kk _
 ·exact z34 (z31 (ch_ret _ _) (z2g _)) fun _=>kk _
 ·exact z2g _
theorem zn4 {x:Ins} (hc:x.cls=4) {p:Opd} (hp:x.pl=some p) {A A':Fr} {h h':Hp} (e:evIns C x A ret h=some (A',h')):h.size≤h'.size∧∀b,b<h.size→obOf A p≠some b→h'.get b=h.get b:=by
 have key:∀ {m:M Fr},Ch (obOf A p) m→m h=some (A',h')→h.size≤h'.size∧∀b,b<h.size→obOf A p≠some b→h'.get b=h.get b:=fun k e=>k _ _ _ e
 cases x with
 | store n p x=>
  cases hp
  cases n with
  | none=>
   simp only [evIns] at e
   rcases z1k e with ⟨q,hv,e1⟩ | ⟨s,o,hv,e1⟩
   ·have ho:obOf A p=q.map MA.blk:=by simp only [obOf,z6e hv,blkM]
    refine key ?_ e1
    rw [ho]
    exact z4x fun _=>z34 (zug _ _) fun _=>ch_ret _ _
   ·refine key (z4x fun pv=>zcq (z4x fun v=>?_)) e1
    exact zf2 fun _=>ch_ret _ _
  | some n=>
   simp only [evIns] at e
   rcases z1k e with ⟨q,hv,e1⟩ | ⟨s,o,hv,e1⟩
   ·have ho:obOf A p=q.map MA.blk:=by simp only [obOf,z6e hv,blkM]
    obtain ⟨vs,_,e2⟩:=z1g e1
    refine key ?_ e2
    rw [ho]
    exact z34 (zco _ _ _) fun _=>ch_ret _ _
   ·refine key (z4x fun pv=>zcq (z4x fun v=>?_)) e1
    exact zf2 fun _=>ch_ret _ _
 | mapPut kt m kk x=>
  cases hp
  simp only [evIns] at e
  obtain ⟨r,hv,e1⟩:=z1n e
  have ho:obOf A p=r:=by simp only [obOf,hv,blkM]
  refine key ?_ e1
  rw [ho]
  exact z4x fun _=>z4x fun _=>zcq (z34 (zn1 _ _ _) fun _=>ch_ret _ _)
 | mapDel kt m kk=>
  cases hp
  simp only [evIns] at e
  obtain ⟨r,hv,e1⟩:=z1n e
  have ho:obOf A p=r:=by simp only [obOf,hv,blkM]
  refine key ?_ e1
  rw [ho]
  exact z4x fun _=>zcq (z34 (zn2 _ _) fun _=>ch_ret _ _)
 | mapClr m=>
  cases hp
  simp only [evIns] at e
  obtain ⟨r,hv,e1⟩:=z1n e
  have ho:obOf A p=r:=by simp only [obOf,hv,blkM]
  refine key ?_ e1
  rw [ho]
  exact z34 (zn3 _) fun _=>ch_ret _ _
 | slClr el z s=>
  cases hp
  simp only [evIns] at e
  obtain ⟨q,l,z',hv,e1⟩:=z17 e
  have ho:obOf A p=q.map MA.blk:=by simp only [obOf,hv,blkM]
  refine key ?_ e1
  rw [ho]
  exact z34 (zqk _ _ _) fun _=>ch_ret _ _
 | app d el by' s t=>
  cases hp
  simp only [evIns] at e
  obtain ⟨q,l,z,hv,e1⟩:=z17 e
  have ho:obOf A p=q.map MA.blk:=by simp only [obOf,hv,blkM]
  obtain ⟨q2,l2,z2,hv2,e2⟩:=z17 e1
  refine key ?_ e2
  rw [ho]
  exact z31 (z34 (zuh _ _ ⟨q,l⟩ _) fun _=>ch_ret _ _) (z2g _)
 | appS d s t=>
  cases hp
  simp only [evIns] at e
  obtain ⟨q,l,z,hv,e1⟩:=z17 e
  have ho:obOf A p=q.map MA.blk:=by simp only [obOf,hv,blkM]
  obtain ⟨l2,hv2,e2⟩:=z2c e1
  refine key ?_ e2
  rw [ho]
  exact z31 (z34 (zk7 _ _ ⟨q,l⟩ _) fun _=>ch_ret _ _) (z2g _)
 | copy d el s t=>
  cases hp
  simp only [evIns] at e
  obtain ⟨q,l,z,hv,e1⟩:=z17 e
  have ho:obOf A p=q.map MA.blk:=by simp only [obOf,hv,blkM]
  obtain ⟨q2,l2,z2,hv2,e2⟩:=z17 e1
  refine key ?_ e2
  rw [ho]
  exact z31 (z34 (zsw _ ⟨q,l⟩ _) fun _=>ch_ret _ _) (z2g _)
 | copyS d s t=>
  cases hp
  simp only [evIns] at e
  obtain ⟨q,l,z,hv,e1⟩:=z17 e
  have ho:obOf A p=q.map MA.blk:=by simp only [obOf,hv,blkM]
  obtain ⟨l2,hv2,e2⟩:=z2c e1
  refine key ?_ e2
  rw [ho]
  exact z31 (z34 (zqm ⟨q,l⟩ _) fun _=>ch_ret _ _) (z2g _)
 | markB d s=>
  cases hp
  simp only [evIns] at e
  obtain ⟨q,l,z,hv,e1⟩:=z17 e
  have ho:obOf A p=q.map MA.blk:=by simp only [obOf,hv,blkM]
  refine key ?_ e1
  rw [ho]
  exact z31 (z34 (zql ⟨q,l⟩) fun _=>ch_ret _ _) (z2g _)
 | _=>first | (simp [Ins.cls] at hc;done) | (simp [Ins.pl] at hp;done)
end
end Go.Mini

/- Regions whose order is drawn (3): what is found in the text's order. -/
namespace Go.Mini
universe u

section
variable {β:Type} {C:List (Nat×Entry)}

theorem zhq (w:Z) (x:Ins):(zIns w x).dst=x.dst:=by
  obtain ⟨b,rs,n⟩:=w
  cases x<;>first | rfl | (simp only [zIns];cases b<;>cases (mem _ rs)<;>rfl)

mutual
theorem zls (w:Z):∀x:Item,(zItem w x).dsts=x.dsts
  | .i x=>by simp only [zItem,Item.dsts,zhq]
  | .sc p a g body b d=>by simp only [zItem,Item.dsts,z6a w body]
theorem z6a (w:Z):∀l:List Item,itemsDsts (zItems w l)=itemsDsts l
  | []=>rfl
  | x::r=>by simp only [zItems,itemsDsts,zls w x,z6a w r]
end

theorem zlt (pu:List Nat) (w:Z) (x:Ins):pureItem pu (.i (zIns w x))=pureItem pu (.i x):=by
  cases x with
  | mv d x=>simp only [zIns,pureItem,pureIns]
  | call d f args=>simp only [zIns];cases (w.w && !(mem d w.rs))<;>simp only [pureItem,pureIns,cond_true,cond_false]
  | callv d f args=>simp only [zIns];cases (w.w && !(mem d w.rs))<;>simp only [pureItem,pureIns,cond_true,cond_false]
  | alloc | box | bslice | mkSl | toBytes | mkMap=>simp only [zIns];cases (mem _ w.rs)<;>rfl
  | _=>rfl

mutual
theorem zlu (pu:List Nat) (w:Z):∀x:Item,pureItem pu (zItem w x)=pureItem pu x
  | .i x=>by simp only [zItem,zlt]
  | .sc p a g body b d=>by simp only [zItem,pureItem]
theorem zba (pu:List Nat) (w:Z):∀l:List Item,pureItems pu (zItems w l)=pureItems pu l
  | []=>rfl
  | x::r=>by simp only [zItems,pureItems,zlu pu w x,zba pu w r]
end

def upsP (p:List (Nat×PV×Bool)):Option (Nat×PV)→List (Nat×PV×Bool)
  | none=>p
  | some (n,pv)=>(n,pv,true)::p
def Fr.ups (fr:Fr) (u:Option (Nat×PV)):Fr:=⟨fr.v,upsP fr.p u⟩

theorem Psub.ups {p q:List (Nat×PV×Bool)} (h:Psub p q) (u:Option (Nat×PV)):Psub (upsP p u) (upsP q u):=by
  cases u with
  | none=>exact h
  | some x=>
    obtain ⟨n,pv⟩:=x
    intro m qv b e
    simp only [upsP,z0u] at e ⊢
    split at e
    · cases e;rename_i hm;rw [if_pos hm];exact ⟨true,rfl,id⟩
    · rename_i hm;rw [if_neg hm];exact h m qv b e

def noDst:Ins→Bool
  | .store _ _ _ | .mapPut _ _ _ _ | .mapDel _ _ _ | .mapClr _ | .slClr _ _ _=>true
  | _=>false

theorem zbb {x:Ins} (hx:noDst x=true) {A A' B:Fr} (up:Up A B x.opds) (ps:Psub A.p B.p) {h h':Hp} (e:evIns C x A ret h=some (A',h')) :
    ∃u,A'=A.ups u∧evIns C x B ret h=some (B.ups u,h')∧(∀n pv,u=some (n,pv)→∃q,look A.p n=some (q,true)):=by
  have fin0:∀ {m:M Unit} {h1:Hp},bd m (fun _=>ret A) h1=some (A',h')→∃u,A'=A.ups u∧bd m (fun _=>ret B) h1=some (B.ups u,h')∧(∀n pv,u=some (n,pv)→∃q,look A.p n=some (q,true)):=by
    intro m h1 e
    obtain ⟨_,h2,e1,e2⟩:=z0d e
    cases e2
    exact ⟨none,rfl,by simp only [bd,e1];rfl,fun _ _ c=>by cases c⟩
  cases x with
  | mapPut kt m kk x=>
    simp only [evIns,Ins.opds] at e up ⊢
    obtain ⟨r,hv,e1⟩:=z1n e
    obtain ⟨kv,hk,e2⟩:=z0f e1
    obtain ⟨v,hv2,e3⟩:=z0f e2
    obtain ⟨hkk,e4⟩:=z1h e3
    obtain ⟨u,h1,h2,h3⟩:=fin0 e4
    refine ⟨u,h1,?_,h3⟩
    rw [up.mv (by simp) hv,up.mv (by simp) hk,up.mv (by simp) hv2]
    simp only [wMap,okOf,hkk,wIf]
    exact h2
  | mapDel kt m kk=>
    simp only [evIns,Ins.opds] at e up ⊢
    obtain ⟨r,hv,e1⟩:=z1n e
    obtain ⟨kv,hk,e2⟩:=z0f e1
    obtain ⟨hkk,e4⟩:=z1h e2
    obtain ⟨u,h1,h2,h3⟩:=fin0 e4
    refine ⟨u,h1,?_,h3⟩
    rw [up.mv (by simp) hv,up.mv (by simp) hk]
    simp only [wMap,okOf,hkk,wIf]
    exact h2
  | mapClr m=>
    simp only [evIns,Ins.opds] at e up ⊢
    obtain ⟨r,hv,e1⟩:=z1n e
    obtain ⟨u,h1,h2,h3⟩:=fin0 e1
    refine ⟨u,h1,?_,h3⟩
    rw [up.mv (by simp) hv]
    exact h2
  | slClr e' z x=>
    simp only [evIns,Ins.opds] at e up ⊢
    obtain ⟨p,l,z',hv,e1⟩:=z17 e
    obtain ⟨u,h1,h2,h3⟩:=fin0 e1
    refine ⟨u,h1,?_,h3⟩
    rw [up.mv (by simp) hv]
    exact h2
  | store n p x=>
    have hp:∀ {s o:Nat} {v:FV},p.val A=some v→v≠.gone→p.val B=some v:=by
      intro s o v hv hne
      exact (up p (by simp [Ins.opds]) v hv).resolve_left hne
    have key:∀(n:Option Nat) (v:MV) (s o:Nat),okOf (look A.p s) (fun pv=>wIf pv.2 (pstore pv.1 n o v fun pv'=>ret (A.pset s pv'))) h=some (A',h') →
        ∃u,A'=A.ups u∧okOf (look B.p s) (fun pv=>wIf pv.2 (pstore pv.1 n o v fun pv'=>ret (B.pset s pv'))) h=some (B.ups u,h')∧(∀n pv,u=some (n,pv)→∃q,look A.p n=some (q,true)):=by
      intro n v s o e
      obtain ⟨⟨pv,b⟩,hl,e1⟩:=z0f e
      obtain ⟨hb,e2⟩:=z1h e1
      have hb':b=true:=hb
      subst hb'
      obtain ⟨b',hl',hbb⟩:=ps s pv true hl
      obtain rfl:=hbb rfl
      rw [hl']
      simp only [okOf,wIf]
      have h1:=z4z pv n o v ret (fun pv'=>ret (A.pset s pv'))
      have h2:=z4z pv n o v ret (fun pv'=>ret (B.pset s pv'))
      simp only [z39] at h1 h2
      simp only [←h1] at e2
      simp only [←h2]
      obtain ⟨pv',h3,e3,e4⟩:=z0d e2
      cases e4
      exact ⟨some (s,pv'),rfl,by simp only [bd,e3];rfl,fun n pv c=>by cases c;exact ⟨_,hl⟩⟩
    cases n with
    | none=>
      simp only [evIns] at e ⊢
      rcases z1k e with ⟨q,hv,e1⟩ | ⟨s,o,hv,e1⟩
      · obtain ⟨v,hv2,e2⟩:=z0f e1
        obtain ⟨u,h1,h2,h3⟩:=fin0 e2
        refine ⟨u,h1,?_,h3⟩
        rw [hp (s:=0) (o:=0) hv (by simp),up.mv (by simp [Ins.opds]) hv2]
        exact h2
      · obtain ⟨⟨pv,b⟩,hl,e2⟩:=z0f e1
        obtain ⟨hb,e3⟩:=z1h e2
        obtain ⟨v,hv2,e4⟩:=z0f e3
        have hk:=key none v s o (by
          rw [hl]
          have hb':b=true:=hb
          subst hb'
          exact e4)
        obtain ⟨u,h1,h2,h3⟩:=hk
        refine ⟨u,h1,?_,h3⟩
        rw [hp (s:=0) (o:=0) hv (by simp)]
        simp only [wPlace]
        obtain ⟨⟨pv2,b2⟩,hl2,e5⟩:=z0f h2
        obtain ⟨hb2,e6⟩:=z1h e5
        rw [hl2]
        have hb2':b2=true:=hb2
        subst hb2'
        simp only [okOf,wIf]
        rw [up.mv (by simp [Ins.opds]) hv2]
        exact e6
    | some n=>
      simp only [evIns] at e ⊢
      rcases z1k e with ⟨q,hv,e1⟩ | ⟨s,o,hv,e1⟩
      · obtain ⟨v,hv2,e2⟩:=z1g e1
        obtain ⟨u,h1,h2,h3⟩:=fin0 e2
        refine ⟨u,h1,?_,h3⟩
        rw [hp (s:=0) (o:=0) hv (by simp),up.mv (by simp [Ins.opds]) hv2]
        exact h2
      · obtain ⟨⟨pv,b⟩,hl,e2⟩:=z0f e1
        obtain ⟨hb,e3⟩:=z1h e2
        obtain ⟨v,hv2,e4⟩:=z0f e3
        have hk:=key (some n) v s o (by
          rw [hl]
          have hb':b=true:=hb
          subst hb'
          exact e4)
        obtain ⟨u,h1,h2,h3⟩:=hk
        refine ⟨u,h1,?_,h3⟩
        rw [hp (s:=0) (o:=0) hv (by simp)]
        simp only [wPlace]
        obtain ⟨⟨pv2,b2⟩,hl2,e5⟩:=z0f h2
        obtain ⟨hb2,e6⟩:=z1h e5
        rw [hl2]
        have hb2':b2=true:=hb2
        subst hb2'
        simp only [okOf,wIf]
        rw [up.mv (by simp [Ins.opds]) hv2]
        exact e6
  | _=>cases hx

structure TS where
  W:Nat→Option FV
  h:Hp
  p:List (Nat×PV×Bool)

def putW (W:Nat→Option FV) (d:Option Nat) (v:Option FV):Nat→Option FV:=fun n=>if d=some n then v else W n

structure Txt (B:Nat) (fr:Fr) (S:TS):Prop where
  b:∀n v,look fr.v n=some v→n<B
  v:∀n v,look fr.v n=some v→v=.gone∨S.W n=some v
  p:Psub fr.p S.p

section
variable (P:Program) (priv:List Nat) (ntmps:Nat) (w:Z) (ops:Array Oper)

def Wanted (o:Oper) (W:Nat→Option FV):Prop:=match o.guard with
  | none=>True
  | some (j,wt)=>∃oj gs,ops[j]? = some oj∧oj.dst=some gs∧W gs=some (.v (.bool wt))

def Step (C:List (Nat×Entry)) (i:Nat) (S S':TS):Prop:=∃o,ops[i]? = some o ∧
  ((¬Wanted ops o S.W∧S'=⟨putW S.W o.dst none,S.h,S.p⟩) ∨
   (Wanted ops o S.W∧∃x A h',compOp P priv o=some x∧insOk ntmps x=true∧Txt ntmps A S ∧
      ((∃d V,(zIns w x).val=some d∧o.dst=some d∧evIns C (zIns w x) A tp S.h=some (V,h')∧S'=⟨putW S.W (some d) (some V),h',S.p⟩) ∨
       (noDst (zIns w x)=true∧o.dst=none∧∃A' u,evIns C (zIns w x) A ret S.h=some (A',h')∧A'=A.ups u∧S'=⟨S.W,h',upsP S.p u⟩))) ∨
   (Wanted ops o S.W∧∃wt gs n d b x,pickOf o wt gs=some (n,d)∧d<ntmps∧S.W gs=some (.v (.bool b))∧(b=wt→S.W n=some (.v (.bool x)))∧(b≠wt→x = !wt) ∧
      S'=⟨putW S.W (some d) (some (.v (.bool x))),S.h,S.p⟩))

inductive Run (C:List (Nat×Entry)):Nat→TS→Nat→TS→Prop
  | nil (a:Nat) (S:TS):Run C a S a S
  | cons (a b:Nat) (S S1 S2:TS) (h:Step P priv ntmps w ops C a S S1) (t:Run C (a+1) S1 b S2):Run C a S b S2

end

section
variable {P:Program} {priv pu:List Nat} {ntmps:Nat} {w:Z} {ops:Array Oper}

theorem Run.trans {a b c:Nat} {S S1 S2:TS} (h:Run P priv ntmps w ops C a S b S1) (k:Run P priv ntmps w ops C b S1 c S2):Run P priv ntmps w ops C a S c S2:=by
  induction h with
  | nil=>exact k
  | cons a b S S1 S2 h t ih=>exact .cons a c S S1 _ h (ih k)

def NotW (ops:Array Oper) (j:Nat) (wt:Bool) (W:Nat→Option FV):Prop:=∀oj gs,ops[j]? = some oj→oj.dst=some gs→W gs≠some (.v (.bool wt))

theorem NotW.put {j:Nat} {wt:Bool} {W:Nat→Option FV} (h:NotW ops j wt W) (d:Option Nat):NotW ops j wt (putW W d none):=by
  intro oj gs h1 h2
  unfold putW
  split
  · simp
  · exact h oj gs h1 h2

def Undf (ops:Array Oper) (j:Nat) (W:Nat→Option FV):Prop:=∀oj gs,ops[j]? = some oj→oj.dst=some gs→W gs=none

theorem Undf.put {j:Nat} {W:Nat→Option FV} (h:Undf ops j W) (d:Option Nat):Undf ops j (putW W d none):=by
  intro oj gs h1 h2
  unfold putW
  split
  · rfl
  · exact h oj gs h1 h2
theorem Undf.notW {j:Nat} {W:Nat→Option FV} (h:Undf ops j W) (wt:Bool):NotW ops j wt W:=fun oj gs h1 h2=>by rw [h oj gs h1 h2];simp

theorem NotW.wanted {o:Oper} {j:Nat} {wt:Bool} {W:Nat→Option FV} (hg:o.guard=some (j,wt)) (h:NotW ops j wt W):¬Wanted ops o W:=by
  unfold Wanted
  rw [hg]
  rintro ⟨oj,gs,h1,h2,h3⟩
  exact h oj gs h1 h2 h3

theorem z6i {n a i:Nat} {r:List Nat} (h:List.range' a (n - a)=i::r):i=a∧a<n∧r=List.range' (a+1) (n - (a+1)):=by
  cases hk:n - a with
  | zero=>rw [hk] at h;simp at h
  | succ k=>
    rw [hk,List.range'_succ] at h
    cases h
    exact ⟨rfl,by omega,by rw [show n - (a+1)=k by omega]⟩

theorem zr5 (f:Nat):∀(a:Nat) (j:Nat) (wt:Bool) (lev:List Nat) (l:List Item) (rest:List Nat),items P ntmps priv pu ops f (List.range' a (ops.size - a)) (some (j,wt)) lev=some (l,rest) →
    ∀(S:TS),NotW ops j wt S.W→(∀j'∈lev,Undf ops j' S.W)→∃b S',rest=List.range' b (ops.size - b)∧Run P priv ntmps w ops C a S b S'∧S'.h=S.h∧S'.p=S.p∧(∀i,i ∉ itemsDsts l→S'.W i=S.W i)∧∀j',(Undf ops j' S.W→Undf ops j' S'.W)∧∀w',NotW ops j' w' S.W→NotW ops j' w' S'.W:=by
  induction f with
  | zero=>intro a j wt lev l rest h;cases h
  | succ f ih=>
    intro a j wt lev l rest h S hne hlev
    have done:some (l,rest)=some ([],List.range' a (ops.size - a))→∃b S',rest=List.range' b (ops.size - b)∧Run P priv ntmps w ops C a S b S'∧S'.h=S.h∧S'.p=S.p∧(∀i,i ∉ itemsDsts l→S'.W i=S.W i)∧∀j',(Undf ops j' S.W→Undf ops j' S'.W)∧∀w',NotW ops j' w' S.W→NotW ops j' w' S'.W:=by
      intro e
      cases e
      exact ⟨a,S,rfl,.nil _ _,rfl,rfl,fun _ _=>rfl,fun _=>⟨fun h=>h,fun _ h=>h⟩⟩
    cases his:List.range' a (ops.size - a) with
    | nil=>
      rw [his] at h
      simp only [items] at h
      exact done (by rw [his];exact h.symm)
    | cons i r=>
      obtain ⟨rfl,hlt,rfl⟩:=z6i his
      rw [his] at h
      have h0:=h
      simp only [items] at h
      cases ho:ops[i]? with
      | none=>rw [ho] at h;cases h
      | some o=>
        rw [ho] at h
        dsimp only at h
        cases hg:sameG o.guard (some (j,wt)) with
        | true=>
          rw [hg] at h
          simp only [cond_true] at h
          have hgd:=z4s hg
          split at h
          · rename_i x hx
            cases hc:insOk ntmps x&&dstOk o x with
            | false=>rw [hc] at h;cases h
            | true=>
              rw [hc] at h
              simp only [cond_true] at h
              simp only [Bool.and_eq_true] at hc
              split at h
              · rename_i l' q hl'
                cases h
                have st:Step P priv ntmps w ops C i S ⟨putW S.W o.dst none,S.h,S.p⟩:=⟨o,ho,.inl ⟨hne.wanted hgd,rfl⟩⟩
                obtain ⟨b,S',h1,h2,h3,h4,h5,h6⟩:=ih (i+1) j wt (i::lev) l' rest hl' ⟨putW S.W o.dst none,S.h,S.p⟩ (hne.put _) (by
                  intro j' hj'
                  rcases List.mem_cons.1 hj' with rfl | hj'
                  · intro oj gs e1 e2
                    rw [ho] at e1
                    cases e1
                    simp only [putW,e2,if_true]
                  · exact (hlev j' hj').put _)
                refine ⟨b,S',h1,.cons _ _ _ _ _ st h2,h3,h4,?_,fun j'=>⟨fun hn=>(h6 j').1 (hn.put _),fun w' hn=>(h6 j').2 w' (hn.put _)⟩⟩
                intro n hn
                simp only [itemsDsts,Item.dsts,List.mem_append,not_or] at hn
                rw [h5 n hn.2]
                show putW S.W o.dst none n=S.W n
                unfold putW
                rw [if_neg]
                intro hd
                have:=hc.2
                unfold dstOk at this
                rw [hd] at this
                exact hn.1 ((mem_iff _ _).1 this)
              · cases h
          · cases h
        | false=>
          rw [hg] at h
          simp only [cond_false] at h
          split at h
          · exact done (by rw [his];exact h.symm)
          · rename_i j2 w2 hgo
            cases hm:mem j2 lev with
            | false=>
              rw [hm] at h
              exact done (by rw [his];exact h.symm)
            | true=>
              rw [hm] at h
              simp only [cond_true] at h
              split at h
              · cases h
              · rename_i oj hoj
                split at h
                · cases h
                · rename_i gs hgs
                  split at h
                  · rename_i body kk q hbody
                    split at h
                    · cases h
                    · rename_i okk hokk
                      split at h
                      · cases h
                      · rename_i n d hpick
                        obtain ⟨hdst,_⟩:=z2u hpick
                        cases hcc:sameG okk.guard (some (j,wt))&&Nat.blt d ntmps && !(mem gs (itemsDsts body)) with
                        | false=>rw [hcc] at h;cases h
                        | true=>
                          rw [hcc] at h
                          simp only [cond_true] at h
                          simp only [Bool.and_eq_true] at hcc
                          have hgk:=z4s hcc.1.1
                          split at h
                          · rename_i l' q' hl'
                            cases h
                            rw [←his] at hbody
                            obtain ⟨b1,S1,h1,h2,h3,h4,h5,h6⟩:=ih i j2 w2 [] body (kk::q) hbody S ((hlev j2 ((mem_iff _ _).1 hm)).notW w2) (by intro j' hj';cases hj')
                            obtain ⟨rfl,_,rfl⟩:=z6i h1.symm
                            have st:Step P priv ntmps w ops C kk S1 ⟨putW S1.W okk.dst none,S1.h,S1.p⟩:=⟨okk,hokk,.inl ⟨((h6 j).2 wt hne).wanted hgk,rfl⟩⟩
                            obtain ⟨b,S',g1,g2,g3,g4,g5,g6⟩:=ih (kk+1) j wt (kk::lev) l' rest hl' ⟨putW S1.W okk.dst none,S1.h,S1.p⟩ (((h6 j).2 wt hne).put _) (by
                              intro j' hj'
                              rcases List.mem_cons.1 hj' with rfl | hj'
                              · intro oj' gs' e1 e2
                                rw [hokk] at e1
                                cases e1
                                simp only [putW,e2,if_true]
                              · exact ((h6 j').1 (hlev j' hj')).put _)
                            refine ⟨b,S',g1,h2.trans (.cons _ _ _ _ _ st g2),g3.trans h3,g4.trans h4,?_,fun j'=>⟨fun hn=>(g6 j').1 (((h6 j').1 hn).put _),fun w' hn=>(g6 j').2 w' (((h6 j').2 w' hn).put _)⟩⟩
                            intro m hm'
                            simp only [itemsDsts,Item.dsts,List.mem_append,not_or] at hm'
                            rw [g5 m hm'.2]
                            show putW S1.W okk.dst none m=S.W m
                            unfold putW
                            rw [if_neg (by rw [hdst];intro c;cases c;exact hm'.1.2 (by simp)),h5 m hm'.1.1]
                          · cases h
                  · cases h

theorem z49 (W:Nat→Option FV) (d:Nat) (v:Option FV):putW W (some d) v d=v:=by unfold putW;rw [if_pos rfl]
theorem zem (W:Nat→Option FV) {d n:Nat} (v:Option FV) (h:d≠n):putW W (some d) v n=W n:=by unfold putW;rw [if_neg (fun c=>h (by cases c;rfl))]

theorem Txt.setF {B:Nat} {fr:Fr} {S:TS} (t:Txt B fr S) (d:Nat) (hd:d<B) (V:FV) (h:Hp):Txt B (fr.setF d V) ⟨putW S.W (some d) (some V),h,S.p⟩:=by
  refine ⟨fun n v e=>?_,fun n v e=>?_,t.p⟩
  · have e2:look ((d,V)::fr.v) n=some v:=e
    rw [z0u] at e2
    split at e2
    · rename_i hn;rw [←hn];exact hd
    · exact t.b n v e2
  have e2:look ((d,V)::fr.v) n=some v:=e
  rw [z0u] at e2
  split at e2
  · rename_i hn
    cases e2
    subst hn
    exact .inr (z49 _ _ _)
  · rename_i hn
    rcases t.v n v e2 with h | h
    · exact .inl h
    · exact .inr ((zem _ _ hn).trans h)

theorem Txt.ups {B:Nat} {fr:Fr} {S:TS} (t:Txt B fr S) (u:Option (Nat×PV)) (h:Hp):Txt B (fr.ups u) ⟨S.W,h,upsP S.p u⟩:=⟨t.b,t.v,t.p.ups u⟩

theorem zhr {w:Z} {x:Ins} (hc:(zIns w x).cls<5):(noDst (zIns w x)=true∧x.dst=[])∨∃d,(zIns w x).val=some d∧x.dst=[d]:=by
  rw [←zhq w x]
  generalize zIns w x=y at hc
  cases y with
  | store n p x=>exact .inl ⟨rfl,rfl⟩
  | mapPut kt m k x=>exact .inl ⟨rfl,rfl⟩
  | mapDel kt m k=>exact .inl ⟨rfl,rfl⟩
  | mapClr m=>exact .inl ⟨rfl,rfl⟩
  | slClr e z x=>exact .inl ⟨rfl,rfl⟩
  | palloc d pv=>simp [Ins.cls] at hc
  | pbox d n x=>simp [Ins.cls] at hc
  | _=>exact .inr ⟨_,rfl,rfl⟩

theorem zhs {o:Oper} {x:Ins} (hx:compOp P priv o=some x) (hd:o.dst=none):x.dst=[]:=by
  obtain ⟨dst,op,type,pos,after,guard⟩:=o
  cases hd
  cases op with
  | store t a y=>
    simp only [compOp] at hx
    split at hx
    · rename_i b hb
      cases hg:isAggT P t with
      | true=>rw [hg] at hx;cases hx;rfl
      | false=>
        rw [hg] at hx
        simp only [cond_false] at hx
        split at hx
        · cases hx;rfl
        · cases hx
    · cases hx
  | mapUpdate t m kk y=>
    simp only [compOp] at hx
    split at hx
    · split at hx
      · cases hx;rfl
      · cases hx
    · cases hx
  | call c=>
    simp only [compOp] at hx
    split at hx
    · split at hx
      · split at hx
        · cases hx;rfl
        · split at hx
          · split at hx
            · cases hx;rfl
            · cases hx
          · cases hx
        · cases hx
      · cases hx
    · split at hx
      · split at hx
        · split at hx
          · cases hx;rfl
          · cases hx
        · cases hx
      · cases hx
    · cases hx
  | _=>cases hx

theorem Txt.lock {B:Nat} {fr:Fr} {S:TS} (t:Txt B fr S) (keep:List Nat):Txt B (fr.lock keep) S:=by
  refine ⟨t.b,t.v,fun n pv b e=>?_⟩
  obtain ⟨b',h1,h2⟩:=z2i (l:=fr.p) e
  obtain ⟨b2,h3,h4⟩:=t.p n pv b' h1
  refine ⟨b2,h3,fun hb=>h4 ?_⟩
  have h2':b=(b'&&mem n keep):=h2
  rw [hb] at h2'
  cases b' with
  | true=>rfl
  | false=>cases h2'

def GW (ops:Array Oper) (W:Nat→Option FV) (l:List Item):Option (Nat×Bool)→Prop
  | none=>True
  | some (j,wt)=>∃oj gs,ops[j]? = some oj∧oj.dst=some gs∧W gs=some (.v (.bool wt))∧gs ∉ itemsDsts l

theorem zo5 (hcl:∀(i:Nat) o x,ops[i]? = some o→compOp P priv o=some x→(zIns w x).cls<5) (f:Nat):∀(a:Nat) (g:Option (Nat×Bool)) (lev:List Nat) (l:List Item) (rest:List Nat),items P ntmps priv pu ops f (List.range' a (ops.size - a)) g lev=some (l,rest) →
    ∀ {β:Type} (k:Fr→M β) (fr:Fr) (S:TS) (res:β×Hp),Txt ntmps fr S→GW ops S.W l g→evItems C (zItems w l) fr k S.h=some res →
      ∃b S' fr',rest=List.range' b (ops.size - b)∧Run P priv ntmps w ops C a S b S'∧Txt ntmps fr' S'∧k fr' S'.h=some res∧(∀i,i ∉ itemsDsts l→S'.W i=S.W i) ∧
        ((∀n pv,look fr.p n≠some (pv,true))→S'.p=S.p):=by
  induction f with
  | zero=>intro a g lev l rest h;cases h
  | succ f ih=>
    intro a g lev l rest h β k fr S res tx hG e
    have done:some (l,rest)=some ([],List.range' a (ops.size - a))→∃b S' fr',rest=List.range' b (ops.size - b)∧Run P priv ntmps w ops C a S b S'∧Txt ntmps fr' S'∧k fr' S'.h=some res∧(∀i,i ∉ itemsDsts l→S'.W i=S.W i) ∧
        ((∀n pv,look fr.p n≠some (pv,true))→S'.p=S.p):=by
      intro e2
      cases e2
      exact ⟨a,S,fr,rfl,.nil _ _,tx,by simpa only [zItems,evItems] using e,fun _ _=>rfl,fun _=>rfl⟩
    cases his:List.range' a (ops.size - a) with
    | nil=>
      rw [his] at h
      simp only [items] at h
      exact done (by rw [his];exact h.symm)
    | cons i r=>
      obtain ⟨rfl,hlt,rfl⟩:=z6i his
      rw [his] at h
      simp only [items] at h
      cases ho:ops[i]? with
      | none=>rw [ho] at h;cases h
      | some o=>
        rw [ho] at h
        dsimp only at h
        have wantG:∀(W:Nat→Option FV),(∀i,i ∉ itemsDsts l→W i=S.W i)→∀o':Oper,sameG o'.guard g=true→Wanted ops o' W:=by
          intro W hW o' hg'
          have hgd:=z4s hg'
          unfold Wanted
          rw [hgd]
          cases g with
          | none=>trivial
          | some jw=>
            obtain ⟨j,wt⟩:=jw
            obtain ⟨oj,gs,h1,h2,h3,h4⟩:=hG
            exact ⟨oj,gs,h1,h2,by rw [hW gs h4];exact h3⟩
        have nextG:∀(S1:TS) (x:Item) (l':List Item),l=x::l'→(∀i,i ∉ x.dsts→S1.W i=S.W i)→GW ops S1.W l' g:=by
          intro S1 x l' hl hW
          cases g with
          | none=>trivial
          | some jw=>
            obtain ⟨j,wt⟩:=jw
            obtain ⟨oj,gs,h1,h2,h3,h4⟩:=hG
            rw [hl] at h4
            simp only [itemsDsts,List.mem_append,not_or] at h4
            exact ⟨oj,gs,h1,h2,by rw [hW gs h4.1];exact h3,h4.2⟩
        cases hg:sameG o.guard g with
        | true=>
          have hwant:=wantG S.W (fun _ _=>rfl) o hg
          rw [hg] at h
          simp only [cond_true] at h
          split at h
          · rename_i x hx
            cases hc:insOk ntmps x&&dstOk o x with
            | false=>rw [hc] at h;cases h
            | true=>
              rw [hc] at h
              simp only [cond_true] at h
              simp only [Bool.and_eq_true] at hc
              split at h
              · rename_i l' q hl'
                cases h
                simp only [zItems,zItem,evItems,evItem] at e
                obtain ⟨fr1,h1,e1,e2⟩:=zj0 e
                have hcls:=hcl i o x ho hx
                have hdl:∀d,x.dst=[d]→d<ntmps:=by
                  intro d hd
                  have:=hc.1
                  simp only [insOk,hd,List.all_cons,List.all_nil,Bool.and_true] at this
                  simpa using this
                have tell:∀S1:TS,S1.h=h1→Txt ntmps fr1 S1→Step P priv ntmps w ops C i S S1→(∀i,i ∉ x.dst→S1.W i=S.W i)→((∀n pv,look fr.p n≠some (pv,true))→S1.p=S.p∧∀n pv,look fr1.p n≠some (pv,true)) →
                    ∃b S' fr',rest=List.range' b (ops.size - b)∧Run P priv ntmps w ops C i S b S'∧Txt ntmps fr' S'∧k fr' S'.h=some res∧(∀j,j ∉ itemsDsts (.i x::l')→S'.W j=S.W j)∧((∀n pv,look fr.p n≠some (pv,true))→S'.p=S.p):=by
                  intro S1 hh1 tx1 st hW hp
                  obtain ⟨b,S',fr',g1,g2,g3,g4,g5,g6⟩:=ih (i+1) g (i::lev) l' rest hl' k fr1 S1 res tx1 (nextG S1 (.i x) l' rfl hW) (by rw [hh1];exact e2)
                  refine ⟨b,S',fr',g1,.cons _ _ _ _ _ st g2,g3,g4,?_,fun hf=>?_⟩
                  · intro j hj
                    simp only [itemsDsts,Item.dsts,List.mem_append,not_or] at hj
                    rw [g5 j hj.2,hW j hj.1]
                  · obtain ⟨hp1,hp2⟩:=hp hf
                    rw [g6 hp2,hp1]
                rcases zhr hcls with ⟨hnd,hdst⟩ | ⟨d,hv,hdst⟩
                · obtain ⟨u,e3,e4,e5⟩:=zbb (B:=fr) hnd (fun o _ v hv =>.inr hv) (Psub.refl _) e1
                  have hod:o.dst=none:=by
                    cases hdd:o.dst with
                    | none=>rfl
                    | some d=>
                      have:=hc.2
                      unfold dstOk at this
                      rw [hdd,hdst] at this
                      cases this
                  subst e3
                  refine tell ⟨S.W,h1,upsP S.p u⟩ rfl (tx.ups u h1) ⟨o,ho,.inr (.inl ⟨hwant,x,fr,h1,hx,hc.1,tx,.inr ⟨hnd,hod,_,u,e1,rfl,rfl⟩⟩)⟩ (fun _ _=>rfl) (fun hf=>?_)
                  cases u with
                  | none=>exact ⟨rfl,hf⟩
                  | some y=>
                    obtain ⟨n,pv⟩:=y
                    obtain ⟨q,hq⟩:=e5 n pv rfl
                    exact absurd hq (hf n q)
                · rw [z6f hv] at e1
                  obtain ⟨V,h2,e3,e4⟩:=z0d e1
                  cases e4
                  have hod:o.dst=some d:=by
                    cases hdd:o.dst with
                    | none=>
                      have:=zhs hx hdd
                      rw [hdst] at this
                      cases this
                    | some d'=>
                      have:=hc.2
                      unfold dstOk at this
                      rw [hdd,hdst] at this
                      have h3:=(mem_iff _ _).1 this
                      simp at h3
                      rw [h3]
                  refine tell ⟨putW S.W (some d) (some V),h1,S.p⟩ rfl (tx.setF d (hdl d hdst) V h1) ⟨o,ho,.inr (.inl ⟨hwant,x,fr,h1,hx,hc.1,tx,.inl ⟨d,V,hv,hod,e3,rfl⟩⟩)⟩ ?_ (fun hf=>⟨rfl,hf⟩)
                  · intro j hj
                    rw [hdst] at hj
                    show putW S.W (some d) (some V) j=S.W j
                    unfold putW
                    rw [if_neg (fun c=>hj (by cases c;simp))]
              · cases h
          · cases h
        | false=>
          rw [hg] at h
          simp only [cond_false] at h
          split at h
          · exact done (by rw [his];exact h.symm)
          · rename_i j wt hgo
            cases hm:mem j lev with
            | false=>
              rw [hm] at h
              exact done (by rw [his];exact h.symm)
            | true=>
              rw [hm] at h
              simp only [cond_true] at h
              split at h
              · cases h
              · rename_i oj hoj
                split at h
                · cases h
                · rename_i gs hgs
                  split at h
                  · rename_i body kk q hbody
                    split at h
                    · cases h
                    · rename_i okk hokk
                      split at h
                      · cases h
                      · rename_i n d hpick
                        obtain ⟨hdst,_⟩:=z2u hpick
                        cases hcc:sameG okk.guard g&&Nat.blt d ntmps && !(mem gs (itemsDsts body)) with
                        | false=>rw [hcc] at h;cases h
                        | true=>
                          rw [hcc] at h
                          simp only [cond_true] at h
                          simp only [Bool.and_eq_true,Bool.not_eq_true'] at hcc
                          have hdlt:d<ntmps:=by simpa using hcc.1.2
                          have hgsb:gs ∉ itemsDsts body:=fun c=>by rw [(mem_iff _ _).2 c] at hcc;cases hcc.2
                          split at h
                          · rename_i l' q' hl'
                            cases h
                            rw [←his] at hbody
                            simp only [zItems,zItem,evItems] at e
                            obtain ⟨t,hlk,hyes,hno⟩:=zo4 (pu:=pu) (zba pu w body).symm e
                            rw [z6a] at hyes hno
                            have hWg:S.W gs=some (.v (.bool t)):=(tx.v gs _ hlk).resolve_left (by simp)
                            -- what stands behind the pick
                            have behind:∀(S1:TS) (x:Bool),Run P priv ntmps w ops C i S kk S1→S1.p=S.p→(∀i,i ∉ itemsDsts body→S1.W i=S.W i)→q=List.range' (kk+1) (ops.size - (kk+1)) →
                                (t=wt→S1.W n=some (.v (.bool x)))→(t≠wt→x = !wt) →
                                evItems C (zItems w l') ((fr.del (itemsDsts body)).set d (.bool x)) k S1.h=some res →
                                ∃b S' fr',rest=List.range' b (ops.size - b)∧Run P priv ntmps w ops C i S b S'∧Txt ntmps fr' S'∧k fr' S'.h=some res∧(∀j,j ∉ itemsDsts (.sc (pureItems pu body) wt gs body (.t n) d::l')→S'.W j=S.W j)∧((∀n pv,look fr.p n≠some (pv,true))→S'.p=S.p):=by
                              intro S1 x run hp1 hW1 hq hyes' hno' e2
                              have tx1:Txt ntmps (fr.del (itemsDsts body)) S1:=by
                                refine ⟨fun m v hv=>?_,fun m v hv=>?_,fun m pv b hv=>?_⟩
                                · obtain ⟨y,hy⟩:=z3h (l:=fr.v) hv
                                  exact tx.b m y hy
                                · obtain ⟨h1,h2⟩:=z5f (l:=fr.v) hv
                                  rcases h2 with rfl | ⟨h2,_⟩
                                  · exact .inl rfl
                                  · rw [hW1 m h1];exact tx.v m v h2
                                · obtain ⟨_,h2⟩:=z2j (l:=fr.p) hv
                                  rw [hp1]
                                  exact tx.p m pv b h2
                              have hwk:Wanted ops okk S1.W:=wantG S1.W (fun j hj=>hW1 j (fun c=>hj (by simp only [itemsDsts,Item.dsts,List.mem_append];exact .inl (.inl c)))) okk hcc.1.1
                              have st:Step P priv ntmps w ops C kk S1 ⟨putW S1.W (some d) (some (.v (.bool x))),S1.h,S1.p⟩:=
                                ⟨okk,hokk,.inr (.inr ⟨hwk,wt,gs,n,d,t,x,hpick,hdlt,by rw [hW1 gs hgsb];exact hWg,hyes',hno',rfl⟩)⟩
                              subst hq
                              have hW2:∀j,j ∉ (Item.sc (pureItems pu body) wt gs body (.t n) d).dsts→putW S1.W (some d) (some (.v (.bool x))) j=S.W j:=by
                                intro j hj
                                simp only [Item.dsts,List.mem_append,not_or,List.mem_singleton] at hj
                                unfold putW
                                rw [if_neg (fun c=>hj.2 (by cases c;rfl))]
                                exact hW1 j hj.1
                              obtain ⟨b,S',fr',g1,g2,g3,g4,g5,g6⟩:=ih (kk+1) g (kk::lev) l' rest hl' k _ ⟨putW S1.W (some d) (some (.v (.bool x))),S1.h,S1.p⟩ res (tx1.setF d hdlt (.v (.bool x)) S1.h) (nextG ⟨putW S1.W (some d) (some (.v (.bool x))),S1.h,S1.p⟩ _ l' rfl hW2) e2
                              refine ⟨b,S',fr',g1,run.trans (.cons _ _ _ _ _ st g2),g3,g4,?_,fun hf=>?_⟩
                              · intro j hj
                                simp only [itemsDsts,List.mem_append,not_or] at hj
                                rw [g5 j hj.2]
                                exact hW2 j hj.1
                              · rw [g6 ?_]
                                · exact hp1
                                · intro m pv hm'
                                  obtain ⟨_,h2⟩:=z2j (l:=fr.p) hm'
                                  exact hf m pv h2
                            by_cases htw:t=wt
                            · obtain ⟨x,h1,e1,e2⟩:=hyes htw
                              obtain ⟨b1,S1,fr1,g1,g2,g3,g4,g5,g6⟩:=ih i (some (j,wt)) [] body (kk::q) hbody _ (fr.lock []) S (x,h1) (tx.lock []) ⟨oj,gs,hoj,hgs,by rw [←htw];exact hWg,hgsb⟩ e1
                              obtain ⟨rfl,_,rfl⟩:=z6i g1.symm
                              have hp:S1.p=S.p:=g6 (by
                                intro m pv hm'
                                obtain ⟨b',_,h2⟩:=z2i (l:=fr.p) hm'
                                cases b'<;>cases h2)
                              cases hmv:(Opd.t n).mv fr1 with
                              | none=>rw [hmv] at g4;cases g4
                              | some m=>
                                rw [hmv] at g4
                                cases m with
                                | bool y=>
                                  have hxy:some (y,S1.h)=some (x,h1):=g4
                                  cases hxy
                                  have hWn:S1.W n=some (.v (.bool x)):=by
                                    have h5:look fr1.v n=some (.v (.bool x)):=by
                                      unfold Opd.mv at hmv
                                      split at hmv
                                      · rename_i v' hv'
                                        cases hmv
                                        exact hv'
                                      · cases hmv
                                    exact (g3.v n _ h5).resolve_left (by simp)
                                  exact behind S1 x g2 hp g5 rfl (fun _=>hWn) (fun c=>absurd htw c) e2
                                | _=>cases g4
                            · have e2:=hno htw
                              have hnw:NotW ops j wt S.W:=by
                                intro oj' gs' e3 e4
                                rw [hoj] at e3
                                cases e3
                                rw [hgs] at e4
                                cases e4
                                rw [hWg]
                                intro c
                                cases c
                                exact htw rfl
                              obtain ⟨b1,S1,g1,g2,g3,g4,g5,_⟩:=zr5 (C:=C) (w:=w) f i j wt [] body (kk::q) hbody S hnw (by intro j' hj';cases hj')
                              obtain ⟨rfl,_,rfl⟩:=z6i g1.symm
                              exact behind S1 (!wt) g2 g4 g5 rfl (fun c=>absurd c htw) (fun _=>rfl) (by rw [g3];exact e2)
                          · cases h
                  · cases h

end
end
end Go.Mini
