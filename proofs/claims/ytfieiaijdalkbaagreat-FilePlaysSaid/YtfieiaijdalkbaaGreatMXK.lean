/- Regions whose order is drawn: what is filled, beside the plain new block. -/
import Derived.Test.YtfieiaijdalkbaaGreatMXH
namespace Go.Mini
universe u
section
variable{β:Type}{C:List (Nat×Entry)}
theorem z7l{α:Type}{b:Nat}{blk:Blk}{a a':α}{h h':Hp}(e:bd (zc2 b blk) (fun _=>ret a) h=some (a',h')):h.get b=.dead∧b<h.size∧h'=h.set b blk∧a'=a:=by
 obtain⟨_,h1,e1,e2⟩:=z0f e;cases e2;unfold zc2 at e1;split at e1
 ·rename_i hd;split at e1
  ·rename_i hl;cases e1;exact⟨hd,hl,rfl,rfl⟩
  ·cases e1
 ·cases e1
def Cl(ρ:Rho)(v:MV):Prop:=∃x,VRel ρ v x
theorem z5h{ρ:Rho}{v:MV}(h:zdw v=true):Cl ρ v:=by
 cases v with
 | bool b=>exact⟨_,.bool b⟩
 | int k n=>exact⟨_,.int k n⟩
 | str s=>exact⟨_,.str s⟩
 | ptr p=>cases p with
  | none=>exact⟨_,.nil⟩
  | some a=>cases h
 | sl p l e=>cases p with
  | none=>cases l with
   | zero=>exact⟨_,.slNil e⟩
   | succ l=>cases h
  | some a=>cases h
 | map r=>cases r with
  | none=>exact⟨_,.mapNil⟩
  | some a=>cases h
 | nilFn=>exact⟨_,.nilFn⟩
 | nilIface=>exact⟨_,.nilIface⟩
 | _=>cases h
theorem zlw{ρ:Rho}{z:List MV}(h:z.all zdw=true):∀v∈z,Cl ρ v:=fun v hv=>z5h (List.all_eq_true.1 h v hv)
theorem z16x{ρ:Rho}{cs:List MV}{xs:List Value}(h:VRels ρ cs xs):∀v∈cs,Cl ρ v:=by
 intro v hv;obtain⟨i,hi⟩:=List.getElem?_of_mem hv;obtain⟨x,_,hr⟩:=h.get i v hi;exact⟨x,hr⟩
def ClA(ρ:Rho)(v:MV):Prop:=match v with
 | .agg cs=>∀u∈cs,Cl ρ u
 | v=>Cl ρ v
theorem zrr{s:S}(ok:Ok s){x:Opd}(hx:zr9 x=true){v:MV}(h:x.mv s.fr=some v):ClA s.ρ v:=by
 cases x with
 | t n=>
  have h1:z0g s.fr.v n=some (.v v):=Opd.mv_val h;have h2:VRel s.ρ v (s.t.getD n undef):=(ok.slots n _ h1).2;generalize s.t.getD n undef=y at h2;have key:Cl s.ρ v:=⟨_,h2⟩;cases v with
  | agg cs=>cases h2 with | agg _ _ hv=>exact z16x hv
  | _=>exact key
 | c u=>
  have:u=v:=by simpa[Opd.mv,Opd.val]using h
  subst this;cases u with
  | agg cs=>exact zlw hx
  | bool b=>exact z5h hx
  | int k n=>exact z5h hx
  | str s=>exact z5h hx
  | ptr p=>exact z5h hx
  | sl p l e=>exact z5h hx
  | map r=>exact z5h hx
  | fn f cs=>exact z5h hx
  | nilFn=>exact z5h hx
  | iface t v=>exact z5h hx
  | nilIface=>exact z5h hx
  | tup vs=>exact z5h hx
 | gl g=>cases hx
 | fn f=>cases hx
theorem zzv{ρ:Rho}{v:MV}(h:ClA ρ v)(hc:z10 v=true):Cl ρ v:=by
 cases v<;>first | exact h | cases hc
theorem z199{ρ:Rho}{cs:List MV}(h:∀v∈cs,Cl ρ v){n:Nat}{u:MV}(hu:Cl ρ u):∀v∈cs.set n u,Cl ρ v:=by
 intro v hv;rcases List.mem_or_eq_of_mem_set hv with h1 | rfl
 ·exact h v h1
 ·exact hu
theorem z16y{ρ:Rho}{cs vs:List MV}(h:∀v∈cs,Cl ρ v)(h2:∀v∈vs,Cl ρ v)(n:Nat):∀v∈z11 cs n vs,Cl ρ v:=by
 intro v hv;simp only[z11,List.mem_append]at hv;rcases hv with(hv | hv) | hv
 ·exact h v (List.mem_of_mem_take hv)
 ·exact h2 v hv
 ·exact h v (List.mem_of_mem_drop hv)
theorem zo4{ρ:Rho}:∀{l:List (Nat×Option Nat×MV)}{z cs:List MV},z2d z l=some cs→(∀v∈z,Cl ρ v)→(∀p∈l,ClA ρ p.2.2)→∀v∈cs,Cl ρ v
 | [],z,cs,h,hz,_=>by simp only[z2d]at h;cases h;exact hz
 | (off,some n,.agg vs)::r,z,cs,h,hz,hl=>by
  simp only[z2d]at h;split at h
  ·exact zo4 h (z16y hz (hl (off,some n,.agg vs) (List.mem_cons_self ..)) _) fun p hp=>hl p (List.mem_cons_of_mem _ hp)
  ·cases h
 | (off,none,v)::r,z,cs,h,hz,hl=>by
  simp only[z2d]at h;split at h
  ·rename_i hc;exact zo4 h (z199 hz (zzv (hl (off,none,v) (List.mem_cons_self ..)) hc.2)) fun p hp=>hl p (List.mem_cons_of_mem _ hp)
  ·cases h
 | (off,some n,.bool _)::r,z,cs,h,_,_ | (off,some n,.int _ _)::r,z,cs,h,_,_ | (off,some n,.str _)::r,z,cs,h,_,_ | (off,some n,.ptr _)::r,z,cs,h,_,_ | (off,some n,.sl _ _ _)::r,z,cs,h,_,_
 | (off,some n,.map _)::r,z,cs,h,_,_ | (off,some n,.fn _ _)::r,z,cs,h,_,_ | (off,some n,.nilFn)::r,z,cs,h,_,_ | (off,some n,.iface _ _)::r,z,cs,h,_,_ | (off,some n,.nilIface)::r,z,cs,h,_,_ | (off,some n,.tup _)::r,z,cs,h,_,_=>by
  simp only[z2d]at h;cases h
theorem zrs{s:S}(ok:Ok s):∀{ps:List (Nat×Option Nat×Opd)}{l:List (Nat×Option Nat×MV)},z4x s.fr ps=some l→(∀p∈ps,zr9 p.2.2=true)→∀p∈l,ClA s.ρ p.2.2
 | [],l,h,_=>by cases h;intro p hp;cases hp
 | (o,n,x)::r,l,h,hx=>by
  simp only[z4x]at h;split at h
  ·rename_i v l' hv hl;cases h;intro p hp;rcases List.mem_cons.1 hp with rfl | hp
   ·exact zrr ok (hx (o,n,x) (List.mem_cons_self ..)) hv
   ·exact zrs ok hl (fun p hp=>hx p (List.mem_cons_of_mem _ hp)) p hp
  ·cases h
theorem zw8{ρ:Rho}{z:List MV}(h:∀v∈z,Cl ρ v):∀n,∀v∈z0t n z,Cl ρ v
 | 0,v,hv=>by cases hv
 | n+1,v,hv=>by
  simp only[z0t,List.mem_append]at hv;rcases hv with hv | hv
  ·exact h v hv
  ·exact zw8 h n v hv
theorem z19a{w:Z}{x:Ins}(h2:(z0w w x).cls=2)(hok:zfk (z0w w x)=true){s:S}(ok:Ok s){h':Hp}{V:FV}(e:z08 C (z0w w x) s.fr tp s.h=some (V,h')) :
  ∃b blk V0,(z0w w x).fb=some b∧s.h.get b=.dead∧b<s.h.size∧z6f blk∧h'=s.h.set b blk∧BC s.ρ blk∧Ren s.h.size b V0 V∧z08 C x s.fr tp s.h=some (V0,s.h.push blk):=by
 cases x with
 | alloc d z=>
  revert h2 hok e;simp only[z0w];cases mem d w.rs with
  | false=>intro h2;simp[Ins.cls]at h2
  | true=>
   intro _ hok e;simp only[cond_true,z08,z1f]at e;obtain⟨p,h1,e1,e2⟩:=z0f e;cases e2;obtain⟨k1,k2,k3,rfl⟩:=z7l e1;exact⟨_,_,_,rfl,k1,k2,by simp[z6f],k3,zlw hok,.ptr,rfl⟩
 | box d a x=>
  revert h2 hok e;simp only[z0w];cases mem d w.rs with
  | false=>intro h2;simp[Ins.cls]at h2
  | true=>
   intro _ hok e;simp only[cond_true]at e hok;cases a with
   | true=>
    simp only[z08,z1f]at e ⊢;obtain⟨cs,hv,e0⟩:=z2t e;obtain⟨p,h1,e1,e2⟩:=z0f e0;cases e2;obtain⟨k1,k2,k3,rfl⟩:=z7l e1;refine⟨_,.cells cs false,_,rfl,k1,k2,by simp[z6f],k3,zrr ok hok hv,.ptr,?_⟩;rw[hv];rfl
   | false=>
    simp only[z08,z1f]at e ⊢;obtain⟨v,hv,e0⟩:=z0i e;obtain⟨p,h1,e1,e2⟩:=z0f e0;cases e2;unfold zkz at e1;split at e1
    ·rename_i hc;obtain⟨k1,k2,k3,rfl⟩:=z7l e1;refine⟨_,.cells [v] false,_,rfl,k1,k2,by simp[z6f],k3,?_,.ptr,?_⟩
     ·intro u hu;obtain rfl:u=v:=by simpa using hu
      exact zzv (zrr ok hok hv) hc
     ·rw[hv];simp only[z19,bd,z8d,hc,if_true];rfl
    ·cases e1
 | bslice d el len z parts=>
  revert h2 hok e;simp only[z0w];cases mem d w.rs with
  | false=>intro h2;simp[Ins.cls]at h2
  | true=>
   intro _ hok e;simp only[cond_true,zfk,Bool.and_eq_true]at e hok;simp only[z08,z1f]at e ⊢;obtain⟨l,hl,e0⟩:=z0i e;obtain⟨cs,hf,e0⟩:=z0i e0;obtain⟨p,h1,e1,e2⟩:=z0f e0;cases e2;obtain⟨k1,k2,k3,rfl⟩:=z7l e1;refine⟨_,.cells cs false,_,rfl,k1,k2,by simp[z6f],k3,zo4 hf (zlw hok.1) (zrs ok hl fun p hp=>List.all_eq_true.1 hok.2 p hp),.sl _ _,?_⟩;rw[hl];simp only[z19];rw[hf];rfl
 | mkSl d el bytes z l c=>
  revert h2 hok e;simp only[z0w];cases mem d w.rs with
  | false=>intro h2;simp[Ins.cls]at h2
  | true=>
   intro _ hok e;simp only[cond_true,z08,z1f]at e ⊢;obtain⟨k1',n1,hv1,e0⟩:=z30 e;obtain⟨k2',n2,hv2,e0⟩:=z30 e0;obtain⟨p,h1,e1,e2⟩:=z0f e0;cases e2;unfold zsl at e1;split at e1
   ·rename_i hc;obtain⟨k1,k2,k3,rfl⟩:=z7l e1;refine⟨_,.cells (z0t n2.toNat z) false,_,rfl,k1,k2,by simp[z6f],k3,zw8 (zlw hok) _,.sl _ _,?_⟩;rw[hv1,hv2];simp only[z3o,bd,mkSl,hc,and_self,if_true];rfl
   ·cases e1
 | toBytes d x=>
  revert h2 hok e;simp only[z0w];cases mem d w.rs with
  | false=>intro h2;simp[Ins.cls]at h2
  | true=>
   intro _ hok e;simp only[cond_true,z08,z1f]at e ⊢;obtain⟨l,hv,e0⟩:=z49 e;obtain⟨p,h1,e1,e2⟩:=z0f e0;cases e2;unfold zi2 at e1;split at e1
   ·rename_i hc;obtain⟨k1,k2,k3,rfl⟩:=z7l e1;refine⟨_,.cells (bytesOf l) false,_,rfl,k1,k2,by simp[z6f],k3,?_,.sl _ _,?_⟩
    ·intro u hu;simp only[bytesOf,List.mem_map]at hu;obtain⟨c,_,rfl⟩:=hu;exact⟨_,.int _ _⟩
    ·rw[hv];simp only[z58,bd,toBytes,hc,if_true];rfl
   ·cases e1
 | mkMap d=>
  revert h2 hok e;simp only[z0w];cases mem d w.rs with
  | false=>intro h2;simp[Ins.cls]at h2
  | true=>
   intro _ hok e;simp only[cond_true,z08,z1f]at e;obtain⟨p,h1,e1,e2⟩:=z0f e;cases e2;obtain⟨k1,k2,k3,rfl⟩:=z7l e1;exact⟨_,_,_,rfl,k1,k2,by simp[z6f],k3,⟨_,.nil⟩,.map,rfl⟩
 | call d f args=>revert h2;simp only[z0w];cases (w.w && !(mem d w.rs))<;>(intro h2;simp[Ins.cls]at h2)
 | callv d f args=>revert h2;simp only[z0w];cases (w.w && !(mem d w.rs))<;>(intro h2;simp[Ins.cls]at h2)
 | load d t p=>revert h2;simp only[z0w];cases (mem d w.rs)<;>(intro h2;simp[Ins.cls]at h2)
 | _=>simp[z0w,Ins.cls]at h2
end
end Go.Mini

/- Regions whose order is drawn: which blocks are filled, in the text's order. -/
namespace Go.Mini
universe u
theorem zpj{d d':Nat}:∀{rs:List Nat},mem d rs=true→mem d' rs=true→z6k d rs=z6k d' rs→d=d'
 | [],h,_,_=>by cases h
 | x::r,h,h',e=>by
  simp only[z6k]at e;simp only[mem,Bool.or_eq_true]at h h';cases hx:Nat.beq x d with
  | true=>
   have e1:=Nat.eq_of_beq_eq_true hx;rw[hx]at e;cases hx':Nat.beq x d' with
   | true=>exact e1.symm.trans (Nat.eq_of_beq_eq_true hx')
   | false=>rw[hx']at e;simp at e
  | false=>
   cases hx':Nat.beq x d' with
   | true=>rw[hx,hx']at e;simp at e
   | false=>
    rw[hx,hx']at e;simp only[cond_false,Nat.add_right_cancel_iff]at e;exact zpj (h.resolve_left (by rw[hx];simp)) (h'.resolve_left (by rw[hx'];simp)) e
theorem zt0{d:Nat}:∀{rs:List Nat},mem d rs=true→z6k d rs<rs.length
 | [],h=>by cases h
 | x::r,h=>by
  simp only[z6k,List.length_cons];simp only[mem,Bool.or_eq_true]at h;cases hx:Nat.beq x d with
  | true=>simp
  | false=>
   have:=zt0 (h.resolve_left (by rw[hx];simp))
   simp only[cond_false];omega
theorem z116{w:Z}{x:Ins}{d b:Nat}(hv:(z0w w x).val=some d)(hb:(z0w w x).fb=some b):mem d w.rs=true∧b=w.b+z6k d w.rs:=by
 cases x with
 | alloc d' z | box d' a x | bslice d' e len z ps | mkSl d' e by' z l c | toBytes d' x | mkMap d'=>
  revert hv hb;simp only[z0w];cases hm:mem d' w.rs with
  | false=>intro _ hb;cases hb
  | true=>
   intro hv hb;cases hv;cases hb;exact⟨hm,rfl⟩
 | call d' f args=>revert hb;simp only[z0w];cases (w.w && !(mem d' w.rs))<;>(intro hb;cases hb)
 | callv d' f args=>revert hb;simp only[z0w];cases (w.w && !(mem d' w.rs))<;>(intro hb;cases hb)
 | load d' t p=>revert hb;simp only[z0w];cases (mem d' w.rs)<;>(intro hb;cases hb)
 | _=>cases hb
theorem za4:∀(n:Nat)(h:Hp)(c:Nat),(h.holds n).get c=if h.size≤c∧c<h.size+n then .dead else h.get c
 | 0,h,c=>by simp only[Hp.holds];rw[if_neg (by omega)]
 | n+1,h,c=>by
  simp only[Hp.holds];rw[za4 n,Hp.get_push,Hp.size_push];by_cases e:c=h.size
  ·rw[if_neg (by omega),if_pos e,if_pos (by omega)]
  ·rw[if_neg e];by_cases e2:h.size≤c∧c<h.size+(n+1)
   ·rw[if_pos e2,if_pos (by omega)]
   ·rw[if_neg e2,if_neg (by omega)]
theorem zdd:∀(n:Nat)(h:Hp),(h.holds n).size=h.size+n
 | 0,h=>rfl
 | n+1,h=>by simp only[Hp.holds];rw[zdd n,Hp.size_push];omega
theorem HRel.holds{ρ:Rho}{h:Hp}{H:Array Obj}(k:HRel ρ h H)(n:Nat):HRel ρ (h.holds n) H:=by
 have hd:∀c,¬z1o (h.holds n) c→¬z1o h c:=by
  intro c hc;unfold z1o at *;rw[za4]at hc;split at hc
  ·exact absurd rfl hc
  ·exact hc
 have ho:∀c,Own (h.holds n) c→Own h c:=by
  intro c hc;unfold Own at *;rw[za4]at hc;split at hc
  ·rcases hc with⟨_,h⟩ | ⟨_,h⟩<;>cases h
  ·exact hc
 refine⟨fun b rb e=>by rw[zdd];have:=k.dom b rb e;omega,fun b hb=>k.live b (hd b hb),fun b b' rb rb' e e' hb hb'=>k.inj b b' rb rb' e e' (ho b hb) (hd b' hb'),fun b rb e=>?_,k.gl⟩;rw[za4,if_neg (by have:=k.dom b rb e;omega)];exact k.blk b rb e
section
variable{P:Program}{priv:List Nat}{ntmps:Nat}{w:Z}{ops:Array Oper}{C:List (Nat×Entry)}
def z8a(P:Program)(w:Z)(priv:List Nat)(ops:Array Oper)(j b:Nat):Prop:=∃o d,ops[j]? = some o∧(z14 P w priv o).c=2∧o.dst=some d∧mem d w.rs=true∧b=w.b+z6k d w.rs
theorem za5(F:Facts P w priv ops){j j' b:Nat}(h:z8a P w priv ops j b)(h':z8a P w priv ops j' b):j=j':=by
 obtain⟨o,d,h1,h2,h3,h4,rfl⟩:=h;obtain⟨o',d',g1,g2,g3,g4,g5⟩:=h';have hd:d=d':=zpj h4 g4 (by omega);subst hd;rcases Nat.lt_trichotomy j j' with h | h | h
 ·exact absurd g3 (F.dis j j' o o' d h h1 g1 h3)
 ·exact h
 ·exact absurd h3 (F.dis j' j o' o d h g1 h1 g3)
def zaq(S S':TS)(b:Nat)(blk:Blk):Prop:=z6f blk∧S.h.get b=.dead∧b<S.h.size∧S'.h=S.h.set b blk
theorem zeo(F:Facts P w priv ops){i:Nat}{S S':TS}(h:zf0 P priv ntmps w ops C i S S'){o:Oper}(ho:ops[i]? = some o)(hc:(z14 P w priv o).c=2) :
  S'.p=S.p∧(S'.h=S.h∨∃b blk,z8a P w priv ops i b∧zaq S S' b blk):=by
 obtain⟨o',ho',h⟩:=h;rw[ho]at ho';cases ho';have hcl:=F.cls i o ho;rcases h with⟨_,rfl⟩ | ⟨_,y,A,h',hy,_,tx,⟨d,V,hv,hd,e,rfl⟩ | ⟨hn,_,A',u,e,hA,rfl⟩⟩ | ⟨_,wt,gs,n,d,b,z,hp,_,_,_,_,rfl⟩
 ·exact⟨rfl,.inl rfl⟩
 ·obtain⟨hcc,_⟩:=zaj (w:=w) hy hcl;have h2:(z0w w y).cls=2:=hcc.symm.trans hc;obtain⟨b,hb,k⟩:=zrx (C:=C) h2 A;obtain⟨blk,k1,k2,k3,k4,_⟩:=k _ _ _ e;obtain⟨g1,g2⟩:=z116 hv hb;exact⟨rfl,.inr ⟨b,blk,⟨o,d,ho,hc,hd,g1,g2⟩,k1,k3,k4,k2⟩⟩
 ·obtain⟨hcc,_⟩:=zaj (w:=w) hy hcl;have h2:(z0w w y).cls=2:=hcc.symm.trans hc;exfalso;revert hn h2;generalize z0w w y=q;intro hn h2;cases q<;>first | (cases hn;done) | (simp[Ins.cls]at h2;done)
 ·have:=zhr (P:=P) (w:=w) (priv:=priv) hp
  rw[this]at hc;cases hc
theorem zgp{S S':TS}{b:Nat}{blk:Blk}(h:zaq S S' b blk):S'.h.size=S.h.size:=by rw[h.2.2.2];rfl
theorem z5v{S S':TS}{b:Nat}{blk:Blk}(h:zaq S S' b blk)(c:Nat):S'.h.get c=if c=b then blk else S.h.get c:=by rw[h.2.2.2,Hp.get_set]
end
end Go.Mini
