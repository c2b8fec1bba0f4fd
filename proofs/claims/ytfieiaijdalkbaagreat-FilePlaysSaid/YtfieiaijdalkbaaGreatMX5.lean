/- Regions whose order is drawn (5): any order. -/
import Derived.Test.YtfieiaijdalkbaaGreatMXK
namespace Go.Mini
universe u
section
variable{P:Program}{priv pu:List Nat}{ntmps:Nat}{w:Z}{ops:Array Oper}{C:List (Nat×Entry)}{Q:Exit→Act→World→Prop}
theorem z16t{a b:Nat}{S S':TS}(h:Run P priv ntmps w ops C a S b S'):∃seq:Nat→TS,seq a=S∧seq b=S'∧a≤b∧∀i,a≤i→i<b→zf0 P priv ntmps w ops C i (seq i) (seq (i+1)):=by
 induction h with
 | nil a S=>exact⟨fun _=>S,rfl,rfl,Nat.le_refl _,fun i h1 h2=>by omega⟩
 | cons a b S S1 S2 h t ih=>
  obtain⟨seq,h1,h2,h3,h4⟩:=ih;refine⟨fun i=>if i≤a then S else seq i,by simp,by dsimp only;rw[if_neg (by omega)];exact h2,by omega,fun i hi hb=>?_⟩;dsimp only;by_cases e:i=a
  ·subst e;rw[if_pos (Nat.le_refl _),if_neg (by omega),h1];exact h
  ·rw[if_neg (by omega),if_neg (by omega)];exact h4 i (by omega) hb
def Lst(listed:Array Bool)(i:Nat):Prop:=listed.getD i false=true
theorem z5c{listed:Array Bool}{i j:Nat}(hi:i<listed.size):Lst (listed.setIfInBounds i true) j↔j=i∨Lst listed j:=by
 unfold Lst;by_cases e:i=j
 ·subst e;simp[hi]
 ·rw[getD_set_ne false e];constructor
  ·exact .inr
  ·rintro(h | h)
   ·exact absurd h.symm e
   ·exact h
theorem zw7{listed:Array Bool}{i:Nat}(h:listed.getD i true=false):¬Lst listed i∧i<listed.size:=by
 unfold Lst;by_cases hi:i<listed.size
 ·simp[hi]at h ⊢;exact h
 ·simp[Array.getElem?_eq_none (Nat.le_of_not_lt hi)]at h
def Did(P:Program)(w:Z)(priv:List Nat)(ops:Array Oper)(seq:Nat→TS)(listed:Array Bool)(j b:Nat)(blk:Blk):Prop:=
 z8a P w priv ops j b∧Lst listed j∧zaq (seq j) (seq (j+1)) b blk
structure HInv(P:Program)(priv:List Nat)(w:Z)(ops:Array Oper)(seq:Nat→TS)(listed:Array Bool)(s':S)(m:Nat):Prop where
 le:m≤ops.size
 p:s'.fr.p=(seq m).p
 size:s'.h.size=(seq m).h.size
 h3:∀(j:Nat) o,ops[j]? = some o→3≤(z14 P w priv o).c→(Lst listed j↔j<m)
 h2:∀(j:Nat) o,ops[j]? = some o→(z14 P w priv o).c=2→j<m→Lst listed j
 hb:∀m',m'≤m→∀b,(seq m').h.get b≠.dead→b<(seq m').h.size
 hK:∀j b,m≤j→z8a P w priv ops j b→(seq m).h.get b=.dead∧b<(seq m).h.size
 hD:∀j b blk,m≤j→Did P w priv ops seq listed j b blk→s'.h.get b=blk
 hU:∀j b,m≤j→z8a P w priv ops j b→(∀blk,¬Did P w priv ops seq listed j b blk)→s'.ρ b=none
 hO:∀b,(∀j blk,m≤j→¬Did P w priv ops seq listed j b blk)→s'.h.get b=(seq m).h.get b
structure Inv(P:Program)(priv:List Nat)(w:Z)(ops:Array Oper)(s:S)(seq:Nat→TS)(D:List Nat)(listed:Array Bool)(s':S):Prop where
 ok:Ok s'
 stp:StpC s s' D
 grw:Grw s.ρ s.h s'.ρ s'.h
 lsz:listed.size=ops.size
 dc:∀(i:Nat) o,ops[i]? = some o→Lst listed i→z67 (Lst listed) o
 slot:∀(j:Nat) o d,ops[j]? = some o→Lst listed j→o.dst=some d→z0g s'.fr.v d=(seq (j+1)).W d∧((seq (j+1)).W d=none→s'.t.getD d undef=undef)
 other:∀x,(∀(j:Nat) o,ops[j]? = some o→Lst listed j→o.dst≠some x)→z0g s'.fr.v x=z0g s.fr.v x
 heap:∃m,HInv P priv w ops seq listed s' m
theorem zk8{n:Nat}{l:List Opd}(h:Opd.t n∈l):n∈zbb l:=by
 induction l with
 | nil=>cases h
 | cons o r ih=>
  rcases List.mem_cons.1 h with e | h
  ·subst e;simp[zbb]
  ·have:=ih h
   cases o with
   | t m=>simp only[zbb];exact List.mem_cons_of_mem _ this
   | _=>exact this
theorem zp2{x y:MV}{a b:Nat}(h:zsk x y=true)(ha:z7p x=some a)(hb:z7p y=some b):a≠b:=by
 cases x<;>first | (cases ha;done) | skip
 all_goals
  cases y<;>first | (cases hb;done) | skip
  all_goals
   simp only[zsk,ha,hb,zme]at h;rintro rfl
   simp at h
theorem zp3{v:MV}:∀{l:List Opd},z4a l=true→Opd.c v∈l→zgo v=none
 | [],_,h=>by cases h
 | o::r,hp,h=>by
  rcases List.mem_cons.1 h with e | h
  ·subst e;cases v with
   | ptr p=>cases p<;>first | rfl | cases hp
   | sl p a b=>cases p<;>first | rfl | cases hp
   | map p=>cases p<;>first | rfl | cases hp
   | _=>rfl
  ·have:z4a r=true:=by
    cases o with
    | t n=>exact hp
    | fn f=>exact hp
    | gl g=>cases hp
    | c u=>
     cases u with
     | ptr p=>cases p<;>first | exact hp | cases hp
     | sl p a b=>cases p<;>first | exact hp | cases hp
     | map p=>cases p<;>first | exact hp | cases hp
     | _=>exact hp
   exact zp3 this h
def zkw(listed:Array Bool)(n:Nat):Nat:=(List.range n).countP fun i => !listed.getD i true
theorem countP_drop{p q:Nat→Bool}:∀{l:List Nat}{i:Nat},(∀x∈l,q x=true→p x=true)→i∈l→p i=true→q i=false→l.countP q<l.countP p
 | [],_,_,h,_,_=>by cases h
 | y::r,i,hpq,hi,hp,hq=>by
  rw[List.countP_cons,List.countP_cons];have hle:r.countP q≤r.countP p:=List.countP_mono_left fun x hx=>hpq x (List.mem_cons_of_mem _ hx);rcases List.mem_cons.1 hi with rfl | hi
  ·rw[if_pos hp,hq];simp;omega
  ·have:=countP_drop (fun x hx=>hpq x (List.mem_cons_of_mem _ hx)) hi hp hq
   by_cases hy:q y=true
   ·rw[if_pos hy,if_pos (hpq y (by simp) hy)];omega
   ·rw[if_neg hy];split<;>omega
theorem z16u{ρ:Rho}{v:MV}{x:Value}(hv:VRel ρ v x){b:Nat}(hb:zgo v=some b):∃rb,ρ b=some rb:=by
 cases hv<;>simp only[zgo]at hb<;>try (cases hb;done)
 ·rename_i a rb hr;cases hb;exact⟨rb,hr⟩
 ·rename_i a rb _ _ _ _ hr _ _ _;cases hb;exact⟨rb,hr⟩
 ·rename_i b' rb hr;cases hb;exact⟨rb,hr⟩
theorem z16v{o:Oper}{p:Nat}(h:(z14 P w priv o).c<5)(hp:(z14 P w priv o).pl=some (.t p)):p∈(z14 P w priv o).us:=by
 unfold z14 at h hp ⊢;split
 ·rename_i hop;rw[hop]at hp;cases hp
 ·rename_i hop;rw[hop]at hp;cases hp
 ·rename_i h1 h2;split at hp
  ·rename_i hop;exact absurd hop (h1 _ _)
  ·rename_i hop;exact absurd hop (h2 _ _)
  ·split at hp
   ·rename_i x hx;cases hpp:z4a (z0w w x).opds with
    | true=>
     rw[hpp]at hp;exact zk8 (zof hp)
    | false=>rw[hpp]at hp;cases hp
   ·cases hp
theorem zf9{seq:Nat→TS}{listed:Array Bool}{i j b:Nat}{blk:Blk}(hls:i<listed.size)(hj:j≠i):Did P w priv ops seq (listed.setIfInBounds i true) j b blk↔Did P w priv ops seq listed j b blk:=by
 unfold Did;rw[z5c hls];constructor
 ·rintro⟨h1,h2,h3⟩;exact⟨h1,h2.resolve_left hj,h3⟩
 ·rintro⟨h1,h2,h3⟩;exact⟨h1,.inr h2,h3⟩
def zjg:Blk→Bool
 | .dead=>true
 | _=>false
theorem z9x(x:Blk):zjg x=true↔x=.dead:=by cases x<;>simp[zjg]
theorem z13y{x:Ins}{d:Nat}(h2:(z0w w x).cls=2)(hv:(z0w w x).val=some d):x.val=some d:=by
 cases x with
 | alloc | box | bslice | mkSl | toBytes | mkMap=>
  revert h2 hv;simp only[z0w];cases mem _ w.rs with
  | false=>intro h2;simp[Ins.cls]at h2
  | true=>intro _ hv;exact hv
 | call d f args=>revert h2;simp only[z0w];cases (w.w && !(mem d w.rs))<;>(intro h2;simp[Ins.cls]at h2)
 | callv d f args=>revert h2;simp only[z0w];cases (w.w && !(mem d w.rs))<;>(intro h2;simp[Ins.cls]at h2)
 | load d t p=>revert h2;simp only[z0w];cases (mem d w.rs)<;>(intro h2;simp[Ins.cls]at h2)
 | _=>simp[z0w,Ins.cls]at h2
theorem z1ar{x:Ins}{d:Nat}{A:Fr}{h h':Hp}{V:FV}{y:Opd}{v:MV}(kz:x.lv=true)(_hv:x.val=some d)(e:z08 C x A tp h=some (V,h'))(hy:x.pl=some y)(hyv:y.mv A=some v):False:=by
 cases x with
 | loadz d t p=>
  cases hy;simp only[z08]at e;rcases z2f e with⟨q,hv,e1⟩ | ⟨s,o,hv,e1⟩
  ·cases e1
  ·have:=Opd.mv_val hyv
   rw[hv]at this;cases this
 | _=>cases kz
structure Txts(P:Program)(priv:List Nat)(ntmps:Nat)(w:Z)(ops:Array Oper)(C:List (Nat×Entry))(s:S)(seq:Nat→TS)(D:List Nat):Prop where
 f:Facts P w priv ops
 st:∀i,i<ops.size→zf0 P priv ntmps w ops C i (seq i) (seq (i+1))
 w0:∀x,(seq 0).W x=z0g s.fr.v x
 sz:s.t.size=ntmps
 d:∀(i:Nat) o d,ops[i]? = some o→o.dst=some d→d∈D
 ap:∀x y,(x,y)∈z69 P w priv ops→z8c (valW (seq ops.size).W x) (valW (seq ops.size).W y)=true
 wb:s.h.size≤w.b
section
variable{s:S}{seq:Nat→TS}{D:List Nat}(T:Txts P priv ntmps w ops C s seq D)
include T
theorem Txts.w1:∀i,i≤ops.size→∀x,(∀(j:Nat) o,j<i→ops[j]? = some o→o.dst≠some x)→(seq i).W x=z0g s.fr.v x:=by
 intro i;induction i with
 | zero=>intro _ x _;exact T.w0 x
 | succ i ih=>
  intro hi x hx;obtain⟨o,ho⟩:∃o,ops[i]? = some o:=⟨_,Array.getElem?_eq_getElem (by omega)⟩;rw[zru (T.st i (by omega)) ho x (hx i o (by omega) ho)];exact ih (by omega) x fun j o hj=>hx j o (by omega)
theorem Txts.w2{j:Nat}{o:Oper}{d:Nat}(ho:ops[j]? = some o)(hd:o.dst=some d):∀i,j<i→i≤ops.size→(seq i).W d=(seq (j+1)).W d:=by
 intro i;induction i with
 | zero=>intro h;omega
 | succ i ih=>
  intro h1 h2;by_cases e:i=j
  ·subst e;rfl
  ·obtain⟨o',ho'⟩:∃o,ops[i]? = some o:=⟨_,Array.getElem?_eq_getElem (by omega)⟩;rw[zru (T.st i (by omega)) ho' d (T.f.dis j i o o' d (by omega) ho ho' hd)];exact ih (by omega) (by omega)
theorem Txts.upto(m:Nat):∀k,m≤k→k≤ops.size→(∀(j:Nat) o,m≤j→j<k→ops[j]? = some o→(z14 P w priv o).c<3) →
  (seq k).p=(seq m).p∧(seq k).h.size=(seq m).h.size∧∀b,(∃j blk,m≤j∧j<k∧z8a P w priv ops j b∧zaq (seq j) (seq (j+1)) b blk∧(seq k).h.get b=blk) ∨
   ((∀j blk,m≤j→j<k→z8a P w priv ops j b→¬zaq (seq j) (seq (j+1)) b blk)∧(seq k).h.get b=(seq m).h.get b):=by
 intro k;induction k with
 | zero=>
  intro h1 _ _;obtain rfl:m=0:=by omega
  exact⟨rfl,rfl,fun b =>.inr ⟨fun j blk _ h=>by omega,rfl⟩⟩
 | succ k ih=>
  intro h1 h2 h3;by_cases e:m=k+1
  ·subst e;exact⟨rfl,rfl,fun b =>.inr ⟨fun j blk _ h=>by omega,rfl⟩⟩
  ·obtain⟨g1,g2,g3⟩:=ih (by omega) (by omega) fun j o h4 h5=>h3 j o h4 (by omega);obtain⟨o,ho⟩:∃o,ops[k]? = some o:=⟨_,Array.getElem?_eq_getElem (by omega)⟩;have hc:=h3 k o (by omega) (by omega) ho;have hst:=T.st k (by omega);by_cases hc2:(z14 P w priv o).c=2
   ·obtain⟨k1,k2⟩:=zeo T.f hst ho hc2;rcases k2 with k2 | ⟨b0,blk0,kf,kt⟩
    ·refine⟨k1.trans g1,by rw[k2];exact g2,fun b=>?_⟩;rw[k2];rcases g3 b with⟨j,blk,a1,a2,a3,a4,a5⟩ | ⟨a1,a2⟩
     ·exact .inl ⟨j,blk,a1,by omega,a3,a4,a5⟩
     ·refine .inr ⟨fun j blk hj hjk hf ht=>?_,a2⟩;by_cases ej:j=k
      ·subst ej;have:=z5v ht b
       rw[if_pos rfl,k2,ht.2.1]at this;exact ht.1.ne this.symm
      ·exact a1 j blk hj (by omega) hf ht
    ·refine⟨k1.trans g1,by rw[zgp kt];exact g2,fun b=>?_⟩;rw[z5v kt];by_cases eb:b=b0
     ·subst eb;rw[if_pos rfl];exact .inl ⟨k,blk0,by omega,by omega,kf,kt,rfl⟩
     ·rw[if_neg eb];rcases g3 b with⟨j,blk,a1,a2,a3,a4,a5⟩ | ⟨a1,a2⟩
      ·exact .inl ⟨j,blk,a1,by omega,a3,a4,a5⟩
      ·refine .inr ⟨fun j blk hj hjk hf ht=>?_,a2⟩;by_cases ej:j=k
       ·subst ej;have h5:=z5v ht b;rw[if_pos rfl,z5v kt,if_neg eb,ht.2.1]at h5;exact ht.1.ne h5.symm
       ·exact a1 j blk hj (by omega) hf ht
   ·obtain⟨k1,k2⟩:=(zfd T.f hst ho).1 (by omega);refine⟨k2.trans g1,by rw[k1];exact g2,fun b=>?_⟩;rw[k1];rcases g3 b with⟨j,blk,a1,a2,a3,a4,a5⟩ | ⟨a1,a2⟩
    ·exact .inl ⟨j,blk,a1,by omega,a3,a4,a5⟩
    ·refine .inr ⟨fun j blk hj hjk hf ht=>?_,a2⟩;by_cases ej:j=k
     ·subst ej;obtain⟨o',_,ho',hc',_⟩:=hf;rw[ho]at ho';cases ho';exact hc2 hc'
     ·exact a1 j blk hj (by omega) hf ht
theorem Txts.pl_stay(hne:z69 P w priv ops≠[]){j:Nat}{o:Oper}{p:Opd}(ho:ops[j]? = some o)(hp:(z14 P w priv o).pl=some p):valW (seq ops.size).W p=valW (seq j).W p:=by
 have hlt:j<ops.size:=(Array.getElem?_eq_some_iff.1 ho).1;cases p with
 | t n=>
  have hus:=z16v (T.f.cls j o ho) hp;show(seq ops.size).W n=(seq j).W n;have key:∀k,j≤k→k≤ops.size→(seq k).W n=(seq j).W n:=by
   intro k;induction k with
   | zero=>intro h _;exact(by omega:j=0) ▸ rfl
   | succ k ih=>
    intro h1 h2;by_cases e:j=k+1
    ·subst e;rfl
    ·obtain⟨ok,hok⟩:∃o,ops[k]? = some o:=⟨_,Array.getElem?_eq_getElem (by omega)⟩;rw[zru (T.st k (by omega)) hok n fun hd=>?_]
     ·exact ih (by omega) (by omega)
     ·rcases Nat.lt_or_ge j k with h | h
      ·exact T.f.late hne j k o ok n h ho hok hd hus
      ·obtain rfl:j=k:=by omega
       rw[ho]at hok;cases hok;exact T.f.own j o n ho hd hus
  exact key _ (by omega) (Nat.le_refl _)
 | c v=>rfl
 | gl g=>rfl
 | fn f=>rfl
theorem Txts.pl_stayT(hne:z69 P w priv ops≠[]){j:Nat}{o:Oper}{p:Opd}(ho:ops[j]? = some o)(hp:PlT (z14 P w priv o).pl p):valW (seq ops.size).W p=valW (seq j).W p:=by
 rcases hp with hp | ⟨_,rfl⟩
 ·exact T.pl_stay hne ho hp
 ·rfl
theorem Txts.notGone{j:Nat}{o:Oper}{d:Nat}(ho:ops[j]? = some o)(hd:o.dst=some d):(seq (j+1)).W d≠some .gone:=by
 have hlt:j<ops.size:=(Array.getElem?_eq_some_iff.1 ho).1;obtain⟨o',ho',h⟩:=T.st j hlt;rw[ho]at ho';cases ho';have hcl:=T.f.cls j o ho;rcases h with⟨_,h⟩ | ⟨_,y,A,h',hy,_,_,⟨d',V,hv,hd',e,h⟩ | ⟨_,hn,_⟩⟩ | ⟨_,wt,gs,n,d',b,z,hp,_,_,_,_,h⟩
 ·rw[h];show z3g _ _ _ _≠_;rw[hd,z8i];simp
 ·rw[hd]at hd';cases hd';rw[h];show z3g _ _ _ _≠_;rw[z8i];have hdd:=zhq (w:=w) hy;cases hp:z4a (z0w w y).opds with
  | false=>rw[hp]at hdd;rw[hdd]at hcl;simp at hcl
  | true=>
   rw[hp]at hdd;have hc:(z14 P w priv o).c=(z0w w y).cls:=by rw[hdd];rfl
   have:=z19g hv (by omega) A _ _ _ e
   simpa using this
 ·rw[hd]at hn;cases hn
 ·rw[h];have:=(z5u hp).1
  rw[hd]at this;cases this;show z3g _ _ _ _≠_;rw[z8i];simp
section
variable{listed:Array Bool}{s':S}(I:Inv P priv w ops s seq D listed s'){i:Nat}{o:Oper}(ho:ops[i]? = some o)(hn:¬Lst listed i)(hw:z67 (Lst listed) o)
include I ho hn hw
theorem Txts.looks{m:Nat}(hm:m∈(z14 P w priv o).us):z0g s'.fr.v m=(seq i).W m:=by
 have hlt:i<ops.size:=(Array.getElem?_eq_some_iff.1 ho).1;have hmm:=(mem_iff _ _).2 hm;by_cases hex:∃(j:Nat)(oj:Oper),j<i∧ops[j]? = some oj∧oj.dst=some m
 ·obtain⟨j,oj,hj,hoj,hd⟩:=hex;have hL:Lst listed j:=T.f.clh j i oj o hj hoj ho (by
   unfold zek;rw[zfc (T.f.cls j oj hoj),hd];simp only[z9c,hmm,Bool.true_or]) (Lst listed) I.dc hw
  rw[(I.slot j oj m hoj hL hd).1,T.w2 hoj hd i hj (by omega)]
 ·rw[T.w1 i (by omega) m fun j oj hj hoj hd=>hex ⟨j,oj,hj,hoj,hd⟩];refine I.other m fun j oj hoj hL hd=>?_;rcases Nat.lt_trichotomy j i with h | h | h
  ·exact hex ⟨j,oj,h,hoj,hd⟩
  ·subst h;exact hn hL
  ·exact hn (T.f.clh i j o oj h ho hoj (by
    unfold zek;rw[zfc (T.f.cls j oj hoj),hd];simp only[z9c,hmm,Bool.true_or,Bool.or_true]) (Lst listed) I.dc (I.dc j oj hoj hL))
theorem Txts.here(hc:3≤(z14 P w priv o).c){m:Nat}(H:HInv P priv w ops seq listed s' m):m≤i∧(∀(j:Nat) oj,m≤j→j<i→ops[j]? = some oj→(z14 P w priv oj).c<3) ∧
  (∀(j:Nat) oj,ops[j]? = some oj→2≤(z14 P w priv oj).c→j<i→Lst listed j) ∧
  s'.fr.p=(seq i).p∧(seq i).h.size=s'.h.size∧(∀m',m'≤i→∀b,(seq m').h.get b≠.dead→b<(seq m').h.size) ∧
  ∀c,s'.h.get c=(seq i).h.get c∨((seq i).h.get c=.dead∧∃j blk,i≤j∧Did P w priv ops seq listed j c blk):=by
 have hlt:i<ops.size:=(Array.getElem?_eq_some_iff.1 ho).1;have hmi:m≤i:=by
  rcases Nat.lt_or_ge i m with h | h
  ·exact absurd ((H.h3 i o ho hc).2 h) hn
  ·exact h
 have hall:∀(j:Nat) oj,ops[j]? = some oj→2≤(z14 P w priv oj).c→j<i→Lst listed j:=by
  intro j oj hoj h hj;exact T.f.clh j i oj o hj hoj ho (by
   unfold zek;have e1:Nat.ble 2 (z14 P w priv oj).c=true:=by simpa using h
   have e2:Nat.ble 3 (z14 P w priv o).c=true:=by simpa using hc
   simp only[e1,e2,Bool.and_true,Bool.true_or,Bool.or_true]) (Lst listed) I.dc hw
 have hno:∀(j:Nat) oj,m≤j→j<i→ops[j]? = some oj→(z14 P w priv oj).c<3:=by
  intro j oj hj1 hj2 hoj;rcases Nat.lt_or_ge (z14 P w priv oj).c 3 with h | h
  ·exact h
  ·have:=(H.h3 j oj hoj h).1 (hall j oj hoj (by omega) hj2)
   omega
 obtain⟨g1,g2,g3⟩:=T.upto m i hmi (by omega) hno;refine⟨hmi,hno,hall,H.p.trans g1.symm,g2.trans H.size.symm,fun m' hm' b hb=>?_,fun c=>?_⟩
 ·rcases Nat.lt_or_ge m' m with h | h
  ·exact H.hb m' (by omega) b hb
  ·obtain⟨k1,k2,k3⟩:=T.upto m m' h (by omega) fun j oj h1 h2=>hno j oj h1 (by omega);rw[k2];rcases k3 b with⟨j,blk,a1,a2,a3,a4,a5⟩ | ⟨a1,a2⟩
   ·exact(H.hK j b a1 a3).2
   ·rw[a2]at hb;exact H.hb m (Nat.le_refl _) b hb
 ·rcases g3 c with⟨j,blk,a1,a2,a3,a4,a5⟩ | ⟨a1,a2⟩
  ·left;obtain⟨oj,d,hoj,hcj,_⟩:=a3;rw[a5];exact H.hD j c blk a1 ⟨⟨oj,d,hoj,hcj,by assumption⟩,hall j oj hoj (by omega) a2,a4⟩
  ·by_cases hd:∃j blk,m≤j∧Did P w priv ops seq listed j c blk
   ·obtain⟨j,blk,hj,hdd⟩:=hd;right;rcases Nat.lt_or_ge j i with h | h
    ·exact absurd hdd.2.2 (a1 j blk hj h hdd.1)
    ·exact⟨a2.trans (H.hK j c hj hdd.1).1,j,blk,h,hdd⟩
   ·left;rw[a2];exact H.hO c fun j blk hj hdd=>hd ⟨j,blk,hj,hdd⟩
theorem Txts.up{x:Ins}(hx:z0s P priv o=some x){A:Fr}(tx:Txt ntmps A (seq i)):Up A s'.fr (z0w w x).opds∧(z0w w x).cls=(z14 P w priv o).c∧z4a (z0w w x).opds=true:=by
 have hdd:=zhq (w:=w) hx;have hcl:=T.f.cls i o ho;cases hp:z4a (z0w w x).opds with
 | false=>rw[hp]at hdd;rw[hdd]at hcl;simp at hcl
 | true=>
  rw[hp]at hdd;refine⟨?_,by rw[hdd];rfl,rfl⟩;intro y hy v hv;cases y with
  | t n=>
   have hv2:z0g A.v n=some v:=hv;rcases tx.v n v hv2 with h | h
   ·exact .inl h
   ·right;show z0g s'.fr.v n=some v;rw[T.looks I ho hn hw (m:=n) (by rw[hdd];exact zk8 hy)];exact h
  | c u=>exact .inr hv
  | gl g=>cases hv
  | fn f=>exact .inr hv
theorem Txts.reads(hc:(z14 P w priv o).c<2){x:Ins}(hx:z0s P priv o=some x){A:Fr}(tx:Txt ntmps A (seq i)){d:Nat}(hv:(z0w w x).val=some d){V:FV}{h':Hp}(e:z08 C (z0w w x) A tp (seq i).h=some (V,h')) :
  z08 C (z0w w x) s'.fr tp s'.h=some (V,s'.h):=by
 have hlt:i<ops.size:=(Array.getElem?_eq_some_iff.1 ho).1;obtain⟨up,hcls,hpl⟩:=T.up I ho hn hw hx tx;by_cases h0:(z0w w x).cls=0
 ·have h1:=(z111 hv h0 A _ _ _ e).2 s'.h;exact zga hv (by omega) up (fun c=>by omega) h1
 ·obtain⟨m,H⟩:=I.heap;have hc1:(z14 P w priv o).c=1:=by omega
  have hpe:=(zaj (w:=w) hx (by omega)).2.1;have hlve:=(zaj (w:=w) hx (by omega)).2.2;obtain⟨_,ob,hob,hloc⟩:=z112 hv (by omega) A _ _ _ e;have hin:∀b,ob=some b→∃rb,s'.ρ b=some rb:=by
   intro b hb;obtain⟨_,y,hy,v,hyv,hbv⟩:=hob b hb;have hyv2:=up.mv (zof hy) hyv;cases y with
   | t n=>
    unfold Opd.mv at hyv2;split at hyv2
    ·rename_i v' hl;cases hyv2;have hl2:z0g s'.fr.v n=some (.v v):=hl;exact z16u (I.ok.slots n _ hl2).2 hbv
    ·cases hyv2
   | c u=>
    have:zgo u=none:=zp3 hpl (zof hy)
    have hu:some u=some v:=hyv2;cases hu;rw[this]at hbv;cases hbv
   | gl g=>cases hyv2
   | fn f=>cases hyv2;cases hbv
  -- those that change memory: in an order,or apart
  have hch:∀(j:Nat) oj,ops[j]? = some oj→(z14 P w priv oj).c=4→(j<i→Lst listed j)∧(i<j→¬Lst listed j) ∨
    (∃p q,(z14 P w priv o).pl=some p∧PlT (z14 P w priv oj).pl q∧j≠i∧(z8c (valW (seq i).W p) (valW (seq j).W q)=true∨z8c (valW (seq j).W q) (valW (seq i).W p)=true)) ∨
    ((z0w w x).lv=true∧(z14 P w priv oj).pl=none):=by
   have hpo:∀p,PlT (z14 P w priv o).pl p→(z14 P w priv o).pl=some p:=by
    rintro p (k | ⟨k,_⟩)
    ·exact k
    ·rw[hpe]at k;have hcc:(z0w w x).cls=1:=by rw[←(zaj (w:=w) hx (by omega)).1];exact hc1
     revert k hcc;generalize z0w w x=z;intro k hcc;cases z<;>first | (cases k;done) | (simp[Ins.cls]at hcc;done)
   intro j oj hoj hcj;by_cases hlv:((z0w w x).lv && !(isSome (z14 P w priv oj).pl))=true
   ·refine .inr (.inr ?_);simp only[Bool.and_eq_true,Bool.not_eq_true']at hlv;refine⟨hlv.1,?_⟩;cases hpn:(z14 P w priv oj).pl with
    | none=>rfl
    | some q=>rw[hpn]at hlv;cases hlv.2
   have hlv':((z14 P w priv o).lv && !(isSome (z14 P w priv oj).pl))=false:=by rw[hlve];simpa using hlv
   have hm1:zc1 (z14 P w priv o) (z14 P w priv oj)=true:=by unfold zc1;rw[hlv',hc1,hcj];rfl
   have hm2:zc1 (z14 P w priv oj) (z14 P w priv o)=true:=by unfold zc1;rw[hlv',hc1,hcj];rfl
   rcases Nat.lt_trichotomy j i with h | h | h
   ·rcases T.f.apt j i oj o h hoj ho hm2 with k | ⟨q,p,k1,k2',k3⟩
    ·exact .inl ⟨fun _=>k (Lst listed) I.dc hw,fun h'=>by omega⟩
    ·have hne:z69 P w priv ops≠[]:=fun c=>by rw[c]at k3;cases k3
     have:=T.ap q p k3
     have k2:=hpo p k2';rw[T.pl_stayT hne hoj k1,T.pl_stay hne ho k2]at this;exact .inr (.inl ⟨p,q,k2,k1,by omega,.inr this⟩)
   ·subst h;rw[ho]at hoj;cases hoj;omega
   ·rcases T.f.apt i j o oj h ho hoj hm1 with k | ⟨p,q,k1',k2,k3⟩
    ·exact .inl ⟨fun h'=>by omega,fun _ hL=>hn (k (Lst listed) I.dc (I.dc j oj hoj hL))⟩
    ·have hne:z69 P w priv ops≠[]:=fun c=>by rw[c]at k3;cases k3
     have:=T.ap p q k3
     have k1:=hpo p k1';rw[T.pl_stay hne ho k1,T.pl_stayT hne hoj k2]at this;exact .inr (.inl ⟨p,q,k1,k2,by omega,.inl this⟩)
  -- what is in no order with it leaves what it reads
  have hpl4:∀(j:Nat) oj,ops[j]? = some oj→3≤(z14 P w priv oj).c→((j<i∧¬Lst listed j)∨(i<j∧Lst listed j)) →
    (∀b,ob=some b→b<(seq j).h.size→(seq (j+1)).h.get b=(seq j).h.get b∧b<(seq (j+1)).h.size) ∧
    ∀p s0 o0,(z14 P w priv o).pl=some p→valW (seq i).W p=some (.loc s0 o0)→z0g (seq (j+1)).p s0=z0g (seq j).p s0:=by
   intro j oj hoj hcj hun;have hjl:j<ops.size:=(Array.getElem?_eq_some_iff.1 hoj).1;have hcl:=T.f.cls j oj hoj;obtain⟨_,_,q3,q0,q4⟩:=zfd T.f (T.st j hjl) hoj;by_cases h3:(z14 P w priv oj).c=3
   ·obtain⟨g1,g2⟩:=q3 h3;exact⟨fun b _ hb=>⟨g1.2 b hb,Nat.lt_of_lt_of_le hb g1.1⟩,fun p s0 o0 _ _=>by rw[g2]⟩
   ·have h4:(z14 P w priv oj).c=4:=by omega
    rcases hch j oj hoj h4 with⟨k1,k2⟩ | ⟨p,q,kp,kq,hne,kap⟩ | ⟨kz,kn⟩
    ·rcases hun with⟨hj,hL⟩ | ⟨hj,hL⟩
     ·exact absurd (k1 hj) hL
     ·exact absurd hL (k2 hj)
    ·have kq':=kq;rcases kq' with kq | ⟨kq0,rfl⟩
     case inr=>
      refine⟨fun b hb _=>?_,fun _ _ _ _ _=>by rw[q0 h4 kq0]⟩;exfalso;obtain⟨_,y,hy,v,hyv,hbv⟩:=hob b hb;have hyp:y=p:=by
       rw[hpe,hy]at kp;cases kp;rfl
      subst hyp;have hvy:=tx.valW (Opd.mv_val hyv) (by simp);have htt:valW (seq j).W tt=some (.v (.bool true)):=rfl;rw[htt,hvy]at kap;rcases kap with kap | kap<;>simp only[z8c]at kap<;>cases v<;>cases kap
     rcases q4 q h4 kq with⟨g1,g2⟩ | ⟨u,g1,g2,g3,g4⟩ | ⟨s1,o1,pv,g1,g2,g3⟩
     ·exact⟨fun b _ hb=>by rw[g1];exact⟨rfl,hb⟩,fun _ _ _ _ _=>by rw[g2]⟩
     ·refine⟨fun b hb hlt'=>⟨g4 b hlt' ?_,Nat.lt_of_lt_of_le hlt' g3⟩,fun _ _ _ _ _=>by rw[g2]⟩;obtain⟨_,y,hy,v,hyv,hbv⟩:=hob b hb;have hyp:y=p:=by
       rw[hpe,hy]at kp;cases kp;rfl
      subst hyp;have hvy:=tx.valW (Opd.mv_val hyv) (by simp);intro hu;rw[g1,hvy]at kap;have hb1:=z17x hbv;rcases kap with kap | kap<;>simp only[z8c]at kap
      ·have:=zp2 kap hb1 hu
       exact this rfl
      ·have:=zp2 kap hu hb1
       exact this rfl
     ·refine⟨fun b _ hb=>by rw[g2];exact⟨rfl,hb⟩,fun p' s0 o0 hp' hv'=>?_⟩;rw[kp]at hp';cases hp';rw[g3,z1i,if_neg];intro hs;rw[g1,hv']at kap;simp only[z8c]at kap;subst hs;simp at kap
    ·refine⟨fun b hb _=>?_,fun _ _ _ _ _=>by rw[q0 h4 kn]⟩;exfalso;obtain⟨_,y,hy,v,hyv,hbv⟩:=hob b hb;exact z1ar kz hv e hy hyv
  -- the heap
  have hB:∀b,ob=some b→s'.h.get b=(seq i).h.get b:=by
   intro b hb;obtain⟨rb,hrb⟩:=hin b hb;have hnd:=(hob b hb).1;rcases Nat.lt_or_ge i m with hmi | hmi
   ·have key:∀k,i≤k→k≤m→(seq k).h.get b=(seq i).h.get b:=by
     intro k;induction k with
     | zero=>intro h _;exact(by omega:i=0) ▸ rfl
     | succ k ih=>
      intro h1 h2;by_cases e:i=k+1
      ·rw[e]
      ·have ih':=ih (by omega) (by omega);obtain⟨ok,hok⟩:∃o,ops[k]? = some o:=⟨_,Array.getElem?_eq_getElem (by have:=H.le;omega)⟩;have hst:=T.st k (by have:=H.le;omega);rcases Nat.lt_or_ge (z14 P w priv ok).c 2 with c1 | c1
       ·rw[((zfd T.f hst hok).1 c1).1];exact ih'
       ·by_cases c2:(z14 P w priv ok).c=2
        ·rcases(zeo T.f hst hok c2).2 with k2 | ⟨b0,blk0,_,kt⟩
         ·rw[k2];exact ih'
         ·rw[z5v kt,if_neg]
          ·exact ih'
          ·rintro rfl
           exact hnd (ih'.symm.trans kt.2.1)
        ·have hki:i<k:=by
          rcases Nat.lt_or_ge i k with h | h
          ·exact h
          ·obtain rfl:k=i:=by omega
           rw[ho]at hok;cases hok;omega
         have hL:=(H.h3 k ok hok (by omega)).2 (by omega);rw[((hpl4 k ok hok (by omega) (.inr ⟨hki,hL⟩)).1 b hb (H.hb k (by omega) b (by rw[ih'];exact hnd))).1];exact ih'
    have hm:=key m (by omega) (Nat.le_refl _);rw[←hm];refine H.hO b fun j blk hj hd=>?_;exact hnd (hm.symm.trans (H.hK j b hj hd.1).1)
   ·-- further on
    have walk:∀a,m≤a→∀k,a≤k→k≤i→b<(seq a).h.size→(∀j b0,a≤j→j<k→z8a P w priv ops j b0→(∃blk,zaq (seq j) (seq (j+1)) b0 blk)→b0≠b)→(seq k).h.get b=(seq a).h.get b∧b<(seq k).h.size:=by
     intro a ha k;induction k with
     | zero=>intro h _ hl _;exact(by omega:a=0) ▸ ⟨rfl,(by omega:a=0) ▸ hl⟩
     | succ k ih=>
      intro h1 h2 hl hne;by_cases e:a=k+1
      ·rw[←e];exact⟨rfl,hl⟩
      ·obtain⟨ih1,ih2⟩:=ih (by omega) (by omega) hl fun j b0 h3 h4=>hne j b0 h3 (by omega);obtain⟨ok,hok⟩:∃o,ops[k]? = some o:=⟨_,Array.getElem?_eq_getElem (by omega)⟩;have hst:=T.st k (by omega);rcases Nat.lt_or_ge (z14 P w priv ok).c 2 with c1 | c1
       ·rw[((zfd T.f hst hok).1 c1).1];exact⟨ih1,ih2⟩
       ·by_cases c2:(z14 P w priv ok).c=2
        ·rcases(zeo T.f hst hok c2).2 with k2 | ⟨b0,blk0,kf,kt⟩
         ·rw[k2];exact⟨ih1,ih2⟩
         ·rw[z5v kt,zgp kt,if_neg (fun c=>hne k b0 (by omega) (by omega) kf ⟨blk0,kt⟩ c.symm)];exact⟨ih1,ih2⟩
        ·have hL:¬Lst listed k:=fun c=>by have:=(H.h3 k ok hok (by omega)).1 c;omega
         obtain⟨g1,g2⟩:=(hpl4 k ok hok (by omega) (.inl ⟨by omega,hL⟩)).1 b hb ih2;exact⟨g1.trans ih1,g2⟩
    by_cases hd:∃j blk,m≤j∧Did P w priv ops seq listed j b blk
    ·obtain⟨j,blk,hj,hd⟩:=hd;rw[H.hD j b blk hj hd];rcases Nat.lt_or_ge j i with hji | hji
     ·have h1:b<(seq (j+1)).h.size:=by rw[zgp hd.2.2];exact hd.2.2.2.2.1
      have h2:=(walk (j+1) (by omega) i (by omega) (Nat.le_refl _) h1 fun j' b0 g1 g2 gf _ c=>by
       subst c;have:=za5 T.f gf hd.1
       omega).1
      rw[h2,z5v hd.2.2,if_pos rfl]
     ·exfalso;obtain⟨h1,h2⟩:=H.hK j b hj hd.1;have h3:=(walk m (Nat.le_refl _) i hmi (Nat.le_refl _) h2 fun j' b0 g1 g2 gf _ c=>by
       subst c;have:=za5 T.f gf hd.1
       omega).1
      exact hnd (h3.trans h1)
    ·have hno:∀j blk,m≤j→¬Did P w priv ops seq listed j b blk:=fun j blk hj h=>hd ⟨j,blk,hj,h⟩;rw[H.hO b hno];refine(walk m (Nat.le_refl _) i hmi (Nat.le_refl _) (by rw[←H.size];exact I.ok.heap.dom b rb hrb) fun j b0 g1 g2 gf _ c=>?_).1.symm;subst c;have:=H.hU j b0 g1 gf fun blk=>hno j blk g1
     rw[hrb]at this;cases this
  -- the private variables
  have hP:∀p s0 o0,(z14 P w priv o).pl=some p→valW (seq i).W p=some (.loc s0 o0)→z0g s'.fr.p s0=z0g (seq i).p s0:=by
   intro p s0 o0 hp hvp;rw[H.p];have step:∀k,k<ops.size→((k<i∧m≤k)∨(i≤k∧k<m))→z0g (seq (k+1)).p s0=z0g (seq k).p s0:=by
    intro k hk hor;obtain⟨ok,hok⟩:∃o,ops[k]? = some o:=⟨_,Array.getElem?_eq_getElem hk⟩;have hst:=T.st k hk;rcases Nat.lt_or_ge (z14 P w priv ok).c 3 with c1 | c1
    ·rcases Nat.lt_or_ge (z14 P w priv ok).c 2 with c2 | c2
     ·rw[((zfd T.f hst hok).1 c2).2]
     ·rw[(zeo T.f hst hok (by omega)).1]
    ·refine(hpl4 k ok hok c1 ?_).2 p s0 o0 hp hvp;rcases hor with⟨h1,h2⟩ | ⟨h1,h2⟩
     ·exact .inl ⟨h1,fun c=>by have:=(H.h3 k ok hok c1).1 c;omega⟩
     ·refine .inr ⟨?_,(H.h3 k ok hok c1).2 h2⟩;rcases Nat.lt_or_ge i k with h | h
      ·exact h
      ·obtain rfl:k=i:=by omega
       rw[ho]at hok;cases hok;omega
   have walk:∀a b,a≤b→(∀k,a≤k→k<b→z0g (seq (k+1)).p s0=z0g (seq k).p s0)→z0g (seq b).p s0=z0g (seq a).p s0:=by
    intro a b;induction b with
    | zero=>intro h _;exact(by omega:a=0) ▸ rfl
    | succ b ih=>
     intro h hs;by_cases e:a=b+1
     ·rw[e]
     ·rw[hs b (by omega) (by omega)];exact ih (by omega) fun k h1 h2=>hs k h1 (by omega)
   rcases Nat.lt_or_ge i m with h | h
   ·exact walk i m (by omega) fun k h1 h2=>step k (by have:=H.le;omega) (.inr ⟨h1,h2⟩)
   ·exact(walk m i h fun k h1 h2=>step k (by omega) (.inl ⟨h2,h1⟩)).symm
  have e2:=hloc s'.h hB;refine zga hv (by omega) up (fun _ p hp s0 o0 hl pv b hA=>?_) e2;have hvp:=tx.valW hl (by simp);obtain⟨b',h1,h2⟩:=tx.p s0 pv b hA;rw[hP p s0 o0 (by rw[hpe];exact hp) hvp];exact⟨b',h1,h2⟩
theorem Txts.lists{s2:S}(ok2:Ok s2){ds:List Nat}(st2:StpC s' s2 ds)(gr2:Grw s.ρ s.h s2.ρ s2.h)(hds:∀x∈ds,x∈D)(own:∀d,o.dst=some d→z0g s2.fr.v d=(seq (i+1)).W d∧((seq (i+1)).W d=none→s2.t.getD d undef=undef))
  (oth:∀x,o.dst≠some x→z0g s2.fr.v x=z0g s'.fr.v x∧s2.t.getD x undef=s'.t.getD x undef)
  (hh:∃m,HInv P priv w ops seq (listed.setIfInBounds i true) s2 m):Inv P priv w ops s seq D (listed.setIfInBounds i true) s2:=by
 have hlt:i<ops.size:=(Array.getElem?_eq_some_iff.1 ho).1;have hls:i<listed.size:=by rw[I.lsz];exact hlt
 have mono:∀o':Oper,z67 (Lst listed) o'→z67 (Lst (listed.setIfInBounds i true)) o':=fun o' h e he hb=>(z5c hls).2 (.inr (h e he hb));refine⟨ok2,(I.stp.trans st2).mono (fun x hx=>(List.mem_append.1 hx).elim id (hds x)),gr2,by simpa using I.lsz,?_,?_,?_,hh⟩
 ·intro j oj hoj hL;rcases(z5c hls).1 hL with rfl | hL
  ·rw[ho]at hoj;cases hoj;exact mono _ hw
  ·exact mono _ (I.dc j oj hoj hL)
 ·intro j oj d hoj hL hd;by_cases e:j=i
  ·subst e;rw[ho]at hoj;cases hoj;exact own d hd
  ·have hL:=((z5c hls).1 hL).resolve_left e;have hne:o.dst≠some d:=by
    rcases Nat.lt_or_ge j i with h | h
    ·exact T.f.dis j i oj o d h hoj ho hd
    ·intro c;exact T.f.dis i j o oj d (by omega) ho hoj c hd
   rw[(oth d hne).1,(oth d hne).2];exact I.slot j oj d hoj hL hd
 ·intro x hx;have hne:o.dst≠some x:=hx i o ho ((z5c hls).2 (.inl rfl));rw[(oth x hne).1];exact I.other x fun j oj hoj hL=>hx j oj hoj ((z5c hls).2 (.inr hL))
theorem Txts.heapSame{s2:S}(h1:s2.h=s'.h)(h2:s2.fr.p=s'.fr.p)(hg:Grw s'.ρ s'.h s2.ρ s2.h)(hc:(z14 P w priv o).c<3)(hno:∀b blk,z8a P w priv ops i b→¬zaq (seq i) (seq (i+1)) b blk):∃m,HInv P priv w ops seq (listed.setIfInBounds i true) s2 m:=by
 have _:=T;have _:=hw;obtain⟨m,H⟩:=I.heap;have hls:i<listed.size:=by rw[I.lsz];exact(Array.getElem?_eq_some_iff.1 ho).1
 have hdid:∀j b blk,Did P w priv ops seq (listed.setIfInBounds i true) j b blk↔Did P w priv ops seq listed j b blk:=by
  intro j b blk;by_cases e:j=i
  ·subst e;constructor
   ·intro h;exact absurd h.2.2 (hno b blk h.1)
   ·intro h;exact absurd h.2.1 hn
  ·exact zf9 hls e
 refine⟨m,H.le,h2.trans H.p,by rw[h1];exact H.size,fun j oj hoj hcj=>?_,fun j oj hoj hcj hj=>(z5c hls).2 (.inr (H.h2 j oj hoj hcj hj)),H.hb,H.hK,fun j b blk hj hd=>?_,fun j b hj hf hnd=>?_,fun b hnd=>?_⟩
 ·rw[z5c hls];constructor
  ·rintro(rfl | h)
   ·rw[ho]at hoj;cases hoj;omega
   ·exact(H.h3 j oj hoj hcj).1 h
  ·intro h;exact .inr ((H.h3 j oj hoj hcj).2 h)
 ·rw[h1];exact H.hD j b blk hj ((hdid j b blk).1 hd)
 ·have h3:=H.hU j b hj hf fun blk h=>hnd blk ((hdid j b blk).2 h);cases h4:s2.ρ b with
  | none=>rfl
  | some rb=>
   rcases hg.2 b rb h4 with h5 | h5
   ·rw[h3]at h5;cases h5
   ·have:=(H.hK j b hj hf).2
    rw[←H.size]at this;omega
 ·rw[h1];exact H.hO b fun j blk hj h=>hnd j blk hj ((hdid j b blk).2 h)
theorem Txts.heapFill{s2:S}{b0:Nat}{blk0:Blk}{rb0:RB}(hf0:z8a P w priv ops i b0)(ht0:zaq (seq i) (seq (i+1)) b0 blk0)(h1:s2.h=s'.h.set b0 blk0)(h2:s2.fr.p=s'.fr.p)(hρ:s2.ρ=s'.ρ.put b0 rb0)(hc:(z14 P w priv o).c=2) :
  ∃m,HInv P priv w ops seq (listed.setIfInBounds i true) s2 m:=by
 have _:=hw;obtain⟨m,H⟩:=I.heap;have hls:i<listed.size:=by rw[I.lsz];exact(Array.getElem?_eq_some_iff.1 ho).1
 have hdet:∀b blk,z8a P w priv ops i b→zaq (seq i) (seq (i+1)) b blk→b=b0∧blk=blk0:=by
  intro b blk hf ht;have hb:b=b0:=by
   obtain⟨o1,d1,a1,_,a3,_,a5⟩:=hf;obtain⟨o2,d2,c1,_,c3,_,c5⟩:=hf0;rw[a1]at c1;cases c1;rw[a3]at c3;cases c3;rw[a5,c5]
  subst hb;have e1:=z5v ht b;have e2:=z5v ht0 b;rw[if_pos rfl]at e1 e2;exact⟨rfl,e1.symm.trans e2⟩
 have hdid:∀j b blk,Did P w priv ops seq (listed.setIfInBounds i true) j b blk↔(j=i∧b=b0∧blk=blk0)∨Did P w priv ops seq listed j b blk:=by
  intro j b blk;by_cases e:j=i
  ·subst e;constructor
   ·intro h;exact .inl ⟨rfl,hdet b blk h.1 h.2.2⟩
   ·rintro(⟨_,rfl,rfl⟩ | h)
    ·exact⟨hf0,(z5c hls).2 (.inl rfl),ht0⟩
    ·exact absurd h.2.1 hn
  ·rw[zf9 hls e];constructor
   ·exact .inr
   ·rintro(⟨h,_⟩ | h)
    ·exact absurd h e
    ·exact h
 have hmi:m≤i:=by
  rcases Nat.lt_or_ge i m with h | h
  ·exact absurd (H.h2 i o ho hc h) hn
  ·exact h
 refine⟨m,H.le,h2.trans H.p,by rw[h1];exact H.size,fun j oj hoj hcj=>?_,fun j oj hoj hcj hj=>(z5c hls).2 (.inr (H.h2 j oj hoj hcj hj)),H.hb,H.hK,fun j b blk hj hd=>?_,fun j b hj hf hnd=>?_,fun b hnd=>?_⟩
 ·rw[z5c hls];constructor
  ·rintro(rfl | h)
   ·rw[ho]at hoj;cases hoj;omega
   ·exact(H.h3 j oj hoj hcj).1 h
  ·intro h;exact .inr ((H.h3 j oj hoj hcj).2 h)
 ·rw[h1,Hp.get_set];rcases(hdid j b blk).1 hd with⟨_,rfl,rfl⟩ | h
  ·rw[if_pos rfl]
  ·rw[if_neg]
   ·exact H.hD j b blk hj h
   ·rintro rfl
    have:=za5 T.f h.1 hf0
    subst this;exact hn h.2.1
 ·have hne:b≠b0:=by
   rintro rfl
   have:=za5 T.f hf hf0
   subst this;exact hnd blk0 ((hdid j b blk0).2 (.inl ⟨rfl,rfl,rfl⟩))
  rw[hρ,Rho.put_other _ _ hne];exact H.hU j b hj hf fun blk h=>hnd blk ((hdid j b blk).2 (.inr h))
 ·have hne:b≠b0:=by
   rintro rfl
   exact hnd i blk0 hmi ((hdid i b blk0).2 (.inl ⟨rfl,rfl,rfl⟩))
  rw[h1,Hp.get_set,if_neg hne];exact H.hO b fun j blk hj h=>hnd j blk hj ((hdid j b blk).2 (.inr h))
theorem Txts.heapRun{s2:S}{ds:List Nat}(hc:3≤(z14 P w priv o).c)(ok2:Ok s2)(st2:Stp {s' with h:=(seq i).h} s2 ds)(hp:∀n pv b,z0g s2.fr.p n=some (pv,b)→∃qv c,z0g s'.fr.p n=some (qv,c))
  (e1:s2.h=(seq (i+1)).h) (e2:s2.fr.p=(seq (i+1)).p) :
  ∃h3:Hp,Ok {s2 with h:=h3}∧StpC s' {s2 with h:=h3} ds∧Grw s'.ρ s'.h s2.ρ h3∧∃m,HInv P priv w ops seq (listed.setIfInBounds i true) {s2 with h:=h3} m:=by
 have hlt:i<ops.size:=(Array.getElem?_eq_some_iff.1 ho).1;obtain⟨m,H⟩:=I.heap;have hls:i<listed.size:=by rw[I.lsz];exact(Array.getElem?_eq_some_iff.1 ho).1
 obtain⟨hmi,hno,hall,hpi,hsz,hbd,hch⟩:=T.here I ho hn hw hc H;have hg:∀c,(seq i).h.get c=s'.h.get c∨(seq i).h.get c=.dead:=fun c=>(hch c).elim (fun h =>.inl h.symm) fun h =>.inr h.1;let K:Nat→Bool:=fun c=>zjg ((seq i).h.get c) && !(zjg (s'.h.get c))
 have hKd:∀c,K c=true→(seq i).h.get c=.dead∧s'.h.get c≠.dead:=by
  intro c hc;simp only[K,Bool.and_eq_true,Bool.not_eq_true']at hc;refine⟨(z9x _).1 hc.1,fun h=>?_⟩;rw[(z9x _).2 h]at hc;cases hc.2
 have hKo:∀c,K c=true→Own s'.h c:=by
  intro c hc;obtain⟨h1,h2⟩:=hKd c hc;rcases hch c with h | ⟨_,j,blk,hj,hd⟩
  ·exact absurd (h.trans h1) h2
  ·exact hd.2.2.1.own (H.hD j c blk (by omega) hd)
 obtain⟨h3,hs3,hg3'⟩:=Hp.mix s2.h s'.h K s2.h.size;have hbig:∀c,K c=true→c<s2.h.size:=by
  intro c hc;obtain⟨_,h5⟩:=hKd c hc;obtain⟨rb,hr⟩:=I.ok.heap.live c h5;have:=I.ok.heap.dom c rb hr
  have h6:(seq i).h.size≤s2.h.size:=st2.grw.1;omega
 have hg3:∀c,h3.get c=if K c=true then s'.h.get c else s2.h.get c:=by
  intro c;rw[hg3'];by_cases hk:K c=true
  ·rw[if_pos ⟨hbig c hk,hk⟩,if_pos hk]
  ·rw[if_neg (fun x=>hk x.2),if_neg hk]
 obtain⟨ok3,st3,hdead⟩:=z140 I.ok hg ok2 st2.c hp K (fun c hc=>(hKd c hc).1) (fun c hc _=>hKo c hc) h3 hs3 hg3;have hgr:Grw s'.ρ s'.h s2.ρ h3:=by
  refine⟨?_,fun b rb e=>?_⟩
  ·rw[hs3];have h6:(seq i).h.size≤s2.h.size:=st2.grw.1;omega
  ·rcases st2.grw.2 b rb e with h | h
   ·exact .inl h
   ·have h':(seq i).h.size≤b:=h;exact .inr (by omega)
 refine⟨h3,ok3,st3,hgr,i+1,by omega,e2,by show h3.size=_;rw[hs3,e1],fun j oj hoj hcj=>?_,fun j oj hoj hcj hj=>?_,fun m' hm' b hb=>?_,fun j b hj hf=>?_,fun j b blk hj hd=>?_,fun j b hj hf hnd=>?_,fun b hnd=>?_⟩
 ·rw[z5c hls];constructor
  ·rintro(rfl | h)
   ·omega
   ·have:=(H.h3 j oj hoj hcj).1 h;omega
  ·intro h;by_cases e:j=i
   ·exact .inl e
   ·exact .inr (hall j oj hoj (by omega) (by omega))
 ·by_cases e:j=i
  ·exact(z5c hls).2 (.inl e)
  ·exact(z5c hls).2 (.inr (hall j oj hoj (by omega) (by omega)))
 ·by_cases e:m'=i+1
  ·subst e;rw[←e1]at hb ⊢;obtain⟨rb,hr⟩:=ok2.heap.live b hb;exact ok2.heap.dom _ _ hr
  ·exact hbd m' (by omega) b hb
 ·-- not z2g in the text yet
  have hsz2:b<(seq (i+1)).h.size:=by
   have h4:=(H.hK j b (by omega) hf).2;have h6:(seq i).h.size≤s2.h.size:=st2.grw.1;rw[←e1];rw[←H.size]at h4;omega
  refine⟨?_,hsz2⟩;rw[←e1];by_cases hd:∃blk,Did P w priv ops seq listed j b blk
  ·obtain⟨blk,hd⟩:=hd;have hne:s'.h.get b≠.dead:=by rw[H.hD j b blk (by omega) hd];exact hd.2.2.1.ne
   refine hdead b ?_ hne;have hdi:(seq i).h.get b=.dead:=by
    rcases hch b with h | ⟨h,_⟩
    ·exfalso;obtain⟨k1,k2,k3⟩:=T.upto m i hmi (by omega) hno;rcases k3 b with⟨j',blk',a1,a2,a3,a4,a5⟩ | ⟨a1,a2⟩
     ·have:=za5 T.f a3 hf
      omega
     ·rw[a2,(H.hK j b (by omega) hf).1]at h;exact hne h
    ·exact h
   simp only[K,(z9x _).2 hdi,Bool.true_and,Bool.not_eq_true'];cases hq:zjg (s'.h.get b)with
   | false=>rfl
   | true=>exact absurd ((z9x _).1 hq) hne
  ·have h5:=H.hU j b (by omega) hf fun blk h=>hd ⟨blk,h⟩;by_cases hd2:s2.h.get b=.dead
   ·exact hd2
   ·exfalso;obtain⟨rb,hr⟩:=ok2.heap.live b hd2;rcases st2.grw.2 b rb hr with h | h
    ·have h':s'.ρ b=some rb:=h;rw[h5]at h';cases h'
    ·have h':(seq i).h.size≤b:=h;have:=(H.hK j b (by omega) hf).2
     rw[←H.size]at this;omega
 ·have hd':=(zf9 hls (by omega)).1 hd;show h3.get b=blk;have hne:s'.h.get b=blk:=H.hD j b blk (by omega) hd';have hdi:(seq i).h.get b=.dead:=by
   obtain⟨k1,k2,k3⟩:=T.upto m i hmi (by omega) hno;rcases k3 b with⟨j',blk',a1,a2,a3,a4,a5⟩ | ⟨a1,a2⟩
   ·have:=za5 T.f a3 hd'.1
    omega
   ·rw[a2];exact(H.hK j b (by omega) hd'.1).1
  rw[hg3,if_pos]
  ·exact hne
  ·simp only[K,(z9x _).2 hdi,Bool.true_and,Bool.not_eq_true'];cases hq:zjg (s'.h.get b)with
   | false=>rfl
   | true=>exact absurd (hne.symm.trans ((z9x _).1 hq)) hd'.2.2.1.ne
 ·show s2.ρ b=none;have h5:=H.hU j b (by omega) hf fun blk h=>hnd blk ((zf9 hls (by omega)).2 h);cases h4:s2.ρ b with
  | none=>rfl
  | some rb=>
   rcases st2.grw.2 b rb h4 with h | h
   ·have h':s'.ρ b=some rb:=h;rw[h5]at h';cases h'
   ·have h':(seq i).h.size≤b:=h;have:=(H.hK j b (by omega) hf).2
    rw[←H.size]at this;omega
 ·show h3.get b=_;rw[hg3,←e1];by_cases hk:K b=true
  ·exfalso;obtain⟨k1,k2⟩:=hKd b hk;rcases hch b with h | ⟨_,j,blk,hj,hd⟩
   ·exact k2 (h.trans k1)
   ·have hji:j≠i:=by
     rintro rfl
     exact hn hd.2.1
    exact hnd j blk (by omega) ((zf9 hls hji).2 hd)
  ·rw[if_neg hk]
end
section
variable{listed:Array Bool}{s':S}(I:Inv P priv w ops s seq D listed s'){i:Nat}{o:Oper}(ho:ops[i]? = some o)(hw:z67 (Lst listed) o)
include I ho hw
theorem Txts.wants:z9d ops o (seq i).W↔Region.wanted o (yielded ops s'.t)=true:=by
 have hlt:i<ops.size:=(Array.getElem?_eq_some_iff.1 ho).1;unfold z9d Region.wanted;cases hg:o.guard with
 | none=>simp
 | some jw=>
  obtain⟨j,wt⟩:=jw;obtain⟨hj,hL⟩:=T.f.grd i o j wt ho hg;have hL:=hL (Lst listed) I.dc hw;obtain⟨oj,hoj⟩:∃oj,ops[j]? = some oj:=⟨_,Array.getElem?_eq_getElem (by omega)⟩;have key:(∃gs,oj.dst=some gs∧(seq i).W gs=some (.v (.bool wt)))↔yielded ops s'.t j=some wt:=by
   unfold yielded;rw[hoj];simp only[Option.bind_some];cases hd:oj.dst with
   | none=>simp
   | some gs=>
    obtain⟨h1,h2⟩:=I.slot j oj gs hoj hL hd;have hng:=T.notGone hoj hd;have e0:=T.w2 hoj hd i hj (by omega);simp only[Option.bind_some,Option.some.injEq,exists_eq_left',e0];cases hV:(seq (j+1)).W gs with
    | none=>
     have h3:=h2 hV;constructor
     ·intro c;cases c
     ·intro c;by_cases hlt':gs<s'.t.size
      ·rw[za2 hlt',h3]at c;simp[undef]at c
      ·have h8:s'.t[gs]? = none:=Array.getElem?_eq_none (Nat.le_of_not_lt hlt');rw[h8]at c;cases c
    | some V=>
     rw[hV]at h1;obtain⟨h5,h6⟩:=I.ok.slots gs V h1;rw[za2 h5];cases V with
     | gone=>exact absurd hV hng
     | loc a b=>
      have h7:s'.t.getD gs undef=_:=h6;rw[h7];simp
     | v mv=>
      have h7:VRel s'.ρ mv (s'.t.getD gs undef):=h6;generalize s'.t.getD gs undef=z at h7;constructor
      ·intro c;simp at c;subst c;cases h7;rfl
      ·intro c;have hz:z=.bool wt:=by
        split at c
        ·rename_i b hb;cases hb;cases c;rfl
        ·cases c
       subst hz;cases h7;rfl
  constructor
  ·rintro⟨oj',gs,h1,h2,h3⟩
   rw[hoj]at h1;cases h1;have:=key.1 ⟨gs,h2,h3⟩
   simp only[this,beq_self_eq_true]
  ·intro h;have h2:yielded ops s'.t j=some wt:=by simpa using h
   obtain⟨gs,h3,h4⟩:=key.2 h2;exact⟨oj,gs,hoj,h3,h4⟩
end
section
variable{listed:Array Bool}{s':S}(I:Inv P priv w ops s seq D listed s'){i:Nat}{o:Oper}(ho:ops[i]? = some o)(hn:¬Lst listed i)(hw:z67 (Lst listed) o)
include I ho hn hw
theorem Txts.one(hC:∀f en,z0g C f=some en→Sound P f en):wpOp P ops Q i (fun a' w'=>∃s2:S,a'=⟨s2.t,[]⟩∧w'=s2.w∧Inv P priv w ops s seq D (listed.setIfInBounds i true) s2) ⟨s'.t,[]⟩ s'.w:=by
 have hlt:i<ops.size:=(Array.getElem?_eq_some_iff.1 ho).1;have hwn:=T.wants I ho hw;have hsz:s'.t.size=ntmps:=I.stp.tsz.trans T.sz;obtain⟨o',ho',hs⟩:=T.st i hlt;rw[ho]at ho';cases ho';unfold wpOp;rw[ho];dsimp only;rcases hs with⟨hnw,hS⟩ | ⟨hwt,x,A,h',hx,hio,tx,hs⟩ | ⟨hwt,wt,gs,n,d,b,z,hp,hdn,hg,hb1,hb2,hS⟩
 ·-- not wanted
  rw[if_neg (fun c=>hnw (hwn.2 c))];obtain⟨t',h1,h2,h3,_⟩:=zic (ops:=ops) s'.t o.dst;have hund:∀d,o.dst=some d→t'.getD d undef=undef:=by
   intro d hd;rw[hd]at h1;have h4:s'.t.setIfInBounds d undef=t':=by
    have:(Act.put ⟨s'.t,[]⟩ (some d) undef).tmps=t':=by rw[h1]
    exact this
   rw[←h4,Array.getD_eq_getD_getElem?,Array.getElem?_setIfInBounds_self];split<;>rfl
  let fv:=s'.fr.v.filter fun y=>match o.dst with
   | some d => !(y.1==d)
   | none=>true
  have hlk:∀x,z0g fv x=if o.dst=some x then none else z0g s'.fr.v x:=by
   intro x;show z0g (List.filter _ s'.fr.v) x=_;generalize s'.fr.v=l;induction l with
   | nil=>simp[z0g]
   | cons y r ih=>
    obtain⟨m,v⟩:=y;simp only[List.filter_cons];cases hd:o.dst with
    | none=>
     rw[hd]at ih;simp only[if_true,z1i];rw[ih];simp
    | some d=>
     rw[hd]at ih;by_cases hm:m=d
     ·subst hm;simp only[beq_self_eq_true,Bool.not_true,Bool.false_eq_true,if_false,z1i];rw[ih];by_cases hmx:m=x
      ·subst hmx;simp
      ·rw[if_neg hmx]
     ·have:(m==d)=false:=by simpa using hm
      simp only[this,Bool.not_false,if_true,z1i];rw[ih];by_cases hmx:m=x
      ·subst hmx;rw[if_pos rfl,if_neg (fun c=>hm (by cases c;rfl))];simp
      ·rw[if_neg hmx,if_neg hmx]
  let s2:S:={s' with fr:=⟨fv,s'.fr.p⟩,t:=t'}
  have ok2:Ok s2:=by
   refine⟨I.ok.heap,fun y v hv=>?_,I.ok.priv,I.ok.pinj⟩;have hv2:z0g fv y=some v:=hv;rw[hlk]at hv2;split at hv2
   ·cases hv2
   ·rename_i hy;obtain⟨h4,h5⟩:=I.ok.slots y v hv2;refine⟨by show y<t'.size;rw[h2.1];exact h4,?_⟩;show zb9 s'.ρ s'.π v (t'.getD y undef);rw[h3 y hy];exact h5
  have st2:Stp s' s2 o.dst.toList:=
   ⟨Ext.refl _,rfl,rfl,rfl,Nat.le_refl _,⟨Nat.le_refl _,fun _ _ e =>.inl e⟩,fun _ _ _ _=>rfl,fun _ h =>.inl h,fun _ h =>.inl h,fun _ h =>.inl h,fun _ _=>rfl,fun _ =>.inl rfl,h2.1,fun y hy=>h3 y (fun c=>hy (by rw[c];simp))⟩
  have hds:∀y∈o.dst.toList,y∈D:=by
   intro y hy;refine T.d i o y ho ?_;cases hd:o.dst with
   | none=>rw[hd]at hy;cases hy
   | some d=>rw[hd]at hy;simp at hy;rw[hy]
  have hown:∀d,o.dst=some d→z0g fv d=(seq (i+1)).W d∧((seq (i+1)).W d=none→t'.getD d undef=undef):=by
   intro d hd;refine⟨?_,fun _=>hund d hd⟩;rw[hlk,if_pos hd,hS];show none=z3g _ _ _ _;rw[hd,z8i]
  have hoth:∀x,o.dst≠some x→z0g fv x=z0g s'.fr.v x∧t'.getD x undef=s'.t.getD x undef:=by
   intro y hy;exact⟨by rw[hlk,if_neg hy],h3 y hy⟩
  have hSh:(seq (i+1)).h=(seq i).h:=by rw[hS]
  have hSp:(seq (i+1)).p=(seq i).p:=by rw[hS]
  by_cases hc:(z14 P w priv o).c<3
  ·refine⟨s2,by rw[h1],rfl,T.lists I ho hn hw ok2 st2.c (I.grw.trans st2.grw) hds hown hoth (T.heapSame I ho hn hw rfl rfl st2.grw hc fun b blk _ ht=>?_)⟩;have:=z5v ht b
   rw[if_pos rfl,hSh,ht.2.1]at this;exact ht.1.ne this.symm
  ·obtain⟨m,H⟩:=I.heap;obtain⟨_,_,_,hpi,hsz0,_,hch⟩:=T.here I ho hn hw (by omega) H;have hg:∀c,(seq i).h.get c=s'.h.get c∨(seq i).h.get c=.dead:=fun c=>(hch c).elim (fun h =>.inl h.symm) fun h =>.inr h.1;have ok2k:Ok {s2 with h:=(seq i).h}:=ok2.killed hsz0 hg;have st2k:Stp {s' with h:=(seq i).h} {s2 with h:=(seq i).h} o.dst.toList:=
    ⟨Ext.refl _,rfl,rfl,rfl,Nat.le_refl _,⟨Nat.le_refl _,fun _ _ e =>.inl e⟩,fun _ _ _ _=>rfl,fun _ h =>.inl h,fun _ h =>.inl h,fun _ h =>.inl h,fun _ _=>rfl,fun _ =>.inl rfl,h2.1,fun y hy=>h3 y (fun c=>hy (by rw[c];simp))⟩
   obtain⟨h3',ok3,st3,gr3,hh⟩:=T.heapRun I ho hn hw (s2:={s2 with h:=(seq i).h}) (by omega) ok2k st2k (fun n pv b h=>⟨pv,b,h⟩) hSh.symm (hpi.trans hSp.symm);exact⟨{s2 with h:=h3'},by rw[h1],rfl,T.lists I ho hn hw ok3 st3 (I.grw.trans gr3) hds hown hoth hh⟩
 ·-- an operation
  rw[if_pos (hwn.1 hwt)];refine .inl ?_;obtain⟨up,hcls,hpl⟩:=T.up I ho hn hw hx tx;rcases hs with⟨d,V,hv,hd,e,hS⟩ | ⟨hnd,hd,A',u,e,hA,hS⟩
  ·have hxd:x.dst=[d]:=by
    rcases zsy (w:=w) (x:=x) (by have:=T.f.cls i o ho;omega)with⟨h1,_⟩ | ⟨d',h1,h2⟩
    ·exfalso;revert hv h1;generalize z0w w x=y;cases y<;>intro hv h1<;>first | (cases h1;done) | (cases hv;done)
    ·rw[hv]at h1;cases h1;exact h2
   have hcc:=(zaj (w:=w) hx (T.f.cls i o ho)).1;have hds:∀y∈[d],y∈D:=by
    intro y hy;simp at hy;subst hy;exact T.d i o y ho hd
   have h6:(seq (i+1)).W d=some V:=by
    rw[hS];exact z8i _ _ _
   have hfin:∀s3:S,s3.fr=s'.fr.setF d V→(∀y,y≠d→s3.t.getD y undef=s'.t.getD y undef)→(∀d',o.dst=some d'→z0g s3.fr.v d'=(seq (i+1)).W d'∧((seq (i+1)).W d'=none→s3.t.getD d' undef=undef)) ∧
     ∀y,o.dst≠some y→z0g s3.fr.v y=z0g s'.fr.v y∧s3.t.getD y undef=s'.t.getD y undef:=by
    intro s3 hfr htm;have hlk:∀y,z0g s3.fr.v y=if d=y then some V else z0g s'.fr.v y:=by
     intro y;rw[hfr];exact z1i d V s'.fr.v y
    refine⟨fun d' hd'=>?_,fun y hy=>?_⟩
    ·rw[hd]at hd';cases hd';exact⟨by rw[hlk,if_pos rfl,h6],fun c=>by rw[h6]at c;cases c⟩
    ·have hne:d≠y:=fun c=>hy (by rw[hd,c]);exact⟨by rw[hlk,if_neg hne],htm y (fun c=>hne c.symm)⟩
   by_cases hc2:(z14 P w priv o).c=2
   ·-- a block is z2g
    obtain⟨b0,hb0,hfl⟩:=zrx (C:=C) (x:=z0w w x) (by omega) s'.fr;have e1:z08 C (z0w w x) s'.fr tp (seq i).h=some (V,h'):=zga hv (by omega) up (fun h=>by omega) e;obtain⟨blk0,g1,g2,g3,g4,g5⟩:=hfl _ _ _ e1;obtain⟨q1,q2⟩:=z116 hv hb0;have hf0:z8a P w priv ops i b0:=⟨o,d,ho,hc2,hd,q1,q2⟩;have ht0:zaq (seq i) (seq (i+1)) b0 blk0:=⟨g1,g3,g4,by rw[hS];exact g2⟩;obtain⟨m,H⟩:=I.heap;have hmi:m≤i:=by
     rcases Nat.lt_or_ge i m with h | h
     ·exact absurd (H.h2 i o ho hc2 h) hn
     ·exact h
    have hρ0:s'.ρ b0=none:=H.hU i b0 hmi hf0 fun blk hD=>hn hD.2.1;have hb0s:b0<s'.h.size:=by rw[H.size];exact(H.hK i b0 hmi hf0).2
    have hd0:s'.h.get b0=.dead:=by
     by_cases h:s'.h.get b0=.dead
     ·exact h
     ·obtain⟨rb,hr⟩:=I.ok.heap.live b0 h;rw[hρ0]at hr;cases hr
    have e2:=g5 s'.h hd0 hb0s;obtain⟨b1,blk1,V0,k1,k2,k3,k4,k5,k6,k7,k8⟩:=z19a (C:=C) (w:=w) (x:=x) (by omega) (T.f.fok i o x ho hx) I.ok e2;rw[hb0]at k1;cases k1;have hblk:blk1=blk0:=by
     have r1:=congrArg (fun h=>Hp.get h b0) k5;simp only[Hp.get_set,if_pos]at r1;exact r1.symm
    subst hblk;have hxv:x.val=some d:=z13y (w:=w) (by omega) hv;have e3:z08 C x s'.fr ret s'.h=some (s'.fr.setF d V0,s'.h.push blk1):=by
     rw[zci hxv];simp only[bd,k8];rfl
    refine zcl hC I.ok hx (by rw[hsz];exact hio) e3 ?_;intro s2 ok2 st2 e4;have h5:some (s2.fr,s2.h)=some (s'.fr.setF d V0,s'.h.push blk1):=e4;have hfr:s2.fr=s'.fr.setF d V0:=(Prod.mk.inj (Option.some.inj h5)).1;have hhh:s2.h=s'.h.push blk1:=(Prod.mk.inj (Option.some.inj h5)).2;rw[hxd]at st2;obtain⟨s3,t1,t2,t3,t4,⟨rb0,t5⟩,ok3,st3⟩:=z115 I.ok hd0 hb0s hρ0 g1 k6 k7 ok2 st2 hfr hhh;have hgr:Grw s.ρ s.h s3.ρ s3.h:=by
     refine⟨by rw[t4];exact I.grw.1,fun b rb hb=>?_⟩;rw[t5]at hb;by_cases hbb:b=b0
     ·refine .inr ?_;have:=T.wb
      omega
     ·rw[Rho.put_other _ _ hbb]at hb;exact I.grw.2 b rb hb
    obtain⟨f1,f2⟩:=hfin s3 t3 fun y hy=>st3.tmp y (by simpa using hy);exact⟨s3,by rw[t1],t2.symm,T.lists I ho hn hw ok3 st3 hgr hds f1 f2 (T.heapFill I ho hn hw hf0 ht0 t4 (by rw[t3];rfl) t5 hc2)⟩
   ·rcases Nat.lt_or_ge (z14 P w priv o).c 2 with hc | hc
    ·have e2:=T.reads I ho hn hw hc hx tx hv e;have e3:z08 C x s'.fr ret s'.h=some (s'.fr.setF d V,s'.h):=by
      refine unz (w:=w) (by omega) (by omega) ?_;rw[zci hv];simp only[bd,e2];rfl
     refine zcl hC I.ok hx (by rw[hsz];exact hio) e3 ?_;intro s2 ok2 st2 e4;have h5:some (s2.fr,s2.h)=some (s'.fr.setF d V,s'.h):=e4;have hfr:s2.fr=s'.fr.setF d V:=(Prod.mk.inj (Option.some.inj h5)).1;have hhh:s2.h=s'.h:=(Prod.mk.inj (Option.some.inj h5)).2;rw[hxd]at st2;obtain⟨f1,f2⟩:=hfin s2 hfr fun y hy=>st2.tmp y (by simpa using hy);refine⟨s2,rfl,rfl,T.lists I ho hn hw ok2 st2.c (I.grw.trans st2.grw) hds f1 f2 (T.heapSame I ho hn hw hhh (by rw[hfr];rfl) st2.grw (by omega) fun b blk hf _=>?_)⟩;obtain⟨o',_,ho',hc',_⟩:=hf;rw[ho]at ho';cases ho';omega
    ·obtain⟨m,H⟩:=I.heap;obtain⟨_,_,_,hpi,hsz0,_,hch⟩:=T.here I ho hn hw (by omega) H;have hg:∀c,(seq i).h.get c=s'.h.get c∨(seq i).h.get c=.dead:=fun c=>(hch c).elim (fun h =>.inl h.symm) fun h =>.inr h.1;have okk:Ok {s' with h:=(seq i).h}:=I.ok.killed hsz0 hg;have e1:z08 C (z0w w x) s'.fr tp (seq i).h=some (V,h'):=zga hv (by have:=T.f.cls i o ho;omega) up (fun h=>by omega) e;have e3:z08 C x s'.fr ret (seq i).h=some (s'.fr.setF d V,h'):=by
      refine unz (w:=w) (by have:=T.f.cls i o ho;omega) (by omega) ?_;rw[zci hv];simp only[bd,e1];rfl
     refine zcl (s:={s' with h:=(seq i).h}) hC okk hx (by show insOk s'.t.size x=true;rw[hsz];exact hio) e3 ?_;intro s2 ok2 st2 e4;have h5:some (s2.fr,s2.h)=some (s'.fr.setF d V,h'):=e4;have hfr:s2.fr=s'.fr.setF d V:=(Prod.mk.inj (Option.some.inj h5)).1;have hhh:s2.h=h':=(Prod.mk.inj (Option.some.inj h5)).2;rw[hxd]at st2;obtain⟨h3',ok3,st3,gr3,hh⟩:=T.heapRun I ho hn hw (by omega) ok2 st2 (fun n pv b h=>⟨pv,b,by rw[hfr]at h;exact h⟩) (by rw[hhh,hS]) (by rw[hfr,hS];exact hpi);obtain⟨f1,f2⟩:=hfin {s2 with h:=h3'} hfr fun y hy=>st2.tmp y (by simpa using hy);exact⟨{s2 with h:=h3'},rfl,rfl,T.lists I ho hn hw ok3 st3 (I.grw.trans gr3) hds f1 f2 hh⟩
  ·have hxd:x.dst=[]:=zsz hx hd;have hc3:(z14 P w priv o).c=4:=by
    rw[←hcls];generalize z0w w x=y at hnd;cases y<;>first | rfl | cases hnd
   obtain⟨m,H⟩:=I.heap;obtain⟨_,_,_,hpi,hsz0,_,hch⟩:=T.here I ho hn hw (by omega) H;have hg:∀c,(seq i).h.get c=s'.h.get c∨(seq i).h.get c=.dead:=fun c=>(hch c).elim (fun h =>.inl h.symm) fun h =>.inr h.1;have okk:Ok {s' with h:=(seq i).h}:=I.ok.killed hsz0 hg;obtain⟨u',hA',e2,hu3⟩:=zki hnd up (by rw[hpi];exact tx.p) e;have huu:z7q s'.fr.p u'=z7q (seq i).p u:=by
    rw[hpi];rw[hA]at hA';have h6:z7q A.p u=z7q A.p u':=congrArg Fr.p hA';cases u with
    | none=>
     cases u' with
     | none=>rfl
     | some y=>
      obtain⟨n',pv'⟩:=y;have h7:=congrArg List.length h6;simp[z7q]at h7
    | some y=>
     obtain⟨n,pv⟩:=y;cases u' with
     | none=>
      have h7:=congrArg List.length h6;simp[z7q]at h7
     | some y'=>
      obtain⟨n',pv'⟩:=y';simp only[z7q,List.cons.injEq,Prod.mk.injEq,and_true]at h6;rw[h6.1,h6.2]
   have e3:=unz (by have:=(zaj (w:=w) hx (T.f.cls i o ho)).1;omega) (by have:=(zaj (w:=w) hx (T.f.cls i o ho)).1;omega) e2;refine zcl (s:={s' with h:=(seq i).h}) hC okk hx (by show insOk s'.t.size x=true;rw[hsz];exact hio) e3 ?_;intro s2 ok2 st2 e4;have h6:some (s2.fr,s2.h)=some (s'.fr.ups u',h'):=e4;have hfr:s2.fr=s'.fr.ups u':=(Prod.mk.inj (Option.some.inj h6)).1;have hhh:s2.h=h':=(Prod.mk.inj (Option.some.inj h6)).2;rw[hxd]at st2;have hpp:∀n pv b,z0g s2.fr.p n=some (pv,b)→∃qv c,z0g s'.fr.p n=some (qv,c):=by
    intro n pv b hl;rw[hfr]at hl;cases u' with
    | none=>exact⟨pv,b,hl⟩
    | some y=>
     obtain⟨n0,pv0⟩:=y;have hl':(if n0=n then some (pv0,true)else z0g s'.fr.p n)=some (pv,b):=(z1i n0 (pv0,true) s'.fr.p n).symm.trans hl;by_cases hn0:n0=n
     ·obtain⟨q,hq⟩:=hu3 n0 pv0 rfl;obtain⟨b',g1,_⟩:=tx.p n0 q true hq;rw[←hpi,hn0]at g1;exact⟨q,b',g1⟩
     ·rw[if_neg hn0]at hl';exact⟨pv,b,hl'⟩
   obtain⟨h3',ok3,st3,gr3,hh⟩:=T.heapRun I ho hn hw (by omega) ok2 st2 hpp (by rw[hhh,hS]) (by rw[hS,hfr];exact huu);refine⟨{s2 with h:=h3'},rfl,rfl,T.lists I ho hn hw ok3 st3 (I.grw.trans gr3) (by intro y hy;cases hy) (by intro d' hd';rw[hd]at hd';cases hd') ?_ hh⟩;intro y hy;exact⟨by show z0g s2.fr.v y=_;rw[hfr];rfl,st2.tmp y (by simp)⟩
 ·-- a pick
  rw[if_pos (hwn.1 hwt)];refine .inl ?_;obtain⟨hdst,hop⟩:=z5u hp;have hdd:=zhr (P:=P) (w:=w) (priv:=priv) hp;have hlg:z0g s'.fr.v gs=some (.v (.bool b)):=by
   rw[T.looks I ho hn hw (m:=gs) (by rw[hdd];simp)];exact hg
  have slotv:∀{m:Nat}{c:Bool},z0g s'.fr.v m=some (.v (.bool c))→s'.t[m]? = some (.bool c):=by
   intro m c h;obtain⟨h1,h2⟩:=I.ok.slots m _ h;rw[za2 h1];have h3:VRel s'.ρ (.bool c) (s'.t.getD m undef):=h2;generalize s'.t.getD m undef=q at h3;cases h3;rfl
  have hgt:=slotv hlg;have hval:∀{m:Nat}{c:Bool},z0g s'.fr.v m=some (.v (.bool c))→Act.eval ⟨s'.t,[]⟩ (.tmp m)=.bool c:=by
   intro m c h;have:=slotv h
   simp[Act.eval,Array.getD_eq_getD_getElem?,this]
  have fin:(∃s2:S,(⟨s'.t.setIfInBounds d (.bool z),[]⟩:Act)=⟨s2.t,[]⟩∧s'.w=s2.w∧Inv P priv w ops s seq D (listed.setIfInBounds i true) s2):=by
   obtain⟨ok2,st2⟩:=I.ok.set (d:=d) (by rw[hsz];exact hdn) (VRel.bool (ρ:=s'.ρ) z);have hlk:∀y,z0g (s'.fr.set d (.bool z)).v y=if d=y then some (.v (.bool z))else z0g s'.fr.v y:=fun y=>z1i d _ s'.fr.v y
   have hc0:(z14 P w priv o).c=0:=by rw[hdd]
   refine⟨{s' with fr:=s'.fr.set d (.bool z),t:=s'.t.setIfInBounds d (.bool z)},rfl,rfl,T.lists I ho hn hw ok2 st2.c (I.grw.trans st2.grw) ?_ ?_ ?_ (T.heapSame I ho hn hw rfl rfl st2.grw (by omega) fun b blk hf _=>?_)⟩
   ·intro y hy;simp at hy;subst hy;exact T.d i o y ho hdst
   ·intro d' hd';rw[hdst]at hd';cases hd';have h6:(seq (i+1)).W d=some (.v (.bool z)):=by
     rw[hS];exact z8i _ _ _
    refine⟨?_,fun c=>by rw[h6]at c;cases c⟩;show z0g (s'.fr.set d (.bool z)).v d=_;rw[hlk,if_pos rfl,h6]
   ·intro y hy;have hne:d≠y:=fun c=>hy (by rw[hdst,c]);refine⟨?_,st2.tmp y (by simpa using fun c=>hne c.symm)⟩;show z0g (s'.fr.set d (.bool z)).v y=_;rw[hlk,if_neg hne]
   ·obtain⟨o',_,ho',hc',_⟩:=hf;rw[ho]at ho';cases ho';omega
  rcases hop with⟨hwt',hop⟩ | ⟨hwt',hop⟩
  ·subst hwt';refine zbg hop hdst hgt ?_;cases b with
   | true=>
    rw[if_pos rfl,hval (c:=z) (by rw[T.looks I ho hn hw (m:=n) (by rw[hdd];simp)];exact hb1 rfl)];exact fin
   | false=>
    obtain rfl:=hb2 (by simp);rw[if_neg (by simp)];exact fin
  ·subst hwt';refine zbg hop hdst hgt ?_;cases b with
   | false=>
    rw[if_neg (by simp),hval (c:=z) (by rw[T.looks I ho hn hw (m:=n) (by rw[hdd];simp)];exact hb1 rfl)];exact fin
   | true=>
    obtain rfl:=hb2 (by simp);rw[if_pos rfl];exact fin
end
theorem Txts.any(hC:∀f en,z0g C f=some en→Sound P f en)
  (hfin:∀s2,Ok s2→Stp s s2 D→s2.h=(seq ops.size).h→s2.fr.p=(seq ops.size).p→(∀x,z0g s2.fr.v x=(seq ops.size).W x)→Q .normal ⟨s2.t,[]⟩ s2.w) :
  ∀(fuel:Nat)(listed:Array Bool)(s':S),Inv P priv w ops s seq D listed s'→zkw listed ops.size≤fuel→wpAny P .any ops Q fuel listed ⟨s'.t,[]⟩ s'.w:=by
 have finish:∀(listed:Array Bool)(s':S),Inv P priv w ops s seq D listed s'→(∀i,i<ops.size→Lst listed i)→Q .normal ⟨s'.t,[]⟩ s'.w:=by
  intro listed s' I hall;obtain⟨m,H⟩:=I.heap;obtain⟨g1,g2,g3⟩:=T.upto m ops.size H.le (Nat.le_refl _) fun j o hj hj2 ho=>by
   rcases Nat.lt_or_ge (z14 P w priv o).c 3 with h | h
   ·exact h
   ·have:=(H.h3 j o ho h).1 (hall j hj2);omega
  have hget:∀c,(seq ops.size).h.get c=s'.h.get c:=by
   intro c;rcases g3 c with⟨j,blk,a1,a2,a3,a4,a5⟩ | ⟨a1,a2⟩
   ·rw[a5];exact(H.hD j c blk a1 ⟨a3,hall j a2,a4⟩).symm
   ·rw[a2];refine(H.hO c fun j blk hj hd=>?_).symm;obtain⟨o,_,ho,_⟩:=hd.1;exact a1 j blk hj (Array.getElem?_eq_some_iff.1 ho).1 hd.1 hd.2.2
  have hg:∀c,(seq ops.size).h.get c=s'.h.get c∨(seq ops.size).h.get c=.dead:=fun c =>.inl (hget c);have hsz:(seq ops.size).h.size=s'.h.size:=g2.trans H.size.symm;refine hfin {s' with h:=(seq ops.size).h} (I.ok.killed hsz hg) ?_ rfl (H.p.trans g1.symm) ?_
  ·have st:=I.stp;refine StpC.stp ⟨st.ext,st.os,st.tape,st.output,st.size,st.old,fun r f=>st.foot r (zbz hg f),fun r f=>st.liv r (zai hg f),st.wr,st.pi,st.pi2,st.tsz,st.tmp⟩ ?_;exact⟨by show s.h.size≤(seq ops.size).h.size;rw[hsz];exact I.grw.1,I.grw.2⟩
  ·intro x;by_cases hex:∃(j:Nat)(oj:Oper),ops[j]? = some oj∧oj.dst=some x
   ·obtain⟨j,oj,hoj,hd⟩:=hex;have hlt:j<ops.size:=(Array.getElem?_eq_some_iff.1 hoj).1;show z0g s'.fr.v x=_;rw[(I.slot j oj x hoj (hall j hlt) hd).1,T.w2 hoj hd ops.size hlt (Nat.le_refl _)]
   ·show z0g s'.fr.v x=_;rw[I.other x fun j oj hoj _ hd=>hex ⟨j,oj,hoj,hd⟩,T.w1 ops.size (Nat.le_refl _) x fun j oj _ hoj hd=>hex ⟨j,oj,hoj,hd⟩]
 have none_ready:∀(listed:Array Bool)(s':S),Inv P priv w ops s seq D listed s'→Region.ready .any ops listed=[]→∀i,i<ops.size→Lst listed i:=by
  intro listed s' I hr i;induction i using Nat.strongRecOn with
  | ind i ih=>
   intro hi;by_cases hL:Lst listed i
   ·exact hL
   ·obtain⟨o,ho⟩:∃o,ops[i]? = some o:=⟨_,Array.getElem?_eq_getElem hi⟩;have hmem:i∈Region.ready .any ops listed:=by
     rw[mem_ready];refine⟨?_,o,ho,fun e he hb=>?_⟩
     ·have hls:i<listed.size:=by rw[I.lsz];exact hi
      unfold Lst at hL;simp[hls]at hL ⊢;exact hL
     ·have:=T.f.aft i o ho e (by simpa using he) hb
      exact ih e.on this (by have h2:e.on<i:=this;omega)
    rw[hr]at hmem;cases hmem
 intro fuel;induction fuel with
 | zero=>
  intro listed s' I hc;have hall:∀i,i<ops.size→Lst listed i:=by
   intro i hi;have h0:zkw listed ops.size=0:=by omega
   unfold zkw at h0;have h1:=List.countP_eq_zero.1 h0 i (by simpa using hi);have hls:i<listed.size:=by rw[I.lsz];exact hi
   unfold Lst;simp[hls]at h1 ⊢;exact h1
  refine⟨?_,finish listed s' I hall⟩;apply List.eq_nil_iff_forall_not_mem.2;intro i hi;rw[mem_ready]at hi;obtain⟨h0,o,ho,_⟩:=hi;exact(zw7 h0).1 (hall i (Array.getElem?_eq_some_iff.1 ho).1)
 | succ fuel ih=>
  intro listed s' I hc;refine⟨fun hr=>finish listed s' I (none_ready listed s' I hr),fun i hi=>?_⟩;rw[mem_ready]at hi;obtain⟨h0,o,ho,hw⟩:=hi;obtain⟨hn,hls⟩:=zw7 h0;have hlt:i<ops.size:=(Array.getElem?_eq_some_iff.1 ho).1;refine wpOp_mono ?_ (T.one I ho hn (fun e he hb=>hw e (by simpa using he) hb) hC);rintro a' w' ⟨s2,rfl,rfl,I2⟩
  refine ih _ s2 I2 ?_;have:zkw (listed.setIfInBounds i true) ops.size<zkw listed ops.size:=by
   unfold zkw;refine countP_drop (i:=i) (fun x _ hx=>?_) (by simpa using hlt) (by rw[h0];rfl) ?_
   ·by_cases e:i=x
    ·subst e;simp[hls]at hx
    ·rwa [getD_set_ne true e]at hx
   ·simp[hls]
  omega
end
theorem zro(b:Bool)(rs:List Nat)(n n':Nat)(x:Ins):(z0w ⟨b,rs,n⟩ x).cls=(z0w ⟨b,rs,n'⟩ x).cls∧(z0w ⟨b,rs,n⟩ x).opds=(z0w ⟨b,rs,n'⟩ x).opds∧(z0w ⟨b,rs,n⟩ x).pl=(z0w ⟨b,rs,n'⟩ x).pl∧zfk (z0w ⟨b,rs,n⟩ x)=zfk (z0w ⟨b,rs,n'⟩ x)∧(z0w ⟨b,rs,n⟩ x).lv=(z0w ⟨b,rs,n'⟩ x).lv:=by
 cases x<;>first | exact⟨rfl,rfl,rfl,rfl,rfl⟩ | (simp only[z0w];cases (mem _ rs)<;>exact⟨rfl,rfl,rfl,rfl,rfl⟩)
theorem zrp(b:Bool)(rs:List Nat)(n n':Nat)(o:Oper):z14 P ⟨b,rs,n⟩ priv o=z14 P ⟨b,rs,n'⟩ priv o:=by
 unfold z14;split
 ·rfl
 ·rfl
 ·split
  ·rename_i x hx;obtain⟨h1,h2,h3,_,h5⟩:=zro b rs n n' x;rw[h1,h2,h3,h5]
  ·rfl
theorem z16w(b:Bool)(rs:List Nat)(n n':Nat):z69 P ⟨b,rs,n⟩ priv ops=z69 P ⟨b,rs,n'⟩ priv ops:=by
 unfold z69;rw[show z14 P ⟨b,rs,n⟩ priv=z14 P ⟨b,rs,n'⟩ priv from funext (zrp b rs n n')]
theorem zzt(b:Bool)(rs:List Nat)(n n':Nat):zra P ⟨b,rs,n⟩ priv ops=zra P ⟨b,rs,n'⟩ priv ops:=by
 unfold zra;congr 1;funext o;cases z0s P priv o with
 | none=>rfl
 | some x=>exact(zro b rs n n' x).2.2.2.1
theorem zxo(b:Bool)(rs:List Nat)(n n':Nat)(l:List Item):zck P ⟨b,rs,n⟩ priv ops l=zck P ⟨b,rs,n'⟩ priv ops l:=by
 unfold zck;rw[show z14 P ⟨b,rs,n⟩ priv=z14 P ⟨b,rs,n'⟩ priv from funext (zrp b rs n n'),zzt b rs n n']
theorem z13z(b:Bool)(n n':Nat)(x:Ins):z0w ⟨b,[],n⟩ x=z0w ⟨b,[],n'⟩ x:=by cases x<;>rfl
mutual
theorem zzu(b:Bool)(n n':Nat):∀x:Item,z8w ⟨b,[],n⟩ x=z8w ⟨b,[],n'⟩ x
 | .i x=>by simp only[z8w];rw[z13z b n n']
 | .sc p a g body c d=>by simp only[z8w];rw[zg7 b n n' body]
theorem zg7(b:Bool)(n n':Nat):∀l:List Item,zItems ⟨b,[],n⟩ l=zItems ⟨b,[],n'⟩ l
 | []=>rfl
 | x::r=>by simp only[zItems];rw[zzu b n n' x,zg7 b n n' r]
end
theorem zrq{β:Type}{fr:Fr}{m:M β}{h:Hp}{res:β×Hp}:∀{ap:List (Opd×Opd)},chk fr m ap h=some res→(∀x y,(x,y)∈ap→z8c (x.val fr) (y.val fr)=true)∧m h=some res
 | [],e=>⟨fun x y h=>by (cases h),e⟩
 | (x,y)::r,e=>by
  simp only[chk]at e;cases ha:z8c (x.val fr) (y.val fr)with
  | false=>rw[ha]at e;cases e
  | true=>
   rw[ha]at e;obtain⟨h1,h2⟩:=zrq (ap:=r) e;refine⟨fun x' y' hm=>?_,h2⟩;rcases List.mem_cons.1 hm with h | h
   ·cases h;exact ha
   ·exact h1 x' y' h
theorem zxp{a b:Option FV}(h:z8c a b=true):(∃v,a=some v∧v≠.gone)∧∃v,b=some v∧v≠.gone:=by
 unfold z8c at h;split at h<;>first | (cases h;done) | exact⟨⟨_,rfl,by simp⟩,_,rfl,by simp⟩
theorem zlv{β:Type}(hC:∀f en,z0g C f=some en→Sound P f en){wb:Bool}{rs:List Nat}{f:Nat}{l:List Item}(hi:z4e P ntmps priv pu ops f (List.range ops.size) none []=some (l,[]))(hd0:zck P ⟨wb,rs,0⟩ priv ops l=true)
  (k:Fr→M β) (s:S) (res:β×Hp) (ok:Ok s) (hsz:s.t.size=ntmps)
  (e:z3p C (zItems ⟨wb,rs,s.h.size⟩ l) s.fr (fun fr'=>chk fr' (k fr') (z69 P ⟨wb,rs,0⟩ priv ops)) (s.h.holds rs.length)=some res)
  (hk:∀s',Ok s'→Stp s s' (z0m l)→k s'.fr s'.h=some res→Q .normal ⟨s'.t,[]⟩ s'.w) (id:Nat):(Code.region id ops true).wp P Q ⟨s.t,[]⟩ s.w:=by
 rw[zxo wb rs 0 s.h.size]at hd0;rw[z16w wb rs 0 s.h.size]at e;obtain⟨F,hm,hD⟩:=z146 hd0;have hcl:∀(i:Nat) o x,ops[i]? = some o→z0s P priv o=some x→(z0w ⟨wb,rs,s.h.size⟩ x).cls<5:=by
  intro i o x ho hx;have hcl:=F.cls i o ho;rw[←(zaj (w:=⟨wb,rs,s.h.size⟩) hx hcl).1];exact hcl
 rw[List.range_eq_range',show ops.size=ops.size - 0 from rfl]at hi;have tx0:Txt ntmps s.fr ⟨fun n=>z0g s.fr.v n,s.h.holds rs.length,s.fr.p⟩:=⟨fun n v hv=>by rw[←hsz];exact(ok.slots n v hv).1,fun n v hv =>.inr hv,zb8.refl _⟩;obtain⟨b,S',fr',hrest,run,tx,e2,_,_⟩:=z114 hcl f 0 none [] l [] hi _ s.fr ⟨fun n=>z0g s.fr.v n,s.h.holds rs.length,s.fr.p⟩ res tx0 trivial e;obtain⟨hap,e2⟩:=zrq e2;obtain⟨seq,h0,hb,_,hst⟩:=z16t run;have hbn:ops.size≤b:=by
  have:=congrArg List.length hrest
  simp at this;omega
 have hbn2:b=ops.size:=by
  rcases Nat.lt_or_ge ops.size b with h | h
  ·obtain⟨o,ho,_⟩:=hst ops.size (by omega) h;have:=(Array.getElem?_eq_some_iff.1 ho).1
   omega
  ·omega
 subst hbn2
 -- behind the draw
 let s0:S:={s with w:={s.w with drawn:=s.w.drawn+1},h:=s.h.holds rs.length}
 have hgh:∀c,(s.h.holds rs.length).get c=s.h.get c∨(s.h.holds rs.length).get c=.dead:=by
  intro c;rw[za4];split
  ·exact .inr rfl
  ·exact .inl rfl
 have ok0:Ok s0:=⟨ok.heap.holds _,ok.slots,fun n pv b h=>⟨(ok.priv n pv b h).1,fun f=>(ok.priv n pv b h).2 (zai hgh f)⟩,ok.pinj⟩;have st0:StpC s s0 []:=⟨Ext.refl _,rfl,rfl,rfl,Nat.le_refl _,fun _ _ _ _=>rfl,fun _ h =>.inl (zbz hgh h),fun _ h =>.inl (zai hgh h),fun _ h =>.inl h,fun _ _=>rfl,fun _ =>.inl rfl,rfl,fun _ _=>rfl⟩;have T:Txts P priv ntmps ⟨wb,rs,s.h.size⟩ ops C s seq (z0m l):=⟨F,fun i hi=>hst i (by omega) hi,fun x=>by rw[h0],hsz,hD,fun x y hxy=>by
  have h1:=hap x y hxy;obtain⟨⟨v,h2,h3⟩,u,h4,h5⟩:=zxp h1;rw[hb,tx.valW h2 h3,tx.valW h4 h5];rw[h2,h4]at h1;exact h1,Nat.le_refl _⟩
 refine wp_region_any hm ?_;refine T.any hC ?_ ops.size _ s0 ?_ ?_
 ·intro s2 ok2 st2 hh hp hv;rw[hb]at hh hp hv;let s3:S:={s2 with fr:=fr'}
  have ok3:Ok s3:=by
   refine⟨ok2.heap,fun n v hn=>?_,fun n pv c hn=>?_,fun n m x y hx hy hne=>?_⟩
   ·have hlt:n<s2.t.size:=by
     rw[st2.tsz];show n<s.t.size;rw[hsz];exact tx.b n v hn
    refine⟨hlt,?_⟩;rcases tx.v n v hn with rfl | h
    ·trivial
    ·rw[←hv n]at h;exact(ok2.slots n v h).2
   ·obtain⟨b',h1,_⟩:=tx.p n pv c hn;rw[←hp]at h1;exact ok2.priv n pv b' h1
   ·obtain⟨b1,h1,_⟩:=tx.p n x.1 x.2 hx;obtain⟨b2,h2,_⟩:=tx.p m y.1 y.2 hy;rw[←hp]at h1 h2;exact ok2.pinj n m _ _ h1 h2 hne
  have st3:Stp s2 s3 []:=by
   refine⟨Ext.refl _,rfl,rfl,rfl,Nat.le_refl _,⟨Nat.le_refl _,fun _ _ e =>.inl e⟩,fun _ _ _ _=>rfl,fun _ h =>.inl h,fun _ h =>.inl h,?_,fun _ _=>rfl,fun _ =>.inl rfl,rfl,fun _ _=>rfl⟩;rintro r ⟨n,pv,hn,rfl⟩
   obtain⟨b',h1,h2⟩:=tx.p n pv true hn;rw[←hp,h2 rfl]at h1;exact .inl ⟨n,pv,h1,rfl⟩
  exact hk s3 ok3 ((st2.trans st3).mono (by simp)) (by show k fr' s2.h=_;rw[hh];exact e2)
 ·have hno:∀i,¬Lst (Array.replicate ops.size false) i:=by
   intro i;unfold Lst;by_cases h:i<ops.size
   ·simp[h]
   ·simp[h]
  have hfl:∀j b,z8a P ⟨wb,rs,s.h.size⟩ priv ops j b→s.h.size≤b∧b<s.h.size+rs.length:=by
   rintro j b ⟨o,d,_,_,_,h4,rfl⟩
   have h5:z6k d rs<rs.length:=zt0 h4;exact⟨by show s.h.size≤s.h.size+z6k d rs;omega,by show s.h.size+z6k d rs<_;omega⟩
  refine⟨ok0,st0.mono (by simp),⟨by show s.h.size≤(s.h.holds rs.length).size;rw[zdd];omega,fun _ _ e =>.inl e⟩,by simp,fun i o _ h=>absurd h (hno i),fun i o _ _ h=>absurd h (hno i),fun _ _=>rfl,0,Nat.zero_le _,by rw[h0],by rw[h0],fun j o _ _=>⟨fun h=>absurd h (hno j),fun h=>by omega⟩,fun j o _ _ h=>by omega,?_,?_,fun j b blk _ hd=>absurd hd.2.1 (hno j),?_,fun b _=>by rw[h0]⟩
  ·intro m' hm' b hb';obtain rfl:m'=0:=by omega
   rw[h0]at hb' ⊢;obtain⟨rb,hr⟩:=ok0.heap.live b hb';exact ok0.heap.dom _ _ hr
  ·intro j b _ hf;obtain⟨g1,g2⟩:=hfl j b hf;rw[h0];refine⟨?_,by show b<(s.h.holds rs.length).size;rw[zdd];exact g2⟩;show(s.h.holds rs.length).get b=.dead;rw[za4,if_pos ⟨g1,g2⟩]
  ·intro j b _ hf _;obtain⟨g1,g2⟩:=hfl j b hf;show s.ρ b=none;cases hr:s.ρ b with
   | none=>rfl
   | some rb=>have:=ok.heap.dom b rb hr;omega
 ·unfold zkw;exact Nat.le_trans List.countP_le_length (by simp)
end
end Go.Mini
