/- The laws' own toolkit: what a piece of the small machine's work comes to. -/
import Derived.Test.YtfieiaijdalkbaaGreatMA
import Derived.Test.YtfieiaijdalkbaaGreatMB
namespace Go.Mini
def Wp{α:Type}(m:M α)(h:Hp)(Q:α→Hp→Prop):Prop:=∃a h',m h=some (a,h')∧Q a h'
section
variable{α β γ:Type}{h:Hp}{Q:β→Hp→Prop}
theorem Wp.mono{m:M α}{Q Q':α→Hp→Prop}(k:Wp m h Q)(hq:∀a h',Q a h'→Q' a h'):Wp m h Q':=by
 obtain⟨a,h',e,q⟩:=k;exact⟨a,h',e,hq a h' q⟩
end
@[simp] theorem Hp.get_set_same (h:Hp) (b:Nat) (x:Blk):(h.set b x).get b=x:=by rw[Hp.get_set,if_pos rfl]
theorem Hp.get_set_ne(h:Hp){b c:Nat}(x:Blk)(e:c≠b):(h.set b x).get c=h.get c:=by rw[Hp.get_set,if_neg e]
@[simp] theorem Hp.get_push_same (h:Hp) (x:Blk):(h.push x).get h.size=x:=by rw[Hp.get_push,if_pos rfl]
theorem Hp.get_push_ne(h:Hp){c:Nat}(x:Blk)(e:c≠h.size):(h.push x).get c=h.get c:=by rw[Hp.get_push,if_neg e]
theorem Hp.get_push_lt(h:Hp){c:Nat}(x:Blk)(e:c<h.size):(h.push x).get c=h.get c:=h.get_push_ne x (by omega)
section
variable{h:Hp}{b o:Nat}{cs:List MV}{ro:Bool}
theorem zfu(hg:h.get b=.cells cs ro){v:MV}(hv:cs[o]? = some v):ldc (some ⟨b,o⟩) h=some (v,h):=by
 simp only[ldc,hg,hv]
theorem zit(hg:h.get b=.cells cs ro){k:IntKind}{n:Int}(hv:cs[o]? = some (.int k n)):ldI k (some ⟨b,o⟩) h=some (n,h):=by
 simp only[ldI,bd,zfu hg hv,CTy.dec,if_true,z0p]
theorem ztq(hg:h.get b=.cells cs ro){n:Bool}(hv:cs[o]? = some (.bool n)):ldB (some ⟨b,o⟩) h=some (n,h):=by
 simp only[ldB,bd,zfu hg hv,CTy.dec,z0p]
theorem z1a9(hg:h.get b=.cells cs ro){n:List UInt8}(hv:cs[o]? = some (.str n)):ldS (some ⟨b,o⟩) h=some (n,h):=by
 simp only[ldS,bd,zfu hg hv,CTy.dec,z0p]
theorem z11w(hg:h.get b=.cells cs ro){n:Option MA}(hv:cs[o]? = some (.ptr n)):ldP (some ⟨b,o⟩) h=some (n,h):=by
 simp only[ldP,bd,zfu hg hv,CTy.dec,z0p]
theorem zn5(hg:h.get b=.cells cs ro){n:Option Nat}(hv:cs[o]? = some (.map n)):ldM (some ⟨b,o⟩) h=some (n,h):=by
 simp only[ldM,bd,zfu hg hv,CTy.dec,z0p]
theorem ziu(hg:h.get b=.cells cs ro){e l:Nat}{p:Option MA}(hv:cs[o]? = some (.sl p l e)):ldL e (some ⟨b,o⟩) h=some (⟨p,l⟩,h):=by
 simp only[ldL,bd,zfu hg hv,CTy.dec,if_true,z0p]
theorem ze3(hg:h.get b=.cells cs ro){n:Nat}(hl:o+n≤cs.length):ldn n (some ⟨b,o⟩) h=some ((cs.drop o).take n,h):=by
 simp only[ldn,hg,hl,if_true]
theorem z11x(hg:h.get b=.cells cs false){v:MV}(hl:o<cs.length)(hc:z10 v=true):stc (some ⟨b,o⟩) v h=some ((),h.set b (.cells (cs.set o v) false)):=by
 simp only[stc,hg,hl,hc,and_self,if_true]
theorem z1aa(hg:h.get b=.cells cs false){n:Nat}{vs:List MV}(hn:vs.length=n)(hl:o+vs.length≤cs.length)(hc:vs.all z10=true):stn n (some ⟨b,o⟩) vs h=some ((),h.set b (.cells (z11 cs o vs) false)):=by
 subst hn;simp only[stn,hg,hl,hc,and_self,if_true]
theorem z1ab{e l:Nat}{p:MA}{i:Int}(h0:0≤i)(h1:i<l):idx e ⟨some p,l⟩ i h=some (some ⟨p.blk,p.off+i.toNat * e⟩,h):=by
 simp only[idx,h0,h1,and_self,if_true,ret,MA.add]
theorem idxA_eq{n e:Nat}{p:MA}{i:Int}(h0:0≤i)(h1:i<n):idxA n e (some p) i h=some (some ⟨p.blk,p.off+i.toNat * e⟩,h):=by
 simp only[idxA,h0,h1,and_self,if_true,ret,MA.add]
theorem zok{e l:Nat}{p:MA}{i:Nat}(h1:i<l):idx e ⟨some p,l⟩ (i:Int) h=some (some ⟨p.blk,p.off+i * e⟩,h):=by
 rw[z1ab (by omega) (by omega)];simp
theorem z187(hg:h.get b=.cells cs ro){n e:Nat}{a c:Int}(h0:0≤a)(h1:a≤c)(h2:c≤n)(h3:o+n * e≤cs.length)(h4:n≤most:=by decide):slcA n e (some ⟨b,o⟩) a c h=some (⟨some ⟨b,o+a.toNat * e⟩,(c - a).toNat⟩,h):=by
 simp only[slcA,hg,h0,h1,h2,h3,h4,and_self,if_true,MA.add]
end
structure Mod(h:Hp)(fp:Nat→Prop)(h':Hp)(fp':Nat→Prop):Prop where
 size:h.size≤h'.size
 same:∀b,b<h.size→¬fp b→h'.get b=h.get b
 own:∀b,fp' b→fp b∨h.size≤b
theorem Mod.refl(h:Hp)(fp:Nat→Prop):Mod h fp h fp:=⟨Nat.le_refl _,fun _ _ _=>rfl,fun _ hb =>.inl hb⟩
theorem Mod.trans{h h1 h2:Hp}{f f1 f2:Nat→Prop}(a:Mod h f h1 f1)(b:Mod h1 f1 h2 f2):Mod h f h2 f2 where
 size:=Nat.le_trans a.size b.size
 same:=fun c hc hn=>by
  rw[b.same c (Nat.lt_of_lt_of_le hc a.size) (fun k=>by rcases a.own c k with k | k;exact hn k;omega),a.same c hc hn]
 own:=fun c hc=>by
  rcases b.own c hc with k | k
  ·exact a.own c k
  ·exact .inr (Nat.le_trans a.size k)
theorem Mod.apart{h h':Hp}{f f' g:Nat→Prop}(a:Mod h f h' f')(lt:∀b,g b→b<h.size)(dis:∀b,g b→¬f b):(∀b,g b→h'.get b=h.get b)∧∀b,g b→¬f' b:=
 ⟨fun b hb=>a.same b (lt b hb) (dis b hb),fun b hb hf=>by
  rcases a.own b hf with k | k
  ·exact dis b hb k
  ·have:=lt b hb;omega⟩
theorem z09{n:Int}(h0 : -9223372036854775808≤n)(h1:n≤9223372036854775807):wr .i64 n=n:=by
 unfold wr IntKind.wrap IntKind.bits IntKind.signed;simp only[Bool.true_and];have e64:(2:Int)^64=18446744073709551616:=by decide
 have e63:(2:Int)^(64 - 1)=9223372036854775808:=by decide
 rw[e64,e63];by_cases hn:0≤n
 ·have h2:n%18446744073709551616=n:=Int.emod_eq_of_lt hn (by omega);rw[h2,if_neg];simp;omega
 ·have h2:n%18446744073709551616=n+18446744073709551616:=by omega
  rw[h2,if_pos]
  ·omega
  ·simp;omega
end Go.Mini

/- The laws' own toolkit: maps whose keys are numbers; slices that came in. -/
namespace Go.Mini
def idxI(kd:IntKind):List (MV×MV)→Int→Option (Nat×MV)
 | [],_=>none
 | (.int kd' n,v)::r,k=>if kd'=kd∧k=n then some (0,v)else(idxI kd r k).map fun x=>(x.1+1,x.2)
 | _::r,k=>(idxI kd r k).map fun x=>(x.1+1,x.2)
def z1az(kd:IntKind)(es:List (MV×MV)):Prop:=∀e∈es,∃n,e.1=.int kd n
def IMap(h:Hp)(kd:IntKind)(b:Nat)(f:Int→Option MV):Prop:=∃es,h.get b=.map es∧z1az kd es∧∀k,(idxI kd es k).map (·.2)=f k
theorem IMap.frame{h h':Hp}{kd:IntKind}{b:Nat}{f:Int→Option MV}(m:IMap h kd b f)(e:h'.get b=h.get b):IMap h' kd b f:=by
 obtain⟨es,h1,h2⟩:=m;exact⟨es,e.trans h1,h2⟩
def zgy(h:Hp)(s:Sl)(e:Nat)(cs:List MV):Prop:=cs.length=s.len * e∧(cs≠[]→∃b ro,s.p=some ⟨b,0⟩∧h.get b=.cells cs ro∧b<h.size)
def SlB(s:Sl)(cs:List MV)(b:Nat):Prop:=cs≠[]∧s.p=some ⟨b,0⟩
theorem zgy.frame{h h':Hp}{s:Sl}{e:Nat}{cs:List MV}(k:zgy h s e cs)(hs:h.size≤h'.size)(same:∀b,SlB s cs b→h'.get b=h.get b):zgy h' s e cs:=
 ⟨k.1,fun hc=>by
  obtain⟨b,ro,h1,h2,h3⟩:=k.2 hc;exact⟨b,ro,h1,by rw[same b ⟨hc,h1⟩];exact h2,Nat.lt_of_lt_of_le h3 hs⟩⟩
theorem zgy.lt{h:Hp}{s:Sl}{e:Nat}{cs:List MV}(k:zgy h s e cs){b:Nat}(hb:SlB s cs b):b<h.size:=by
 obtain⟨b',ro,h1,_,h3⟩:=k.2 hb.1;rw[hb.2]at h1;cases h1;exact h3
theorem zgy.one{h:Hp}{s:Sl}{cs:List MV}(k:zgy h s 1 cs){i:Nat}(hi:i<s.len):∃b ro,idx 1 s (i:Int) h=some (some ⟨b,i⟩,h)∧h.get b=.cells cs ro∧i<cs.length:=by
 have hl:=k.1;obtain⟨b,ro,h1,h2,_⟩:=k.2 (by intro c;rw[c]at hl;simp at hl;omega);obtain⟨p,l⟩:=s;simp only at h1 hi hl;subst h1;exact⟨b,ro,by rw[zok hi];simp,h2,by omega⟩
theorem zgy.row{h:Hp}{s:Sl}{e:Nat}{cs:List MV}(k:zgy h s e cs)(he:0<e){i:Nat}(hi:i<s.len):∃b ro,idx e s (i:Int) h=some (some ⟨b,i * e⟩,h)∧h.get b=.cells cs ro∧i * e+e≤cs.length:=by
 have hl:=k.1;have h5:i * e+e≤s.len * e:=by
  have:=Nat.mul_le_mul_right e (show i+1≤s.len by omega)
  rw[Nat.add_mul]at this;omega
 obtain⟨b,ro,h1,h2,_⟩:=k.2 (by intro c;rw[c]at hl;simp at hl;omega);obtain⟨p,l⟩:=s;simp only at h1 hi hl h5;subst h1;exact⟨b,ro,by rw[zok hi];simp,h2,by omega⟩
end Go.Mini

/- The laws' own toolkit: what a piece of work does to the blocks that are its own. Assertions speak of a few blocks; the others stay as they are. -/
namespace Go.Mini
abbrev PH:=Nat→Option Blk
abbrev HA:=PH→Prop
def ze4(p q:PH):Prop:=∀b,p b=none∨q b=none
def un(p q:PH):PH:=fun b=>match p b with
 | some x=>some x
 | none=>q b
def pts(b:Nat)(x:Blk):HA:=fun q=>∀c,q c=if c=b then some x else none
def emp:HA:=fun q=>∀b,q b=none
def z18(A B:HA):HA:=fun q=>∃q1 q2,A q1∧B q2∧ze4 q1 q2∧q=un q1 q2
def z00:List HA→HA
 | []=>emp
 | A::l=>z18 A (z00 l)
def exA{α:Type}(f:α→HA):HA:=fun q=>∃x,f x q
def pu(φ:Prop)(A:HA):HA:=fun q=>φ∧A q
def Has(h:Hp)(q:PH):Prop:=∀b x,q b=some x→b<h.size∧h.get b=x
def Tri{α:Type}(A:HA)(m:M α)(Q:α→HA):Prop:=∀h q,A q→Has h q→∃a h' q',m h=some (a,h')∧Q a q'∧Has h' q'∧h.size≤h'.size ∧
 (∀b,b<h.size→q b=none→h'.get b=h.get b)∧∀b,q' b≠none→q b≠none∨h.size≤b
theorem ze4.symm{p q:PH}(d:ze4 p q):ze4 q p:=fun b=>(d b).symm
theorem zwz{p q:PH}(d:ze4 p q):un p q=un q p:=by
 funext b;unfold un;rcases d b with h | h
 ·rw[h];cases q b<;>rfl
 ·rw[h];cases p b<;>rfl
theorem ztr(p q r:PH):un (un p q) r=un p (un q r):=by
 funext b;unfold un;cases p b<;>rfl
theorem z6i{p q:PH}{b:Nat}:un p q b=none↔p b=none∧q b=none:=by
 unfold un;cases p b<;>simp
theorem zjr{p q r:PH}:ze4 (un p q) r↔ze4 p r∧ze4 q r:=by
 constructor
 ·intro d;refine⟨fun b=>?_,fun b=>?_⟩
  ·rcases d b with h | h
   ·exact .inl (z6i.1 h).1
   ·exact .inr h
  ·rcases d b with h | h
   ·exact .inl (z6i.1 h).2
   ·exact .inr h
 ·rintro⟨d1,d2⟩ b
  rcases d1 b with h | h
  ·rcases d2 b with h2 | h2
   ·exact .inl (z6i.2 ⟨h,h2⟩)
   ·exact .inr h2
  ·exact .inr h
theorem z8n(A B:HA):z18 A B=z18 B A:=by
 funext q;apply propext;constructor
 ·rintro⟨p,r,a,b,d,rfl⟩
  exact⟨r,p,b,a,d.symm,zwz d⟩
 ·rintro⟨p,r,a,b,d,rfl⟩
  exact⟨r,p,b,a,d.symm,zwz d⟩
theorem z4h(A B C:HA):z18 (z18 A B) C=z18 A (z18 B C):=by
 funext q;apply propext;constructor
 ·rintro⟨p,r,⟨p1,p2,a,b,d,rfl⟩,c,d2,rfl⟩
  obtain⟨d3,d4⟩:=zjr.1 d2;exact⟨p1,un p2 r,a,⟨p2,r,b,c,d4,rfl⟩,(zjr.2 ⟨d.symm,d3.symm⟩).symm,ztr _ _ _⟩
 ·rintro⟨p1,r,a,⟨p2,r2,b,c,d,rfl⟩,d2,rfl⟩
  obtain⟨d3,d4⟩:=zjr.1 d2.symm;exact⟨un p1 p2,r2,⟨p1,p2,a,b,d3.symm,rfl⟩,c,zjr.2 ⟨d4.symm,d⟩,(ztr _ _ _).symm⟩
theorem zet(A B C:HA):z18 A (z18 B C)=z18 B (z18 A C):=by rw[←z4h,z8n A B,z4h]
theorem star_emp(A:HA):z18 A emp=A:=by
 funext q;apply propext;constructor
 ·rintro⟨p,r,a,b,d,rfl⟩
  have:un p r=p:=by
   funext c;unfold un;rw[b c];cases p c<;>rfl
  rwa [this]
 ·intro a;refine⟨q,fun _=>none,a,fun _=>rfl,fun _ =>.inr rfl,?_⟩;funext c;unfold un;cases q c<;>rfl
theorem stars_one(A:HA):z00 [A]=A:=star_emp A
theorem z4i:∀(l k:List HA),z00 (l++k)=z18 (z00 l) (z00 k)
 | [],k=>by
  show z00 k=z18 emp (z00 k);rw[z8n,star_emp]
 | A::l,k=>by
  show z18 A (z00 (l++k))=z18 (z18 A (z00 l)) (z00 k);rw[z4i l k,z4h]
theorem z3f:∀(n:Nat)(l:List HA){A:HA},l[n]? = some A→z00 l=z18 A (z00 (l.eraseIdx n))
 | _,[],_,h=>by cases h
 | 0,B::l,A,h=>by cases h;rfl
 | n+1,B::l,A,h=>by
  show z18 B (z00 l)=z18 A (z18 B (z00 (l.eraseIdx n)));rw[z3f n l h,zet]
def nth:List HA→Nat→HA
 | [],_=>emp
 | A::_,0=>A
 | _::l,n+1=>nth l n
def del:List HA→Nat→List HA
 | [],_=>[]
 | _::l,0=>l
 | A::l,n+1=>A::del l n
def cat:List HA→List HA→List HA
 | [],k=>k
 | A::l,k=>A::cat l k
def upd:List HA→Nat→HA→List HA
 | [],_,_=>[]
 | _::l,0,B=>B::l
 | A::l,n+1,B=>A::upd l n B
theorem ziv:∀(l k:List HA),cat l k=l++k
 | [],_=>rfl
 | A::l,k=>congrArg (A :: ·) (ziv l k)
theorem zfv:∀(l:List HA)(n:Nat)(B:HA),upd l n B=l.set n B
 | [],_,_=>rfl
 | _::_,0,_=>rfl
 | A::l,n+1,B=>congrArg (A :: ·) (zfv l n B)
theorem zts:∀(l:List HA)(n:Nat),del l n=l.eraseIdx n
 | [],_=>rfl
 | _::_,0=>rfl
 | A::l,n+1=>congrArg (A :: ·) (zts l n)
def sel:List Nat→List HA→List HA
 | [],_=>[]
 | n::r,l=>nth l n::sel r (del l n)
def rem:List Nat→List HA→List HA
 | [],l=>l
 | n::r,l=>rem r (del l n)
theorem zq2:∀(n:Nat)(l:List HA),z00 l=z18 (nth l n) (z00 (del l n))
 | n,[]=>by
  show emp=z18 emp emp;rw[star_emp]
 | 0,A::l=>rfl
 | n+1,A::l=>by
  show z18 A (z00 l)=z18 (nth l n) (z18 A (z00 (del l n)));rw[zq2 n l,zet]
theorem z7i:∀(is:List Nat)(l:List HA),z00 l=z18 (z00 (sel is l)) (z00 (rem is l))
 | [],l=>by
  show z00 l=z18 emp (z00 l);rw[z8n,star_emp]
 | n::r,l=>by
  show z00 l=z18 (z18 (nth l n) (z00 (sel r (del l n)))) (z00 (rem r (del l n)));rw[zq2 n l,z7i r (del l n),z4h]
section
variable{α β:Type}{A B:HA}{l:List HA}{m:M α}{f:α→M β}{Q:α→HA}{S:β→HA}
theorem z77{h:Hp}{p q:PH}(d:ze4 p q):Has h (un p q)↔Has h p∧Has h q:=by
 constructor
 ·intro k;refine⟨fun b x e=>k b x (by unfold un;rw[e]),fun b x e=>k b x ?_⟩;unfold un;rcases d b with c | c
  ·rw[c];exact e
  ·rw[c]at e;cases e
 ·rintro⟨k1,k2⟩ b x e
  unfold un at e;cases hp:p b with
  | some y=>rw[hp]at e;cases e;exact k1 b _ hp
  | none=>rw[hp]at e;exact k2 b x e
theorem Tri.frame(t:Tri A m Q)(R:HA):Tri (z18 A R) m fun a=>z18 (Q a) R:=by
 rintro h q ⟨p,r,ha,hr,d,rfl⟩ hh
 obtain⟨hp,hrr⟩:=(z77 d).1 hh;obtain⟨a,h',p',e,hq,hp',hs,hk,hn⟩:=t h p ha hp;have hlt:∀b,r b≠none→b<h.size∧p b=none:=fun b hb=>by
  obtain⟨x,hx⟩:=Option.ne_none_iff_exists'.1 hb;refine⟨(hrr b x hx).1,?_⟩;rcases d b with c | c
  ·exact c
  ·rw[c]at hx;cases hx
 have d':ze4 p' r:=fun b=>by
  by_cases hb:r b=none
  ·exact .inr hb
  ·obtain⟨h1,h2⟩:=hlt b hb;refine .inl (Classical.byContradiction fun hc=>?_);rcases hn b hc with k | k
   ·exact k h2
   ·omega
 refine⟨a,h',un p' r,e,⟨p',r,hq,hr,d',rfl⟩,(z77 d').2 ⟨hp',fun b x hx=>?_⟩,hs,fun b hb hbn=>hk b hb (z6i.1 hbn).1,fun b hb=>?_⟩
 ·obtain⟨h1,h2⟩:=hlt b (by rw[hx];simp);obtain⟨h3,h4⟩:=hrr b x hx;exact⟨Nat.lt_of_lt_of_le h3 hs,(hk b h3 h2).trans h4⟩
 ·by_cases hb2:p' b=none
  ·refine .inl fun c=>hb (z6i.2 ⟨hb2,(z6i.1 c).2⟩)
  ·rcases hn b hb2 with k | k
   ·exact .inl fun c=>k (z6i.1 c).1
   ·exact .inr k
theorem Tri.bd(t:Tri A m Q)(k:∀a,Tri (Q a) (f a) S):Tri A (bd m f) S:=by
 intro h q ha hh;obtain⟨a,h1,q1,e1,hq1,hh1,hs1,hk1,hn1⟩:=t h q ha hh;obtain⟨b,h2,q2,e2,hq2,hh2,hs2,hk2,hn2⟩:=k a h1 q1 hq1 hh1;refine⟨b,h2,q2,by simp only[Mini.bd,e1];exact e2,hq2,hh2,Nat.le_trans hs1 hs2,fun c hc hn=>?_,fun c hc=>?_⟩
 ·have:q1 c=none:=Classical.byContradiction fun hx=>by
   rcases hn1 c hx with y | y
   ·exact y hn
   ·omega
  rw[hk2 c (Nat.lt_of_lt_of_le hc hs1) this,hk1 c hc hn]
 ·rcases hn2 c hc with y | y
  ·exact hn1 c y
  ·exact .inr (Nat.le_trans hs1 y)
theorem Tri.pre(t:Tri B m Q)(k:∀q,A q→B q):Tri A m Q:=fun h q ha hh=>t h q (k q ha) hh
theorem Tri.post{Q':α→HA}(t:Tri A m Q)(k:∀a q,Q a q→Q' a q):Tri A m Q':=by
 intro h q ha hh;obtain⟨a,h',q',e,hq,r⟩:=t h q ha hh;exact⟨a,h',q',e,k a q' hq,r⟩
theorem z15d(R:HA)(t:Tri A m fun a=>z18 (Q a) R):Tri A m Q:=by
 intro h q ha hh;obtain⟨a,h',q',e,⟨p,r,h1,h2,d,rfl⟩,h3,h4,h5,h6⟩:=t h q ha hh;exact⟨a,h',p,e,h1,((z77 d).1 h3).1,h4,h5,fun b hb=>h6 b fun c=>hb (z6i.1 c).1⟩
theorem ztt(t:Tri A m Q)(R:HA):Tri (z18 A R) m Q:=z15d R (t.frame R)
theorem z1m{a:α}(k:∀q,A q→Q a q):Tri A (ret a) Q:=fun h q ha hh=>⟨a,h,q,rfl,k q ha,hh,Nat.le_refl _,fun _ _ _=>rfl,fun _ hb =>.inl hb⟩
theorem z03(is:List Nat){a:α}(k:∀q,z00 (sel is l) q→Q a q):Tri (z00 l) (ret a) Q:=by
 rw[z7i is l];exact ztt (z1m k) _
theorem z02(is:List Nat)(t:Tri (z00 (sel is l)) m Q)(k:∀a,Tri (z00 (Q a::rem is l)) (f a) S):Tri (z00 l) (bd m f) S:=by
 rw[z7i is l];exact(t.frame _).bd k
theorem z1u(is:List Nat)(t:Tri (z00 (sel is l)) m Q):Tri (z00 l) m Q:=by
 rw[z7i is l];exact ztt t _
theorem z0j{a:α}(k:Tri A (f a) S):Tri A (bd (ret a) f) S:=k
theorem ztu{a:α}(e:∀h,m h=some (a,h))(k:Tri A (f a) S):Tri A (bd m f) S:=by
 intro h q ha hh;obtain⟨b,h',q',e2,r⟩:=k h q ha hh;exact⟨b,h',q',by simp only[bd,e];exact e2,r⟩
theorem z07{c:Prop}[Decidable c]{m n:M β}(h:c)(k:Tri A m S):Tri A (if c then m else n) S:=by rw[if_pos h];exact k
theorem z05{c:Prop}[Decidable c]{m n:M β}(h:¬c)(k:Tri A n S):Tri A (if c then m else n) S:=by rw[if_neg h];exact k
theorem z12{γ:Type}{g:γ→HA}{m:M β}(k:∀x,Tri (z00 (g x::l)) m S):Tri (z00 (exA g::l)) m S:=by
 rintro h q ⟨q1,q2,⟨x,hx⟩,h2,d,rfl⟩ hh
 exact k x h _ ⟨q1,q2,hx,h2,d,rfl⟩ hh
theorem z04{φ:Prop}{m:M β}(k:φ→Tri (z00 (A::l)) m S):Tri (z00 (pu φ A::l)) m S:=by
 rintro h q ⟨q1,q2,⟨hx,h1⟩,h2,d,rfl⟩ hh
 exact k hx h _ ⟨q1,q2,h1,h2,d,rfl⟩ hh
theorem zrf{φ:Prop}{m:M β}(k:φ→Tri A m S):Tri (pu φ A) m S:=fun h q ha hh=>k ha.1 h q ha.2 hh
theorem z01{l1:List HA}{m:M β}(k:Tri (z00 (cat l1 l)) m S):Tri (z00 (z00 l1::l)) m S:=by
 rw[ziv,z4i]at k;exact k
theorem z92{h:Hp}{q:PH}{b:Nat}{x:Blk}(k:pts b x q)(hh:Has h q):b<h.size∧h.get b=x:=hh b x (by rw[k b,if_pos rfl])
theorem z11y{b:Nat}{x:Blk}{a:α}(e:∀h,h.get b=x→m h=some (a,h)):Tri (pts b x) m fun r=>pu (r=a) (pts b x):=
 fun h q ha hh=>⟨a,h,q,e h (z92 ha hh).2,⟨rfl,ha⟩,hh,Nat.le_refl _,fun _ _ _=>rfl,fun _ hb =>.inl hb⟩
theorem tri_read(n:Nat){b:Nat}{x:Blk}{a:α}(hl:l[n]? = some (pts b x))(e:∀h,h.get b=x→m h=some (a,h))(k:Tri (z00 l) (f a) S):Tri (z00 l) (bd m f) S:=by
 rw[z3f n l hl]at k ⊢;refine((z11y e).frame _).bd fun r=>?_;rintro h q ⟨q1,q2,⟨rfl,h1⟩,h2,d,rfl⟩ hh
 exact k h _ ⟨q1,q2,h1,h2,d,rfl⟩ hh
theorem zyp{b:Nat}{x y:Blk}{a:α}(e:∀h,b<h.size→h.get b=x→m h=some (a,h.set b y)):Tri (pts b x) m fun r=>pu (r=a) (pts b y):=by
 intro h q ha hh;obtain⟨h1,h2⟩:=z92 ha hh;refine⟨a,h.set b y,fun c=>if c=b then some y else none,e h h1 h2,⟨rfl,fun _=>rfl⟩,?_,Nat.le_refl _,?_,?_⟩
 ·intro c z hz;dsimp only at hz;split at hz
  ·rename_i hc;cases hz;subst hc;exact⟨h1,Hp.get_set_same _ _ _⟩
  ·cases hz
 ·intro c hc hn;refine Hp.get_set_ne _ _ fun e=>?_;rw[ha c,if_pos e]at hn;cases hn
 ·intro c hc;refine .inl ?_;rw[ha c];exact fun k=>hc (by
   dsimp only;split at k
   ·cases k
   ·rename_i hcb;rw[if_neg hcb])
theorem zbn:∀(n:Nat)(l:List HA){A B:HA},l[n]? = some A→z00 (l.set n B)=z18 B (z00 (l.eraseIdx n))
 | _,[],_,_,h=>by cases h
 | 0,_::_,_,_,_=>rfl
 | n+1,C::l,_,B,h=>by
  show z18 C (z00 (l.set n B))=z18 B (z18 C (z00 (l.eraseIdx n)));rw[zbn n l h,zet]
theorem zyq(n:Nat){b:Nat}{x y:Blk}{a:α}(hl:l[n]? = some (pts b x))(e:∀h,b<h.size→h.get b=x→m h=some (a,h.set b y))(k:Tri (z00 (upd l n (pts b y))) (f a) S):Tri (z00 l) (bd m f) S:=by
 rw[zfv,zbn n l hl]at k;rw[z3f n l hl];refine((zyp e).frame _).bd fun r=>?_;rintro h q ⟨q1,q2,⟨rfl,h1⟩,h2,d,rfl⟩ hh
 exact k h _ ⟨q1,q2,h1,h2,d,rfl⟩ hh
theorem zab(n:Nat){b:Nat}{x y:Blk}{a:α}(hl:l[n]? = some (pts b x))(e:∀h,h.get b=x→m h=some (a,h.set b y))(k:Tri (z00 (upd l n (pts b y))) (f a) S):Tri (z00 l) (bd m f) S:=zyq n hl (fun h _=>e h) k
theorem z15e{x:Blk}{g:Nat→α}(e:∀h,m h=some (g h.size,h.push x)):Tri emp m fun r=>exA fun b=>pu (r=g b) (pts b x):=by
 intro h q ha hh;refine⟨_,h.push x,fun c=>if c=h.size then some x else none,e h,⟨h.size,rfl,fun _=>rfl⟩,?_,by simp,?_,?_⟩
 ·intro c z hz;dsimp only at hz;split at hz
  ·rename_i hc;cases hz;subst hc;exact⟨by simp,Hp.get_push_same _ _⟩
  ·cases hz
 ·intro c hc _;exact Hp.get_push_lt _ _ hc
 ·intro c hc;dsimp only at hc;split at hc
  ·right;omega
  ·exact absurd rfl hc
theorem z5e{x:Blk}{g:Nat→α}(e:∀h,m h=some (g h.size,h.push x))(k:∀b,Tri (z00 (pts b x::l)) (f (g b)) S):Tri (z00 l) (bd m f) S:=by
 have:z00 l=z18 emp (z00 l):=by rw[z8n,star_emp]
 rw[this];refine((z15e e).frame _).bd fun r=>?_;rintro h q ⟨q1,q2,⟨b,rfl,h1⟩,h2,d,rfl⟩ hh
 exact k b h _ ⟨q1,q2,h1,h2,d,rfl⟩ hh
theorem z1ac{b c:Nat}{x y:Blk}{q:PH}(k:z18 (pts b x) (pts c y) q):b≠c:=by
 rintro rfl
 obtain⟨q1,q2,h1,h2,d,_⟩:=k;rcases d b with e | e
 ·rw[h1 b,if_pos rfl]at e;cases e
 ·rw[h2 b,if_pos rfl]at e;cases e
theorem z13{n:Nat}{F:(α→M β)→α→M β}{x:α}:z0e (n+1) F x=F (z0e n F) x:=rfl
def zn6(A:HA):Prop:=∀q1 q2,A q1→A q2→q1=q2
theorem zq3(b:Nat)(x:Blk):zn6 (pts b x):=fun q1 q2 h1 h2=>by funext c;rw[h1 c,h2 c]
theorem z11z:zn6 emp:=fun q1 q2 h1 h2=>by funext c;rw[h1 c,h2 c]
theorem z15f{R:α→HA}(hA:zn6 A)(t:Tri A m fun a=>z18 A (R a)):Tri A (frz m) fun a=>z18 A (R a):=by
 intro h q ha hh;obtain⟨a,h',q',e,hq,h1,h2,h3,h4⟩:=t h q ha hh;refine⟨a,h',q',z10l e ⟨h2,fun b hb=>?_⟩,hq,h1,h2,h3,h4⟩;obtain⟨p,r,hp,hr,d,rfl⟩:=hq;have hpq:=hA p q hp ha;subst hpq;cases hx:p b with
 | none=>exact h3 b hb hx
 | some x=>
  rw[(hh b x hx).2];exact(h1 b x (by unfold un;rw[hx])).2
end
end Go.Mini

/- The laws' own toolkit: fields of structs, rows, maps and slices that are one's own. -/
namespace Go.Mini
section
variable{α β:Type}{A:HA}{l:List HA}{f:Option MA→M β}{S:β→HA}{b o:Nat}{cs:List MV}{ro:Bool}
theorem z0r{p:MA}(k:Tri A (f (some p)) S):Tri A (bd (nonNil (some p)) f) S:=k
theorem z0b{n:Nat}(k:Tri A (f (some ⟨b,o+n⟩)) S):Tri A (bd (fld (some ⟨b,o⟩) n) f) S:=k
theorem z9h(n:Nat)(hl:l[n]? = some (pts b (.cells cs ro))){k:IntKind}{v:Int}(hv:cs[o]? = some (.int k v)){f:Int→M β}(kk:Tri (z00 l) (f v) S):Tri (z00 l) (bd (nonNil (some ⟨b,0⟩)) fun q=>bd (fld q o) fun q=>bd (ldI k q) f) S:=
 z0r (z0b (tri_read n hl (fun _ hg=>zit hg (by rw[Nat.zero_add];exact hv)) kk))
theorem z120(n:Nat)(hl:l[n]? = some (pts b (.cells cs ro))){v:Bool}(hv:cs[o]? = some (.bool v)){f:Bool→M β}(kk:Tri (z00 l) (f v) S):Tri (z00 l) (bd (nonNil (some ⟨b,0⟩)) fun q=>bd (fld q o) fun q=>bd (ldB q) f) S:=
 z0r (z0b (tri_read n hl (fun _ hg=>ztq hg (by rw[Nat.zero_add];exact hv)) kk))
theorem zct(n:Nat)(hl:l[n]? = some (pts b (.cells cs ro))){v:Option MA}(hv:cs[o]? = some (.ptr v)){f:Option MA→M β}(kk:Tri (z00 l) (f v) S):Tri (z00 l) (bd (nonNil (some ⟨b,0⟩)) fun q=>bd (fld q o) fun q=>bd (ldP q) f) S:=
 z0r (z0b (tri_read n hl (fun _ hg=>z11w hg (by rw[Nat.zero_add];exact hv)) kk))
theorem z9i(n:Nat)(hl:l[n]? = some (pts b (.cells cs ro))){e ln:Nat}{p:Option MA}(hv:cs[o]? = some (.sl p ln e)){f:Sl→M β}(kk:Tri (z00 l) (f ⟨p,ln⟩) S):Tri (z00 l) (bd (nonNil (some ⟨b,0⟩)) fun q=>bd (fld q o) fun q=>bd (ldL e q) f) S:=
 z0r (z0b (tri_read n hl (fun _ hg=>ziu hg (by rw[Nat.zero_add];exact hv)) kk))
theorem zcu(n:Nat)(hl:l[n]? = some (pts b (.cells cs false))){v:MV}{f:Unit→M β}(kk:Tri (z00 (upd l n (pts b (.cells (cs.set o v) false)))) (f ()) S)(ho:o<cs.length:=by exact Nat.le_of_ble_eq_true rfl)(hc:z10 v=true:=by rfl):Tri (z00 l) (bd (nonNil (some ⟨b,0⟩)) fun q=>bd (fld q o) fun q=>bd (stc q v) f) S:=
 z0r (z0b (zab n hl (fun _ hg=>by rw[Nat.zero_add];exact z11x hg ho hc) kk))
theorem z0v{f:Option MA→M β}(kk:∀b,Tri (z00 (pts b (.cells cs false)::l)) (f (some ⟨b,0⟩)) S):Tri (z00 l) (bd (alloc cs) f) S:=
 z5e (g:=fun b=>some ⟨b,0⟩) (fun _=>rfl) kk
theorem z5f(n:Nat)(hl:l[n]? = some (pts b (.cells cs ro))){m:Nat}(hm:o+m≤cs.length){f:List MV→M β}(kk:Tri (z00 l) (f ((cs.drop o).take m)) S):Tri (z00 l) (bd (ldn m (some ⟨b,o⟩)) f) S:=
 tri_read n hl (fun _ hg=>ze3 hg hm) kk
theorem z50(n:Nat)(hl:l[n]? = some (pts b (.cells cs false))){m:Nat}{vs:List MV}(hn:vs.length=m)(hm:o+vs.length≤cs.length)(hc:vs.all z10=true){f:Unit→M β}(kk:Tri (z00 (upd l n (pts b (.cells (z11 cs o vs) false)))) (f ()) S):Tri (z00 l) (bd (stn m (some ⟨b,o⟩) vs) f) S:=
 zab n hl (fun _ hg=>z1aa hg hn hm hc) kk
theorem tri_ldI(n:Nat)(hl:l[n]? = some (pts b (.cells cs ro))){k:IntKind}{v:Int}(hv:cs[o]? = some (.int k v)){f:Int→M β}(kk:Tri (z00 l) (f v) S):Tri (z00 l) (bd (ldI k (some ⟨b,o⟩)) f) S:=
 tri_read n hl (fun _ hg=>zit hg hv) kk
theorem z3r(n:Nat)(hl:l[n]? = some (pts b (.cells cs ro))){v:Option MA}(hv:cs[o]? = some (.ptr v)){f:Option MA→M β}(kk:Tri (z00 l) (f v) S):Tri (z00 l) (bd (ldP (some ⟨b,o⟩)) f) S:=
 tri_read n hl (fun _ hg=>z11w hg hv) kk
theorem zx0(n:Nat)(hl:l[n]? = some (pts b (.cells cs ro))){v:Bool}(hv:cs[o]? = some (.bool v)){f:Bool→M β}(kk:Tri (z00 l) (f v) S):Tri (z00 l) (bd (ldB (some ⟨b,o⟩)) f) S:=
 tri_read n hl (fun _ hg=>ztq hg hv) kk
theorem zol(n:Nat)(hl:l[n]? = some (pts b (.cells cs ro))){v:List UInt8}(hv:cs[o]? = some (.str v)){f:List UInt8→M β}(kk:Tri (z00 l) (f v) S):Tri (z00 l) (bd (ldS (some ⟨b,o⟩)) f) S:=
 tri_read n hl (fun _ hg=>z1a9 hg hv) kk
theorem z78(n:Nat)(hl:l[n]? = some (pts b (.cells cs ro))){e ln:Nat}{p:Option MA}(hv:cs[o]? = some (.sl p ln e)){f:Sl→M β}(kk:Tri (z00 l) (f ⟨p,ln⟩) S):Tri (z00 l) (bd (ldL e (some ⟨b,o⟩)) f) S:=
 tri_read n hl (fun _ hg=>ziu hg hv) kk
theorem z21(n:Nat)(hl:l[n]? = some (pts b (.cells cs false))){v:MV}(ho:o<cs.length)(hc:z10 v=true){f:Unit→M β}(kk:Tri (z00 (upd l n (pts b (.cells (cs.set o v) false)))) (f ()) S):Tri (z00 l) (bd (stc (some ⟨b,o⟩) v) f) S:=
 zab n hl (fun _ hg=>z11x hg ho hc) kk
theorem z2l{e ln:Nat}{i:Nat}(hi:i<ln){f:Option MA→M β}(kk:Tri A (f (some ⟨b,o+i * e⟩)) S):Tri A (bd (idx e ⟨some ⟨b,o⟩,ln⟩ (i:Int)) f) S:=
 ztu (fun _=>zok hi) kk
theorem zcv{a:α}{f:α→M β}(kk:Tri A (f a) S):Tri A (z19 (some a) f) S:=kk
theorem z4j{a:α}{f:α→M β}(kk:Tri A (f a) S):Tri A (bd (z0p (some a)) f) S:=kk
end
def z06(s:Sl)(e:Nat)(cs:List MV):HA:=fun q=>(s=⟨none,0⟩∧cs=[]∧emp q)∨∃b,s.p=some ⟨b,0⟩∧cs.length=s.len * e∧pts b (.cells cs false) q
theorem z06.nil(e:Nat){q:PH}(h:emp q):z06 ⟨none,0⟩ e [] q :=.inl ⟨rfl,rfl,h⟩
theorem z06.mk{b ln e:Nat}{cs:List MV}{q:PH}(hl:cs.length=ln * e)(h:pts b (.cells cs false) q):z06 ⟨some ⟨b,0⟩,ln⟩ e cs q :=.inr ⟨b,rfl,hl,h⟩
theorem z06.len{s:Sl}{e:Nat}{cs:List MV}{q:PH}(h:z06 s e cs q):cs.length=s.len * e:=by
 rcases h with⟨rfl,rfl,_⟩ | ⟨_,_,h,_⟩
 ·simp
 ·exact h
theorem z121{s:Sl}{e:Nat}{cs:List MV}:zn6 (z06 s e cs):=by
 rintro q1 q2 (⟨rfl,_,h1⟩ | ⟨b,h1,_,h2⟩) (⟨h3,_,h4⟩ | ⟨b',h3,_,h4⟩)
 ·exact z11z _ _ h1 h4
 ·cases h3
 ·rw[h3]at h1;cases h1
 ·rw[h1]at h3;cases h3;exact zq3 _ _ _ _ h2 h4
theorem z5j(n:Nat){l:List HA}{A B:HA}(hl:l[n]? = some A)(h:∀q,A q→B q):∀q,z00 l q→z00 (upd l n B) q:=by
 intro q hq;rw[z3f n l hl]at hq;rw[zfv,zbn n l hl];obtain⟨q1,q2,h1,h2,d,e⟩:=hq;exact⟨q1,q2,h q1 h1,h2,d,e⟩
inductive Imps:List HA→List HA→Prop
 | nil:Imps [] []
 | cons {A B:HA} {l m:List HA} (h:∀q,A q→B q) (t:Imps l m):Imps (A::l) (B::m)
theorem z4r{l m:List HA}(h:Imps l m):∀q,z00 l q→z00 m q:=by
 induction h with
 | nil=>exact fun q k=>k
 | cons h _ ih=>
  rintro q ⟨q1,q2,h1,h2,d,e⟩
  exact⟨q1,q2,h q1 h1,ih q2 h2,d,e⟩
theorem Imps.refl:∀(l:List HA),Imps l l
 | [] =>.nil
 | _::l =>.cons (fun _ k=>k) (Imps.refl l)
theorem zgz(l1:List HA){l:List HA}{A:HA}(h:∀q,z00 l1 q→A q){q:PH}(k:z00 (cat l1 l) q):z00 (A::l) q:=by
 rw[ziv,z4i]at k;obtain⟨q1,q2,h1,h2,r⟩:=k;exact⟨q1,q2,h q1 h1,h2,r⟩
theorem zom(is:List Nat){l:List HA}{q:PH}(h:z00 l q)(hr:rem is l=[]:=by rfl):z00 (sel is l) q:=by
 rw[z7i is l,hr]at h;rw[show z00 []=emp from rfl,star_emp]at h;exact h
theorem z1g{l m:List HA}{A:HA}(h:∀q,z00 l q→z00 m q){q:PH}(k:z00 (A::l) q):z00 (A::m) q:=by
 obtain⟨q1,q2,h1,h2,r⟩:=k;exact⟨q1,q2,h1,h q2 h2,r⟩
theorem z4k{l:List HA}{A B:HA}(h:∀q,A q→B q){q:PH}(k:z00 (A::l) q):z00 (B::l) q:=by
 obtain⟨q1,q2,h1,h2,r⟩:=k;exact⟨q1,q2,h q1 h1,h2,r⟩
theorem z2h{A:HA}(h:∀q,emp q→A q){l:List HA}{q:PH}(k:z00 l q):z00 (A::l) q:=
 ⟨fun _=>none,q,h _ fun _=>rfl,k,fun _ =>.inl rfl,rfl⟩
section
variable{β:Type}{l:List HA}{m:M β}{S:β→HA}
theorem z93(n:Nat){s:Sl}{e:Nat}{cs:List MV}(hl:l[n]? = some (z06 s e cs))(k0:s=⟨none,0⟩→cs=[]→Tri (z00 (upd l n emp)) m S)
  (k1:∀b ln,s=⟨some ⟨b,0⟩,ln⟩→cs.length=ln * e→Tri (z00 (upd l n (pts b (.cells cs false)))) m S):Tri (z00 l) m S:=by
 rintro h q hq hh
 rw[z3f n l hl]at hq;obtain⟨q1,q2,h1,h2,d,rfl⟩:=hq;rcases h1 with⟨h3,h4,h5⟩ | ⟨b,h3,h4,h5⟩
 ·exact k0 h3 h4 h _ (by rw[zfv,zbn n l hl];exact⟨q1,q2,h5,h2,d,rfl⟩) hh
 ·obtain⟨p,ln⟩:=s;dsimp only at h3 h4;subst h3;exact k1 b ln rfl h4 h _ (by rw[zfv,zbn n l hl];exact⟨q1,q2,h5,h2,d,rfl⟩) hh
theorem z7v(n:Nat){A:HA}{φ:Prop}(hl:l[n]? = some A)(h:∀q,A q→φ)(k:φ→Tri (z00 l) m S):Tri (z00 l) m S:=by
 rintro h' q hq hh
 have hq2:=hq;rw[z3f n l hl]at hq2;obtain⟨q1,q2,h1,h2,d,rfl⟩:=hq2;exact k (h q1 h1) h' _ hq hh
theorem zh0(n:Nat){A:HA}{γ:Type}{φ:γ→Prop}{L:γ→List HA}(hl:l[n]? = some A)(h:∀q,A q→∃x,φ x∧z00 (L x) q)(k:∀x,φ x→Tri (z00 (cat (L x) (del l n))) m S):Tri (z00 l) m S:=by
 rintro h' q hq hh
 rw[z3f n l hl]at hq;obtain⟨q1,q2,h1,h2,d,rfl⟩:=hq;obtain⟨x,hx,h3⟩:=h q1 h1;exact k x hx h' _ (by rw[ziv,zts,z4i];exact⟨q1,q2,h3,h2,d,rfl⟩) hh
theorem z6s(n:Nat){A B:HA}(hl:l[n]? = some A)(h:∀q,A q→B q)(k:Tri (z00 (upd l n B)) m S):Tri (z00 l) m S:=
 k.pre (z5j n hl h)
end
theorem zh1{e:Nat}:∀{L:List (List MV)},(∀r∈L,r.length=e)→L.flatten.length=L.length * e
 | [],_=>by simp
 | r::L,h=>by
  have ih:=zh1 (L:=L) fun x hx=>h x (by simp[hx]);have:=h r (by simp)
  simp only[List.flatten_cons,List.length_append,List.length_cons,Nat.add_mul];omega
theorem zle{e:Nat}:∀{L:List (List MV)},(∀r∈L,r.length=e)→∀(i:Nat)(hi:i<L.length),(L.flatten.drop (i * e)).take e=L[i]
 | [],_,i,hi=>by simp at hi
 | r::L,h,0,_=>by
  have h1:=h r (by simp);simp only[List.flatten_cons,Nat.zero_mul,List.drop_zero,List.getElem_cons_zero];exact List.take_left' h1
 | r::L,h,i+1,hi=>by
  have h1:=h r (by simp);have ih:=zle (L:=L) (fun x hx=>h x (by simp[hx])) i (by simpa using hi);simp only[List.flatten_cons,List.getElem_cons_succ];rw[←ih];congr 1;rw[List.drop_append,List.drop_of_length_le (by rw[h1,Nat.add_mul];omega),List.nil_append];congr 1;rw[h1,Nat.add_mul];omega
theorem ziw{e:Nat}{r':List MV}(hr:r'.length=e):∀{L:List (List MV)},(∀r∈L,r.length=e)→∀(i:Nat),i<L.length→z11 L.flatten (i * e) r'=(L.set i r').flatten
 | [],_,i,hi=>by simp at hi
 | r::L,h,0,_=>by
  have h1:=h r (by simp);unfold z11;simp only[List.flatten_cons,Nat.zero_mul,List.take_zero,List.nil_append,List.set_cons_zero,Nat.zero_add];congr 1;rw[hr,List.drop_left' h1]
 | r::L,h,i+1,hi=>by
  have h1:=h r (by simp);have ih:=ziw hr (L:=L) (fun x hx=>h x (by simp[hx])) i (by simpa using hi);simp only[List.flatten_cons,List.set_cons_succ];rw[←ih];unfold z11;have e1:(i+1) * e=r.length+i * e:=by rw[h1,Nat.add_mul];omega
  rw[e1,Nat.add_assoc,List.take_length_add_append,List.drop_length_add_append];simp
theorem z3s{e i n:Nat}(hi:i<n):i * e+e≤n * e:=by
 have:=Nat.mul_le_mul_right e (show i+1≤n by omega)
 rw[Nat.add_mul]at this;omega
theorem z15g{p:MV→Bool}{L:List (List MV)}(h:∀r∈L,r.all p=true):L.flatten.all p=true:=by
 rw[List.all_eq_true];intro x hx;obtain⟨r,hr,hxr⟩:=List.mem_flatten.1 hx;exact List.all_eq_true.1 (h r hr) x hxr
theorem z188(n:Nat)(z:List MV):z0t n z=(List.replicate n z).flatten:=by
 induction n with
 | zero=>rfl
 | succ n ih=>simp[z0t,ih,List.replicate_succ]
theorem ze5(n:Nat)(v:MV):z0t n [v]=List.replicate n v:=by
 induction n with
 | zero=>rfl
 | succ n ih=>simp[z0t,ih,List.replicate_succ]
theorem bytes_cell(s:List UInt8):(bytesOf s).all z10=true:=by
 simp[bytesOf,z10]
theorem z0d(s:List UInt8):(bytesOf s).length=s.length:=by simp[bytesOf]
theorem zkn:∀(s:List UInt8),z4d (bytesOf s)=some s
 | []=>rfl
 | c::s=>by
  have ih:=zkn s;unfold bytesOf at ih ⊢;simp only[List.map_cons,z4d,ih];simp
section
variable{β:Type}{l:List HA}{S:β→HA}
theorem zyr{s:Sl}{e b:Nat}{cs:List MV}{ro:Bool}(hp:s.p=some ⟨b,0⟩)(hl:s.len * e≤cs.length){h:Hp}{q:PH}(hq:pts b (.cells cs ro) q)(hh:Has h q):cellsOf e s h=some (cs.take (s.len * e),h):=by
 obtain⟨p,ln⟩:=s;dsimp only at hp hl;subst hp;obtain⟨_,g⟩:=z92 hq hh;unfold cellsOf;dsimp only;rw[ze3 g (by omega),List.drop_zero]
theorem zx1{T:HA}{s t:Sl}{e by':Nat}{cs ts:List MV}(ht:∀h q,T q→Has h q→cellsOf e t h=some (ts,h))(lts:ts.length=t.len * e)(he:0<e)(hall:ts.all z10=true)(hbig:(s.len+t.len) * by'≤most):Tri (z00 [z06 s e cs,T]) (app e by' s t) fun r=>z00 [z06 r e (cs++ts),T]:=by
 rintro h q ⟨q1,q2,h1,⟨q3,q4,h2,h3,d2,rfl⟩,d1,rfl⟩ hh
 have hq4:∀b,q4 b=none:=h3;have e4:un q3 q4=q3:=by
  funext b;unfold un;cases q3 b with
  | some _=>rfl
  | none=>exact hq4 b
 rw[e4]at d1 hh ⊢;obtain⟨k1,k2⟩:=(z77 d1).1 hh;have htc:cellsOf e t h=some (ts,h):=ht h q3 h2 k2;have fin:∀(r:Sl)(h':Hp)(p:PH),zdy e by' s ts h=some (r,h')→z06 r e (cs++ts) p→Has h' p→ze4 p q3→h.size≤h'.size→(∀b,b<h.size→q1 b=none→h'.get b=h.get b)→(∀b,p b≠none→q1 b≠none∨h.size≤b) →
   ∃a h' q',app e by' s t h=some (a,h')∧z00 [z06 a e (cs++ts),T] q'∧Has h' q'∧h.size≤h'.size∧(∀b,b<h.size→un q1 q3 b=none→h'.get b=h.get b)∧∀b,q' b≠none→un q1 q3 b≠none∨h.size≤b:=by
  intro r h' p e1 ho hp dp hs hk hn;refine⟨r,h',un p q3,?_,⟨p,q3,ho,by rw[stars_one];exact h2,dp,rfl⟩,(z77 dp).2 ⟨hp,fun b x hx=>?_⟩,hs,fun b hb hbn=>hk b hb (z6i.1 hbn).1,fun b hb=>?_⟩
  ·simp only[app,bd,htc,hall,if_true];exact e1
  ·obtain⟨g1,g2⟩:=k2 b x hx;have:q1 b=none:=by
    rcases d1 b with c | c
    ·exact c
    ·rw[c]at hx;cases hx
   exact⟨Nat.lt_of_lt_of_le g1 hs,(hk b g1 this).trans g2⟩
  ·by_cases c:p b=none
   ·exact .inl fun c2=>hb (z6i.2 ⟨c,(z6i.1 c2).2⟩)
   ·rcases hn b c with y | y
    ·exact .inl fun c2=>y (z6i.1 c2).1
    ·exact .inr y
 by_cases h0:ts=[]
 ·subst h0;refine fin s h q1 (by unfold zdy;rw[if_pos rfl]) (by rw[List.append_nil];exact h1) k1 d1 (Nat.le_refl _) (fun _ _ _=>rfl) fun b hb =>.inl hb
 ·have htl:0<t.len:=by
   rcases Nat.eq_zero_or_pos t.len with z | z
   ·rw[z]at lts;simp at lts;exact absurd lts h0
   ·exact z
  have hdiv:ts.length / e=t.len:=by rw[lts];exact Nat.mul_div_cancel _ he
  have hmod:ts.length%e=0:=by rw[lts];exact Nat.mul_mod_left _ _
  have newp:∀(h':Hp),h'.size=h.size+1→h'.get h.size=.cells (cs++ts) false→(∀b,b<h.size→q1 b=none→h'.get b=h.get b)→(cs++ts).length=(s.len+t.len) * e→zdy e by' s ts h=some (⟨some ⟨h.size,0⟩,s.len+t.len⟩,h') →
    ∃a h' q',app e by' s t h=some (a,h')∧z00 [z06 a e (cs++ts),T] q'∧Has h' q'∧h.size≤h'.size∧(∀b,b<h.size→un q1 q3 b=none→h'.get b=h.get b)∧∀b,q' b≠none→un q1 q3 b≠none∨h.size≤b:=by
   intro h' hs hg hk hl e1;refine fin _ h' (fun b=>if b=h.size then some (.cells (cs++ts) false)else none) e1 (.mk hl fun _=>rfl) ?_ ?_ (by omega) hk ?_
   ·intro b x hx;dsimp only at hx;split at hx
    ·rename_i hb;cases hx;subst hb;exact⟨by omega,hg⟩
    ·cases hx
   ·intro b;by_cases hb:b=h.size
    ·right;cases hx:q3 b with
     | none=>rfl
     | some x=>have:=(k2 b x hx).1;omega
    ·left;exact if_neg hb
   ·intro b hb;split at hb
    ·right;omega
    ·exact absurd rfl hb
  rcases h1 with⟨rfl,rfl,hem⟩ | ⟨b,hp,hl,hb⟩
  ·refine newp (h.push (.cells ts false)) (by simp) (by simp) (fun b hb _=>Hp.get_push_lt _ _ hb) (by simp[lts]) ?_;unfold zdy;rw[if_neg h0,hdiv,if_pos ⟨hmod,hbig⟩];simp
  ·obtain⟨sp,sl⟩:=s;dsimp only at hp hl;subst hp;obtain⟨g1,g2⟩:=z92 hb k1;refine newp ((h.set b .dead).push (.cells (cs++ts) false)) (by simp) (by rw[Hp.get_push];simp) (fun c hc hn=>?_) (by simp[hl,lts,Nat.add_mul]) ?_
   ·rw[Hp.get_push_lt _ _ (by simpa using hc)];exact Hp.get_set_ne _ _ fun e=>by
     rw[hb c,if_pos e]at hn;cases hn
   ·unfold zdy;rw[if_neg h0,hdiv,if_pos ⟨hmod,hbig⟩];dsimp only;rw[g2];dsimp only;rw[if_pos (by simp[hl]),List.drop_zero,List.take_of_length_le (by omega)]
theorem zon{s:Sl}{b k e by':Nat}{cs ts:List MV}{ro:Bool}(he:0<e)(hl:k * e≤ts.length)(hall:(ts.take (k * e)).all z10=true)(hbig:(s.len+k) * by'≤most):Tri (z00 [z06 s e cs,pts b (.cells ts ro)]) (app e by' s ⟨some ⟨b,0⟩,k⟩) fun r=>z00 [z06 r e (cs++ts.take (k * e)),pts b (.cells ts ro)]:=
 zx1 (t:=⟨some ⟨b,0⟩,k⟩) (fun _ _ a b=>zyr rfl hl a b) (by rw[List.length_take];dsimp only;omega) he hall hbig
theorem ztv{f:Nat→M β}(k:∀b,Tri (z00 (pts b .dead::l)) (f b) S):Tri (z00 l) (bd (z4y 1) f) S:=
 z5e (g:=fun b=>b) (fun _=>rfl) k
def z9j(e by':Nat)(s:Sl):M Sl:=if(Option.isNone s.p)=true then(ret (⟨(none:Option MA),0⟩))else(bd (alloc []) fun q=>bd (app e by' (⟨q,0⟩) s) fun l=>ret l)
theorem z122{b k e by':Nat}{cs:List MV}{ro:Bool}(he:0<e)(hl:k * e≤cs.length)(hall:(cs.take (k * e)).all z10=true)(hbig:k * by'≤most):Tri (z00 [pts b (.cells cs ro)]) (z9j e by' ⟨some ⟨b,0⟩,k⟩) fun r=>z00 [z06 r e (cs.take (k * e)),pts b (.cells cs ro)]:=by
 show Tri _ (bd (alloc []) fun q=>bd (app e by' ⟨q,0⟩ _) fun l=>ret l) _;refine z0v fun b'=>?_;refine z6s 0 (B:=z06 ⟨some ⟨b',0⟩,0⟩ e []) rfl (fun q hq =>.mk (by simp) hq) ?_;refine z02 [0,0] (zon he hl hall (by simpa using hbig)) fun r=>?_;exact z01 (z03 [0,0] fun q hq=>hq)
end
end Go.Mini

/- The laws' own toolkit: maps whose keys are numbers, that are one's own. -/
namespace Go.Mini
def kvC(kd:IntKind)(kvs:List (Int×MV)):List (MV×MV):=kvs.map fun e=>(.int kd e.1,e.2)
def z6t:List (Int×MV)→Int→Option MV
 | [],_=>none
 | e::r,k=>if k=e.1 then some e.2 else z6t r k
def z6u:List (Int×MV)→Int→MV→List (Int×MV)
 | [],k,v=>[(k,v)]
 | e::r,k,v=>if k=e.1 then(k,v)::r else e::z6u r k v
def atK:List (Int×MV)→Int→Option (Nat×MV)
 | [],_=>none
 | e::r,k=>if k=e.1 then some (0,e.2)else(atK r k).map fun x=>(x.1+1,x.2)
theorem zoo:∀(kvs:List (Int×MV))(k:Int),(atK kvs k).map (·.2)=z6t kvs k
 | [],_=>rfl
 | e::r,k=>by
  unfold atK z6t;split
  ·rfl
  ·rw[←zoo r k];cases atK r k<;>rfl
theorem zh2(kd:IntKind):∀(kvs:List (Int×MV))(k:Int),z6x (.int kd k) (kvC kd kvs)=some (atK kvs k)
 | [],_=>rfl
 | e::r,k=>by
  have ih:=zh2 kd r k;unfold kvC at ih ⊢;simp only[List.map_cons,z6x,z8y,if_true,atK];by_cases h:k=e.1
  ·simp[h]
  ·simp only[decide_eq_false h,ih,if_neg h];cases atK r k<;>rfl
theorem zx2(kd:IntKind)(v:MV):∀(kvs:List (Int×MV))(k:Int),(match atK kvs k with
  | some (i,_)=>(kvC kd kvs).set i (.int kd k,v)
  | none=>kvC kd kvs++[(.int kd k,v)])=kvC kd (z6u kvs k v)
 | [],_=>rfl
 | e::r,k=>by
  have ih:=zx2 kd v r k;unfold atK z6u;by_cases h:k=e.1
  ·simp[h,kvC]
  ·rw[if_neg h,if_neg h];cases hx:atK r k with
   | none=>
    rw[hx]at ih;dsimp only[Option.map_none]at ih ⊢;unfold kvC at ih ⊢;simp only[List.map_cons,List.cons_append,ih]
   | some x=>
    obtain⟨i,w⟩:=x;rw[hx]at ih;dsimp only[Option.map_some]at ih ⊢;unfold kvC at ih ⊢;simp only[List.map_cons,List.set_cons_succ,ih]
theorem zlf(v:MV):∀(kvs:List (Int×MV))(k k':Int),z6t (z6u kvs k v) k'=if k'=k then some v else z6t kvs k'
 | [],k,k'=>by simp[z6u,z6t]
 | e::r,k,k'=>by
  have ih:=zlf v r k k';unfold z6u;by_cases h:k=e.1
  ·rw[if_pos h];simp only[z6t,←h];split<;>rfl
  ·rw[if_neg h];simp only[z6t,ih];by_cases h2:k'=e.1
   ·rw[if_pos h2,if_pos h2,if_neg (fun c:k'=k=>h (c.symm.trans h2))]
   ·rw[if_neg h2,if_neg h2]
theorem ztw{v:MV}:∀{kvs:List (Int×MV)}{k k':Int},k'∈(z6u kvs k v).map (·.1)↔k'=k∨k'∈kvs.map (·.1)
 | [],k,k'=>by simp[z6u]
 | e::r,k,k'=>by
  have ih:=ztw (v:=v) (kvs:=r) (k:=k) (k':=k');unfold z6u;by_cases h:k=e.1
  ·rw[if_pos h];simp[h]
  ·rw[if_neg h,List.map_cons,List.mem_cons,ih,List.map_cons,List.mem_cons];constructor
   ·rintro(h | h | h)
    ·exact .inr (.inl h)
    ·exact .inl h
    ·exact .inr (.inr h)
   ·rintro(h | h | h)
    ·exact .inr (.inl h)
    ·exact .inl h
    ·exact .inr (.inr h)
theorem zn7(v:MV):∀(kvs:List (Int×MV))(k:Int),(kvs.map (·.1)).Nodup→((z6u kvs k v).map (·.1)).Nodup
 | [],k,_=>by simp[z6u]
 | e::r,k,h=>by
  rw[List.map_cons,List.nodup_cons]at h;have ih:=zn7 v r k h.2;unfold z6u;by_cases hk:k=e.1
  ·rw[if_pos hk,List.map_cons,List.nodup_cons];exact⟨by simpa[hk]using h.1,h.2⟩
  ·rw[if_neg hk,List.map_cons,List.nodup_cons,ztw];exact⟨fun c=>c.elim (fun c=>hk c.symm) h.1,ih⟩
def z65(kd:IntKind)(b:Nat)(kvs:List (Int×MV)):HA:=pu (kvs.map (·.1)).Nodup (pts b (.map (kvC kd kvs)))
section
variable{β:Type}{l:List HA}{S:β→HA}{kd:IntKind}{b:Nat}{kvs:List (Int×MV)}
theorem zfw(n:Nat){m:M β}(hl:l[n]? = some (z65 kd b kvs))(k:(kvs.map (·.1)).Nodup→Tri (z00 (upd l n (pts b (.map (kvC kd kvs))))) m S):Tri (z00 l) m S:=by
 rintro h q hq hh
 rw[z3f n l hl]at hq;obtain⟨q1,q2,⟨hn,h1⟩,h2,d,rfl⟩:=hq;exact k hn h _ (by rw[zfv,zbn n l hl];exact⟨q1,q2,h1,h2,d,rfl⟩) hh
theorem z60:∀(l:List HA)(n:Nat){A:HA}(B:HA),l[n]? = some A→(upd l n B)[n]? = some B
 | [],_,_,_,h=>by cases h
 | _::_,0,_,_,_=>rfl
 | _::l,n+1,_,B,h=>z60 l n B h
theorem z79:∀(l:List HA)(n:Nat)(A B:HA),upd (upd l n A) n B=upd l n B
 | [],_,_,_=>rfl
 | _::_,0,_,_=>rfl
 | C::l,n+1,A,B=>congrArg (C :: ·) (z79 l n A B)
theorem zh3:∀(l:List HA)(n:Nat){A:HA},l[n]? = some A→upd l n A=l
 | [],_,_,h=>by cases h
 | _::_,0,_,h=>by cases h;rfl
 | C::l,n+1,A,h=>congrArg (C :: ·) (zh3 l n h)
theorem ztx(n:Nat)(hl:l[n]? = some (z65 kd b kvs))(k:Int){f:Option MV→M β}(kk:Tri (z00 l) (f (z6t kvs k)) S):Tri (z00 l) (bd (z84 (some b) (.int kd k)) f) S:=by
 refine zfw n hl fun hn=>?_;refine tri_read n (z60 l n _ hl) (a:=z6t kvs k) (fun h hg=>?_) ?_
 ·unfold z84;simp only[bd,z8e,hg,zh2];rw[←zoo];cases atK kvs k<;>rfl
 ·refine kk.pre fun q hq=>?_;have:=z5j n (l:=upd l n (pts b (.map (kvC kd kvs)))) (B:=z65 kd b kvs) (z60 l n _ hl) (fun q h=>⟨hn,h⟩) q hq
  rwa [z79,zh3 l n hl]at this
theorem zx3(n:Nat)(hl:l[n]? = some (z65 kd b kvs))(k:Int)(v:MV){f:Unit→M β}(kk:Tri (z00 (upd l n (z65 kd b (z6u kvs k v)))) (f ()) S):Tri (z00 l) (bd (mapPut (some b) (.int kd k) v) f) S:=by
 refine zfw n hl fun hn=>?_;refine zab n (z60 l n _ hl) (a:=()) (y :=.map (kvC kd (z6u kvs k v))) (fun h hg=>?_) ?_
 ·unfold mapPut;have:=zx2 kd v kvs k
  simp only[hg,zh2];cases hx:atK kvs k with
  | none=>rw[hx]at this;dsimp only at this ⊢;rw[this]
  | some x=>rw[hx]at this;dsimp only at this ⊢;rw[this]
 ·rw[z79];refine kk.pre fun q hq=>?_;have:=z5j n (l:=upd l n (pts b (.map (kvC kd (z6u kvs k v))))) (B:=z65 kd b (z6u kvs k v)) (z60 l n _ hl) (fun q h=>⟨zn7 v kvs k hn,h⟩) q hq
  rwa [z79]at this
theorem z15h(n:Nat)(hl:l[n]? = some (z65 kd b kvs)){f:Int→M β}(kk:Tri (z00 l) (f kvs.length) S):Tri (z00 l) (bd (mapLen (some b)) f) S:=by
 refine zfw n hl fun hn=>?_;refine tri_read n (z60 l n _ hl) (a:=(kvs.length:Int)) (fun h hg=>?_) ?_
 ·unfold mapLen;simp only[bd,z8e,hg,ret];simp[kvC]
 ·refine kk.pre fun q hq=>?_;have:=z5j n (l:=upd l n (pts b (.map (kvC kd kvs)))) (B:=z65 kd b kvs) (z60 l n _ hl) (fun q h=>⟨hn,h⟩) q hq
  rwa [z79,zh3 l n hl]at this
theorem z123(kd:IntKind){f:Option Nat→M β}(kk:∀b,Tri (z00 (z65 kd b []::l)) (f (some b)) S):Tri (z00 l) (bd mkMap f) S:=by
 refine z5e (g:=fun b=>some b) (x :=.map []) (fun _=>rfl) fun b=>?_;exact(kk b).pre fun q hq=>z4k (fun q h=>⟨List.nodup_nil,h⟩) hq
end
end Go.Mini

/- The laws' own toolkit: slices that can be read, wherever they lie. -/
namespace Go.Mini
def RdC(T:HA)(s:Sl)(e:Nat)(cs:List MV):Prop:=cs.length=s.len * e∧∀h q,T q→Has h q→(s.p=none∧s.len=0) ∨
 ∃a r ro,s.p=some a∧h.get a.blk=.cells r ro∧a.off+s.len * e≤r.length∧(r.drop a.off).take (s.len * e)=cs
def z2w(e:Nat)(s:Sl)(lo hi:Nat):Sl:=⟨s.p.map (·.add (lo * e)),hi - lo⟩
section
variable{T A B:HA}{s:Sl}{e:Nat}{cs:List MV}{l:List HA}
theorem RdC.star_l(h:RdC A s e cs):RdC (z18 A B) s e cs:=
 ⟨h.1,fun hp q ⟨q1,q2,h1,_,d,eq⟩ hh=>h.2 hp q1 h1 ((z77 d).1 (eq ▸ hh)).1⟩
theorem RdC.star_r(h:RdC B s e cs):RdC (z18 A B) s e cs:=
 ⟨h.1,fun hp q ⟨q1,q2,_,h2,d,eq⟩ hh=>h.2 hp q2 h2 ((z77 d).1 (eq ▸ hh)).2⟩
theorem RdC.at(n:Nat){T:HA}(hl:l[n]? = some T)(h:RdC T s e cs):RdC (z00 l) s e cs:=by
 rw[z3f n l hl];exact h.star_l
theorem RdC.pre(h:RdC A s e cs)(k:∀q,B q→A q):RdC B s e cs:=⟨h.1,fun hp q hq hh=>h.2 hp q (k q hq) hh⟩
theorem z1ad{b o k:Nat}{r:List MV}{ro:Bool}(hk:cs.length=k * e)(hc:(r.drop o).take (k * e)=cs)(hle:o+k * e≤r.length):RdC (pts b (.cells r ro)) ⟨some ⟨b,o⟩,k⟩ e cs:=
 ⟨hk,fun h q hq hh =>.inr ⟨⟨b,o⟩,r,ro,rfl,(z92 hq hh).2,hle,hc⟩⟩
theorem rd_pts0{b k:Nat}{ro:Bool}(hk:cs.length=k * e):RdC (pts b (.cells cs ro)) ⟨some ⟨b,0⟩,k⟩ e cs:=
 z1ad hk (by rw[List.drop_zero];exact List.take_of_length_le (by omega)) (by omega)
theorem z1ae:RdC T ⟨none,0⟩ e []:=⟨by simp,fun _ _ _ _ =>.inl ⟨rfl,rfl⟩⟩
theorem z0k(hl:cs.length=s.len * e):RdC (z06 s e cs) s e cs:=by
 refine⟨hl,fun h q hq hh=>?_⟩;rcases hq with⟨h1,h2,_⟩ | ⟨b,h1,h2,h3⟩
 ·subst h1;exact .inl ⟨rfl,rfl⟩
 ·exact .inr ⟨_,cs,false,h1,(z92 h3 hh).2,by dsimp only;omega,by rw[List.drop_zero];exact List.take_of_length_le (by omega)⟩
theorem RdC.sub(h:RdC T s e cs){lo hi:Nat}(h1:lo≤hi)(h2:hi≤s.len):RdC T (z2w e s lo hi) e ((cs.drop (lo * e)).take ((hi - lo) * e)):=by
 have m1:=Nat.mul_le_mul_right e h1;have m2:=Nat.mul_le_mul_right e h2;have m3:(hi - lo) * e=hi * e - lo * e:=Nat.sub_mul hi lo e;refine⟨?_,fun hp q hq hh=>?_⟩
 ·rw[List.length_take,List.length_drop,h.1];show _=(hi - lo) * e;omega
 ·rcases h.2 hp q hq hh with⟨h3,h4⟩ | ⟨a,r,ro,h3,h4,h5,h6⟩
  ·left;unfold z2w;rw[h3];exact⟨rfl,by dsimp only;omega⟩
  ·right;refine⟨a.add (lo * e),r,ro,by unfold z2w;rw[h3];rfl,h4,?_,?_⟩
   ·show a.off+lo * e+(hi - lo) * e≤r.length;omega
   ·rw[←h6];show(r.drop (a.off+lo * e)).take ((hi - lo) * e)=_;rw[List.drop_take,List.take_take,List.drop_drop];congr 1;omega
theorem RdC.cells(h:RdC T s e cs){hp:Hp}{q:PH}(hq:T q)(hh:Has hp q):cellsOf e s hp=some (cs,hp):=by
 rcases h.2 hp q hq hh with⟨h3,h4⟩ | ⟨a,r,ro,h3,h4,h5,h6⟩
 ·have:=h.1
  rw[h4,Nat.zero_mul]at this;unfold cellsOf;rw[h3];dsimp only;rw[if_pos h4,List.length_eq_zero_iff.1 this];rfl
 ·unfold cellsOf;rw[h3];show ldn (s.len * e) (some a) hp=_;unfold ldn;dsimp only;rw[h4];dsimp only;rw[if_pos h5,h6]
theorem RdC.elem(h:RdC T s e cs){hp:Hp}{q:PH}(hq:T q)(hh:Has hp q){i:Nat}(hi:i<s.len):∃a r ro,idx e s (i:Int) hp=some (some a,hp)∧hp.get a.blk=.cells r ro∧a.off+e≤r.length∧(r.drop a.off).take e=(cs.drop (i * e)).take e:=by
 rcases h.2 hp q hq hh with⟨h3,h4⟩ | ⟨a,r,ro,h3,h4,h5,h6⟩
 ·omega
 ·have m:i * e+e≤s.len * e:=z3s hi;refine⟨a.add (i * e),r,ro,?_,h4,?_,?_⟩
  ·unfold idx;rw[h3];dsimp only;rw[if_pos (by omega)];rfl
  ·show a.off+i * e+e≤r.length;omega
  ·rw[←h6];show(r.drop (a.off+i * e)).take e=_;rw[List.drop_take,List.take_take,List.drop_drop];congr 1;omega
theorem ze6{r cs:List MV}{o e i j:Nat}(h:(r.drop o).take e=(cs.drop (i * e)).take e)(hj:j<e):r[o+j]? = cs[i * e+j]? :=by
 have:=congrArg (·[j]?) h
 simpa[List.getElem?_take,hj,List.getElem?_drop]using this
end
section
variable{β:Type}{l:List HA}{S:β→HA}{T:HA}{s:Sl}{e:Nat}{cs:List MV}
theorem z6j{α:Type}(n:Nat)(hl:l[n]? = some T){m:M α}{a:α}(hm:∀h q,T q→Has h q→m h=some (a,h)){f:α→M β}(kk:Tri (z00 l) (f a) S):Tri (z00 l) (bd m f) S:=by
 rintro h q hq hh
 have hq2:=hq;rw[z3f n l hl]at hq2;obtain⟨q1,q2,h1,h2,d,rfl⟩:=hq2;have h3:=(z77 d).1 hh;obtain⟨b,h',q',k1,k2⟩:=kk h _ hq hh;exact⟨b,h',q',by simp only[bd,hm h q1 h1 h3.1];exact k1,k2⟩
theorem bd_bd{α γ δ:Type}(m:M α)(f:α→M γ)(g:γ→M δ):bd (bd m f) g=bd m fun a=>bd (f a) g:=by
 funext h;simp only[bd];cases m h<;>rfl
theorem z2a(n:Nat)(hl:l[n]? = some T)(hr:RdC T s 1 cs){k:IntKind}{i:Nat}{v:Int}(hv:cs[i]? = some (.int k v)){f:Int→M β}(kk:Tri (z00 l) (f v) S):Tri (z00 l) (bd (idx 1 s (i:Int)) fun q=>bd (ldI k q) f) S:=by
 have hi:i<s.len:=by have:=(List.getElem?_eq_some_iff.1 hv).1;rw[hr.1]at this;omega
 rw[←bd_bd];refine z6j n hl (fun h q hq hh=>?_) kk;obtain⟨a,r,ro,h1,h2,h3,h4⟩:=hr.elem hq hh hi;have h5:=ze6 h4 (j:=0) (by omega);simp only[bd,h1];exact zit h2 (by simpa using h5.trans (by simpa using hv))
theorem tri_rB(n:Nat)(hl:l[n]? = some T)(hr:RdC T s 1 cs){i:Nat}{v:Bool}(hv:cs[i]? = some (.bool v)){f:Bool→M β}(kk:Tri (z00 l) (f v) S):Tri (z00 l) (bd (idx 1 s (i:Int)) fun q=>bd (ldB q) f) S:=by
 have hi:i<s.len:=by have:=(List.getElem?_eq_some_iff.1 hv).1;rw[hr.1]at this;omega
 rw[←bd_bd];refine z6j n hl (fun h q hq hh=>?_) kk;obtain⟨a,r,ro,h1,h2,h3,h4⟩:=hr.elem hq hh hi;have h5:=ze6 h4 (j:=0) (by omega);simp only[bd,h1];exact ztq h2 (by simpa using h5.trans (by simpa using hv))
theorem zn8(n:Nat)(hl:l[n]? = some T)(hr:RdC T s 1 cs){i e ln:Nat}{p:Option MA}(hv:cs[i]? = some (.sl p ln e)){f:Sl→M β}(kk:Tri (z00 l) (f ⟨p,ln⟩) S):Tri (z00 l) (bd (idx 1 s (i:Int)) fun q=>bd (ldL e q) f) S:=by
 have hi:i<s.len:=by have:=(List.getElem?_eq_some_iff.1 hv).1;rw[hr.1]at this;omega
 rw[←bd_bd];refine z6j n hl (fun h q hq hh=>?_) kk;obtain⟨a,r,ro,h1,h2,h3,h4⟩:=hr.elem hq hh hi;have h5:=ze6 h4 (j:=0) (by omega);simp only[bd,h1];exact ziu h2 (by simpa using h5.trans (by simpa using hv))
theorem z1af(n:Nat)(hl:l[n]? = some T)(hr:RdC T s e cs){i:Nat}(hi:i<s.len){f:List MV→M β}(kk:Tri (z00 l) (f ((cs.drop (i * e)).take e)) S):Tri (z00 l) (bd (idx e s (i:Int)) fun q=>bd (ldn e q) f) S:=by
 rw[←bd_bd];refine z6j n hl (fun h q hq hh=>?_) kk;obtain⟨a,r,ro,h1,h2,h3,h4⟩:=hr.elem hq hh hi;simp only[bd,h1];rw[←h4];exact ze3 h2 h3
theorem zop(n:Nat)(hl:l[n]? = some T){ts:List CTy}(hr:RdC T s ts.length cs){i:Nat}(hi:i<s.len){x:HC ts}(hx:HC.dec ts ((cs.drop (i * ts.length)).take ts.length)=some x){f:HC ts→M β}(kk:Tri (z00 l) (f x) S):Tri (z00 l) (bd (idx ts.length s (i:Int)) fun q=>bd (z4f ts q) f) S:=by
 rw[←bd_bd];refine z6j n hl (fun h q hq hh=>?_) kk;obtain⟨a,r,ro,h1,h2,h3,h4⟩:=hr.elem hq hh hi;simp only[bd,h1,z4f];have:ldn ts.length (some a) h=some ((r.drop a.off).take ts.length,h):=ze3 h2 h3
 rw[this,h4];simp only[hx];rfl
theorem z7a(n:Nat)(hl:l[n]? = some T)(hr:RdC T s e cs){k:IntKind}{i o:Nat}(hi:i<s.len)(ho:o<e){v:Int}(hv:cs[i * e+o]? = some (.int k v)){f:Int→M β}(kk:Tri (z00 l) (f v) S):Tri (z00 l) (bd (idx e s (i:Int)) fun q=>bd (fld q o) fun q=>bd (ldI k q) f) S:=by
 have e1:(bd (idx e s (i:Int)) fun q=>bd (fld q o) fun q=>bd (ldI k q) f)=bd (bd (idx e s (i:Int)) fun q=>bd (fld q o) fun q=>ldI k q) f:=by
  rw[bd_bd];congr 1;funext q;rw[bd_bd]
 rw[e1];refine z6j n hl (fun h q hq hh=>?_) kk;obtain⟨a,r,ro,h1,h2,h3,h4⟩:=hr.elem hq hh hi;have h5:=ze6 h4 ho;simp only[bd,h1,fld,ret];exact zit h2 (h5.trans hv)
theorem z189{lo hi:Nat}(h1:lo≤hi)(h2:hi≤s.len):slc e s (lo:Int) (hi:Int)=ret (z2w e s lo hi):=by
 unfold slc;rw[if_pos (by omega)];unfold z2w;congr 2;omega
theorem z3t{A:HA}{lo hi:Int}(h0:0≤lo)(h1:lo≤hi)(h2:hi≤s.len){f:Sl→M β}(kk:Tri A (f (z2w e s lo.toNat hi.toNat)) S):Tri A (bd (slc e s lo hi) f) S:=by
 obtain⟨a,rfl⟩:∃a:Nat,lo=a:=⟨lo.toNat,by omega⟩;obtain⟨b,rfl⟩:∃b:Nat,hi=b:=⟨hi.toNat,by omega⟩;rw[z189 (by omega) (by omega)];exact kk
theorem z4l(n:Nat)(hl:l[n]? = some T){bs:List UInt8}(hr:RdC T s 1 (bytesOf bs)){f:List UInt8→M β}(kk:Tri (z00 l) (f bs) S):Tri (z00 l) (bd (toStr s) f) S:=by
 refine z6j n hl (fun h q hq hh=>?_) kk;unfold toStr;simp only[bd,hr.cells hq hh,zkn];rfl
theorem z3a{s t:Sl}{e by':Nat}{cs ts:List MV}(hr:RdC T t e ts)(he:0<e)(hall:ts.all z10=true)(hbig:(s.len+t.len) * by'≤most):Tri (z00 [z06 s e cs,T]) (app e by' s t) fun r=>z00 [z06 r e (cs++ts),T]:=
 zx1 (fun _ _ a b=>hr.cells a b) hr.1 he hall hbig
theorem z8o{s:Sl}{e by':Nat}{cs:List MV}(hr:RdC T s e cs)(he:0<e)(hall:cs.all z10=true)(hbig:s.len * by'≤most):Tri (z00 [T]) (z9j e by' s) fun r=>z00 [z06 r e cs,T]:=by
 unfold z9j;by_cases hp:s.p=none
 ·rw[hp];refine z07 rfl ?_;intro h q hq hh;have hq':=hq;rw[stars_one]at hq';have hc:cs=[]:=by
   rcases hr.2 h q hq' hh with⟨_,h4⟩ | ⟨a,r,ro,h3,_⟩
   ·have:=hr.1
    rw[h4,Nat.zero_mul]at this;exact List.length_eq_zero_iff.1 this
   ·rw[hp]at h3;cases h3
  subst hc;refine⟨_,h,q,rfl,?_,hh,Nat.le_refl _,fun _ _ _=>rfl,fun _ hb =>.inl hb⟩;exact z2h (fun _ h =>.nil e h) hq
 ·obtain⟨a,ha⟩:=Option.ne_none_iff_exists'.1 hp;rw[ha];refine z05 (by simp) ?_;refine z0v fun b'=>?_;refine z6s 0 (B:=z06 ⟨some ⟨b',0⟩,0⟩ e []) rfl (fun q hq =>.mk (by simp) hq) ?_;refine z02 [0,0] (z3a hr he hall (by simpa using hbig)) fun r=>?_;exact z01 (z03 [0,0] fun q hq=>hq)
theorem z0c(n:Nat){s:Sl}{e:Nat}{cs:List MV}{m:M β}(hl:l[n]? = some (z06 s e cs))(k:cs.length=s.len * e→Tri (z00 l) m S):Tri (z00 l) m S:=z7v n hl (fun _ h=>h.len) k
theorem z15i{cs:List MV}{o:Nat}{vs:List MV}(h:o+vs.length≤cs.length):(z11 cs o vs).length=cs.length:=by
 unfold z11;simp;omega
theorem zdn{b o k:Nat}{ds ts:List MV}{t:Sl}(hr:RdC T t e ts)(hd:o+k * e≤ds.length)(hall:ts.all z10=true)(he:0<e) :
  Tri (z00 [pts b (.cells ds false),T]) (copy e ⟨some ⟨b,o⟩,k⟩ t) fun n=>pu (n=(min t.len k:Nat)) (z00 [pts b (.cells (z11 ds o (ts.take (min t.len k * e))) false),T]):=by
 unfold copy;by_cases h0:min t.len k * e=0
 ·rw[if_pos h0];refine z03 [0,0] fun q hq=>⟨rfl,?_⟩;rw[h0,List.take_zero];have:z11 ds o []=ds:=by simp[z11]
  rw[this];exact hq
 ·rw[if_neg h0];have hml:min t.len k≤t.len:=Nat.min_le_left _ _;have hmr:min t.len k * e≤k * e:=Nat.mul_le_mul_right e (Nat.min_le_right _ _);have hms:min t.len k * e≤t.len * e:=Nat.mul_le_mul_right e hml;have hpos:0<min t.len k:=by
   rcases Nat.eq_zero_or_pos (min t.len k)with z | z
   ·rw[z]at h0;simp at h0
   ·exact z
  have hs:=hr.sub (lo:=0) (hi:=min t.len k) (Nat.zero_le _) hml;have e1:z2w e t 0 (min t.len k)=⟨t.p,min t.len k⟩:=by
   unfold z2w;cases hp:t.p with
   | none=>rfl
   | some a=>simp[MA.add]
  rw[e1]at hs;simp only[Nat.zero_mul,List.drop_zero,Nat.sub_zero]at hs;refine z6j 1 rfl (fun h q hq hh=>hs.cells hq hh) ?_;have hl:(ts.take (min t.len k * e)).length=min t.len k * e:=by
   rw[List.length_take,hr.1];omega
  refine z50 0 rfl rfl (by omega) ?_ ?_
  ·rw[List.all_eq_true];exact fun x hx=>List.all_eq_true.1 hall x (List.mem_of_mem_take hx)
  ·exact z03 [0,0] fun q hq=>⟨rfl,hq⟩
end
def z0x{α:Type}(c:α→List MV)(l:List α):List MV:=(l.map c).flatten
section
variable{α:Type}{c:α→List MV}{e:Nat}
theorem zix(h:∀x,(c x).length=e)(l:List α):∀r∈l.map c,r.length=e:=by
 intro r hr;obtain⟨x,_,rfl⟩:=List.mem_map.1 hr;exact h x
theorem z0u(h:∀x,(c x).length=e)(l:List α):(z0x c l).length=l.length * e:=by
 rw[z0x,zh1 (zix h l),List.length_map]
theorem zdo(h:∀x,(c x).length=e){l:List α}{i:Nat}(hi:i<l.length):((z0x c l).drop (i * e)).take e=c l[i]:=by
 rw[z0x,zle (zix h l) i (by simpa using hi)];simp
theorem z3l(h:∀x,(c x).length=e){l:List α}{i o:Nat}(hi:i<l.length)(ho:o<e):(z0x c l)[i * e+o]? = (c l[i])[o]? :=by
 rw[←zdo h hi,List.getElem?_take,if_pos ho,List.getElem?_drop]
theorem zlg(h:∀x,(c x).length=e){l:List α}{i:Nat}(hi:i<l.length)(x:α):z11 (z0x c l) (i * e) (c x)=z0x c (l.set i x):=by
 rw[z0x,ziw (h x) (zix h l) i (by simpa using hi),z0x,List.map_set]
theorem z8p(a b:List α):z0x c (a++b)=z0x c a++z0x c b:=by simp[z0x]
theorem zbo(a:α):z0x c [a]=c a:=by simp[z0x]
theorem ziy{l:List α}{i:Nat}(hi:i<l.length):z0x c (l.take i)++c l[i]=z0x c (l.take (i+1)):=by
 rw[List.take_succ_eq_append_getElem hi,z8p,zbo]
theorem zeu(h:∀x,(c x).all z10=true)(l:List α):(z0x c l).all z10=true:=z15g fun r hr=>by
 obtain⟨x,_,rfl⟩:=List.mem_map.1 hr;exact h x
end
def fi{α:Type}(p:α→Bool)(l:List α):Int:=match l.findIdx? p with
 | some i=>i
 | none => -1
theorem zfx{α:Type}{p:α→Bool}{l:List α}(h:l.findIdx? p=none):fi p l = -1:=by simp[fi,h]
theorem zfy{α:Type}{p:α→Bool}{l:List α}{i:Nat}(h:l.findIdx? p=some i):fi p l=i:=by simp[fi,h]
theorem ze7{α:Type}{A:HA}{N:Nat}(p:α→Bool)(l:List α){F:(Int→M (Unit⊕Int))→Int→M (Unit⊕Int)}(hN:l.length<N)
  (hs:∀(rec:Int→M (Unit⊕Int))(i:Nat)(hi:i<l.length)(Q:Unit⊕Int→HA),Tri A (if p l[i]=true then ret (Sum.inr (i:Int))else rec ((i+1:Nat):Int)) Q→Tri A (F rec (i:Int)) Q)
  (he:∀(rec:Int→M (Unit⊕Int))(Q:Unit⊕Int→HA),Tri A (ret (Sum.inl ())) Q→Tri A (F rec (l.length:Int)) Q) :
  Tri A (bd (z0e N F (0:Int)) fun j=>(match j with | Sum.inl _=>ret (-1:Int) | Sum.inr i=>ret i)) fun r=>pu (r=fi p l) A:=by
 have loop:∀(K j:Nat),l.length - j<K→j≤l.length→(∀i(hi:i<l.length),i<j→p l[i]=false)→Tri A (z0e K F (j:Int)) fun r=>pu (r=match l.findIdx? p with | some i =>.inr (i:Int) | none =>.inl ()) A:=by
  intro K;induction K with
  | zero=>intro j h;omega
  | succ K ih=>
   intro j h hj hb;rw[z13];by_cases hjl:j<l.length
   ·refine hs _ j hjl _ ?_;by_cases hp:p l[j]=true
    ·rw[if_pos hp];refine z1m fun q hq=>⟨?_,hq⟩;have:l.findIdx? p=some j:=by
      rw[List.findIdx?_eq_some_iff_getElem];exact⟨hjl,hp,fun i hi=>by simpa using hb i (by omega) hi⟩
     rw[this]
    ·rw[if_neg hp];refine ih (j+1) (by omega) (by omega) fun i hi hij=>?_;by_cases e:i=j
     ·subst e;simpa using hp
     ·exact hb i hi (by omega)
   ·obtain rfl:j=l.length:=by omega
    refine he _ _ (z1m fun q hq=>⟨?_,hq⟩);have:l.findIdx? p=none:=by
     rw[List.findIdx?_eq_none_iff];intro x hx;obtain⟨i,hi,rfl⟩:=List.mem_iff_getElem.1 hx;exact hb i hi hi
    rw[this]
 refine(loop N 0 (by omega) (by omega) fun i hi h=>by omega).bd fun r=>zrf fun hr=>?_;subst hr;cases hx:l.findIdx? p with
 | none=>exact z1m fun q hq=>⟨(zfx hx).symm,hq⟩
 | some i=>exact z1m fun q hq=>⟨(zfy hx).symm,hq⟩
end Go.Mini
