/- The laws' own toolkit: what a piece of the small machine's work comes to. -/
import Derived.Test.YtcaaljlhljemoaaGreatMA
import Derived.Test.YtcaaljlhljemoaaGreatMB
namespace Go.Mini
def Wp {α:Type} (m:M α) (h:Hp) (Q:α→Hp→Prop):Prop:=∃a h',m h=some (a,h')∧Q a h'
section
variable {α β γ:Type} {h:Hp} {Q:β→Hp→Prop}
theorem Wp.mono {m:M α} {Q Q':α→Hp→Prop} (k:Wp m h Q) (hq:∀a h',Q a h'→Q' a h'):Wp m h Q':=by
 obtain ⟨a,h',e,q⟩:=k
 exact ⟨a,h',e,hq a h' q⟩
end
@[simp] theorem Hp.get_set_same (h:Hp) (b:Nat) (x:Blk):(h.set b x).get b=x:=by rw [Hp.get_set,if_pos rfl]
theorem Hp.get_set_ne (h:Hp) {b c:Nat} (x:Blk) (e:c≠b):(h.set b x).get c=h.get c:=by rw [Hp.get_set,if_neg e]
@[simp] theorem Hp.get_push_same (h:Hp) (x:Blk):(h.push x).get h.size=x:=by rw [Hp.get_push,if_pos rfl]
theorem Hp.get_push_ne (h:Hp) {c:Nat} (x:Blk) (e:c≠h.size):(h.push x).get c=h.get c:=by rw [Hp.get_push,if_neg e]
theorem Hp.get_push_lt (h:Hp) {c:Nat} (x:Blk) (e:c<h.size):(h.push x).get c=h.get c:=h.get_push_ne x (by omega)
section
variable {h:Hp} {b o:Nat} {cs:List MV} {ro:Bool}
theorem zac (hg:h.get b=.cells cs ro) {v:MV} (hv:cs[o]? = some v):ldc (some ⟨b,o⟩) h=some (v,h):=by
 simp only [ldc,hg,hv]
theorem zad (hg:h.get b=.cells cs ro) {k:IntKind} {n:Int} (hv:cs[o]? = some (.int k n)):ldI k (some ⟨b,o⟩) h=some (n,h):=by
 simp only [ldI,bd,zac hg hv,CTy.dec,if_true,someOr]
theorem zou (hg:h.get b=.cells cs ro) {n:Bool} (hv:cs[o]? = some (.bool n)):ldB (some ⟨b,o⟩) h=some (n,h):=by
 simp only [ldB,bd,zac hg hv,CTy.dec,someOr]
theorem zov (hg:h.get b=.cells cs ro) {n:Option MA} (hv:cs[o]? = some (.ptr n)):ldP (some ⟨b,o⟩) h=some (n,h):=by
 simp only [ldP,bd,zac hg hv,CTy.dec,someOr]
theorem zdr (hg:h.get b=.cells cs ro) {n:Option Nat} (hv:cs[o]? = some (.map n)):ldM (some ⟨b,o⟩) h=some (n,h):=by
 simp only [ldM,bd,zac hg hv,CTy.dec,someOr]
theorem zae (hg:h.get b=.cells cs ro) {e l:Nat} {p:Option MA} (hv:cs[o]? = some (.sl p l e)):ldL e (some ⟨b,o⟩) h=some (⟨p,l⟩,h):=by
 simp only [ldL,bd,zac hg hv,CTy.dec,if_true,someOr]
theorem z79 (hg:h.get b=.cells cs ro) {n:Nat} (hl:o+n≤cs.length):ldn n (some ⟨b,o⟩) h=some ((cs.drop o).take n,h):=by
 simp only [ldn,hg,hl,if_true]
theorem zow (hg:h.get b=.cells cs false) {v:MV} (hl:o<cs.length) (hc:isCell v=true):stc (some ⟨b,o⟩) v h=some ((),h.set b (.cells (cs.set o v) false)):=by
 simp only [stc,hg,hl,hc,and_self,if_true]
theorem zv7 (hg:h.get b=.cells cs false) {n:Nat} {vs:List MV} (hn:vs.length=n) (hl:o+vs.length≤cs.length) (hc:vs.all isCell=true):stn n (some ⟨b,o⟩) vs h=some ((),h.set b (.cells (over cs o vs) false)):=by
 subst hn
 simp only [stn,hg,hl,hc,and_self,if_true]
theorem zv8 {e l:Nat} {p:MA} {i:Int} (h0:0≤i) (h1:i<l):idx e ⟨some p,l⟩ i h=some (some ⟨p.blk,p.off+i.toNat * e⟩,h):=by
 simp only [idx,h0,h1,and_self,if_true,ret,MA.add]
theorem zer {e l:Nat} {p:MA} {i:Nat} (h1:i<l):idx e ⟨some p,l⟩ (i:Int) h=some (some ⟨p.blk,p.off+i * e⟩,h):=by
 rw [zv8 (by omega) (by omega)];simp
theorem ztp (hg:h.get b=.cells cs ro) {n e:Nat} {a c:Int} (h0:0≤a) (h1:a≤c) (h2:c≤n) (h3:o+n * e≤cs.length) (h4:n≤most:=by decide):slcA n e (some ⟨b,o⟩) a c h=some (⟨some ⟨b,o+a.toNat * e⟩,(c - a).toNat⟩,h):=by
 simp only [slcA,hg,h0,h1,h2,h3,h4,and_self,if_true,MA.add]
end
structure Mod (h:Hp) (fp:Nat→Prop) (h':Hp) (fp':Nat→Prop):Prop where
 size:h.size≤h'.size
 same:∀b,b<h.size→¬fp b→h'.get b=h.get b
 own:∀b,fp' b→fp b∨h.size≤b
theorem Mod.refl (h:Hp) (fp:Nat→Prop):Mod h fp h fp:=⟨Nat.le_refl _,fun _ _ _=>rfl,fun _ hb =>.inl hb⟩
theorem Mod.trans {h h1 h2:Hp} {f f1 f2:Nat→Prop} (a:Mod h f h1 f1) (b:Mod h1 f1 h2 f2):Mod h f h2 f2 where
 size:=Nat.le_trans a.size b.size
 same:=fun c hc hn=>by
  rw [b.same c (Nat.lt_of_lt_of_le hc a.size) (fun k=>by rcases a.own c k with k | k;exact hn k;omega),a.same c hc hn]
 own:=fun c hc=>by
  rcases b.own c hc with k | k
  ·exact a.own c k
  ·exact .inr (Nat.le_trans a.size k)
theorem Mod.apart {h h':Hp} {f f' g:Nat→Prop} (a:Mod h f h' f') (lt:∀b,g b→b<h.size) (dis:∀b,g b→¬f b):(∀b,g b→h'.get b=h.get b)∧∀b,g b→¬f' b:=
 ⟨fun b hb=>a.same b (lt b hb) (dis b hb),fun b hb hf=>by
  rcases a.own b hf with k | k
  ·exact dis b hb k
  ·have:=lt b hb;omega⟩
theorem wr64 {n:Int} (h0 : -9223372036854775808≤n) (h1:n≤9223372036854775807):wr .i64 n=n:=by
 unfold wr IntKind.wrap IntKind.bits IntKind.signed
 simp only [Bool.true_and]
 have e64:(2:Int)^64=18446744073709551616:=by decide
 have e63:(2:Int)^(64 - 1)=9223372036854775808:=by decide
 rw [e64,e63]
 by_cases hn:0≤n
 ·have h2:n%18446744073709551616=n:=Int.emod_eq_of_lt hn (by omega)
  rw [h2,if_neg]
  simp
  omega
 ·have h2:n%18446744073709551616=n+18446744073709551616:=by omega
  rw [h2,if_pos]
  ·omega
  ·simp
   omega
end Go.Mini

/- The laws' own toolkit: maps whose keys are numbers; slices that came in. -/
namespace Go.Mini
def idxI (kd:IntKind):List (MV×MV)→Int→Option (Nat×MV)
 | [],_=>none
 | (.int kd' n,v)::r,k=>if kd'=kd∧k=n then some (0,v) else (idxI kd r k).map fun x=>(x.1+1,x.2)
 | _::r,k=>(idxI kd r k).map fun x=>(x.1+1,x.2)
def IKeys (kd:IntKind) (es:List (MV×MV)):Prop:=∀e∈es,∃n,e.1=.int kd n
def IMap (h:Hp) (kd:IntKind) (b:Nat) (f:Int→Option MV):Prop:=∃es,h.get b=.map es∧IKeys kd es∧∀k,(idxI kd es k).map (·.2)=f k
theorem IMap.frame {h h':Hp} {kd:IntKind} {b:Nat} {f:Int→Option MV} (m:IMap h kd b f) (e:h'.get b=h.get b):IMap h' kd b f:=by
 obtain ⟨es,h1,h2⟩:=m
 exact ⟨es,e.trans h1,h2⟩
def SlIn (h:Hp) (s:Sl) (e:Nat) (cs:List MV):Prop:=cs.length=s.len * e∧(cs≠[]→∃b ro,s.p=some ⟨b,0⟩∧h.get b=.cells cs ro∧b<h.size)
def SlB (s:Sl) (cs:List MV) (b:Nat):Prop:=cs≠[]∧s.p=some ⟨b,0⟩
theorem SlIn.frame {h h':Hp} {s:Sl} {e:Nat} {cs:List MV} (k:SlIn h s e cs) (hs:h.size≤h'.size) (same:∀b,SlB s cs b→h'.get b=h.get b):SlIn h' s e cs:=
 ⟨k.1,fun hc=>by
  obtain ⟨b,ro,h1,h2,h3⟩:=k.2 hc
  exact ⟨b,ro,h1,by rw [same b ⟨hc,h1⟩];exact h2,Nat.lt_of_lt_of_le h3 hs⟩⟩
theorem SlIn.lt {h:Hp} {s:Sl} {e:Nat} {cs:List MV} (k:SlIn h s e cs) {b:Nat} (hb:SlB s cs b):b<h.size:=by
 obtain ⟨b',ro,h1,_,h3⟩:=k.2 hb.1
 rw [hb.2] at h1
 cases h1
 exact h3
theorem SlIn.one {h:Hp} {s:Sl} {cs:List MV} (k:SlIn h s 1 cs) {i:Nat} (hi:i<s.len):∃b ro,idx 1 s (i:Int) h=some (some ⟨b,i⟩,h)∧h.get b=.cells cs ro∧i<cs.length:=by
 have hl:=k.1
 obtain ⟨b,ro,h1,h2,_⟩:=k.2 (by intro c;rw [c] at hl;simp at hl;omega)
 obtain ⟨p,l⟩:=s
 simp only at h1 hi hl
 subst h1
 exact ⟨b,ro,by rw [zer hi];simp,h2,by omega⟩
theorem SlIn.row {h:Hp} {s:Sl} {e:Nat} {cs:List MV} (k:SlIn h s e cs) (he:0<e) {i:Nat} (hi:i<s.len):∃b ro,idx e s (i:Int) h=some (some ⟨b,i * e⟩,h)∧h.get b=.cells cs ro∧i * e+e≤cs.length:=by
 have hl:=k.1
 have h5:i * e+e≤s.len * e:=by
  have:=Nat.mul_le_mul_right e (show i+1≤s.len by omega)
  rw [Nat.add_mul] at this
  omega
 obtain ⟨b,ro,h1,h2,_⟩:=k.2 (by intro c;rw [c] at hl;simp at hl;omega)
 obtain ⟨p,l⟩:=s
 simp only at h1 hi hl h5
 subst h1
 exact ⟨b,ro,by rw [zer hi];simp,h2,by omega⟩
end Go.Mini
