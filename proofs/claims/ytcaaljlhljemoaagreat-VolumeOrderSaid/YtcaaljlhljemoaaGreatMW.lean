/- Rows of structs of numbers, texts and bools, as they come in. -/
import Derived.Test.YtcaaljlhljemoaaGreatMV
namespace Go.Mini
section
variable {P:Program} {ρ:Rho}
def leafs (P:Program):Nat→TypeId→Option (List (Nat×CTy))
 | 0,_=>none
 | d+1,t=>match P.underlying t with
  | some (.struct fs)=>fs.toList.foldr (fun f r=>match leafs P d f.type,r with
   | some l,some r=>some (l.map (fun x=>(f.offset+x.1,x.2))++r)
   | _,_=>none) (some [])
  | some (.array _ _)=>none
  | _=>match cty P t with
   | some c=>bif flatC c then some [(0,c)] else none
   | none=>none
theorem z7u {g:Field→Option (List (Nat×CTy))}:∀ {fs:List Field} {L:List (Nat×CTy)},fs.foldr (fun f r=>match g f,r with
   | some l,some r=>some (l.map (fun x=>(f.offset+x.1,x.2))++r)
   | _,_=>none) (some [])=some L→∀x∈L,∃f∈fs,∃l,g f=some l∧∃y∈l,x=(f.offset+y.1,y.2)
 | [],L,h,x,hx=>by cases h;cases hx
 | f::fs,L,h,x,hx=>by
  simp only [List.foldr_cons] at h
  split at h
  ·rename_i l r hl hr
   cases h
   rcases List.mem_append.1 hx with hx | hx
   ·obtain ⟨y,hy,rfl⟩:=List.mem_map.1 hx
    exact ⟨f,by simp,l,hl,y,hy,rfl⟩
   ·obtain ⟨f',hf',l',h1,h2⟩:=z7u hr x hx
    exact ⟨f',by simp [hf'],l',h1,h2⟩
  ·cases h
theorem zcf {α β:Type} {g:α→Option β}:∀ {l:List α} {ys:List β},l.mapM g=some ys→∀a∈l,∃y,g a=some y
 | [],_,_,a,h=>by cases h
 | b::l,ys,h,a,ha=>by
  rw [List.mapM_cons] at h
  cases hb:g b with
  | none=>rw [hb] at h;cases h
  | some y=>
   rw [hb] at h
   cases hl:l.mapM g with
   | none=>simp [hl] at h
   | some zs=>
    rcases List.mem_cons.1 ha with rfl | ha
    ·exact ⟨y,hb⟩
    ·exact zcf hl a ha
def FlatV (c:CTy) (v:Value):Prop:=∀ρ:Rho,∃m x,VRel ρ m v∧c.dec m=some x∧m.has
theorem zq1 (b:Bool):FlatV .bool (.bool b):=fun _=>⟨_,_,.bool _,rfl,trivial⟩
theorem zsa {k:IntKind} {n:Int} (h:k.has n):FlatV (.int k) (.int k n):=fun _=>⟨_,_,.int _ _,if_pos rfl,h⟩
theorem zsb {s:ByteArray} (h:(s.size:Int)≤IntKind.i64.max):FlatV .str (.string s):=fun ρ=>by
 refine ⟨.str s.data.toList,_,?_,rfl,?_⟩
 ·have:=VRel.str (ρ:=ρ) s.data.toList
  simpa using this
 ·show ((s.data.toList.length:Nat):Int)≤_
  rw [Array.length_toList]
  exact h
theorem zmp {n:Nat} (h:n≤maxLen):(n:Int)≤IntKind.i64.max:=by
 have h1:(maxLen:Int)≤IntKind.i64.max:=by decide
 omega
theorem zar {H:Type} {enc:TypeId×Value→H} {w:World} {base:Nat} {sp:Nat→Bool} {hd:Bool}:∀(d:Nat) (t:TypeId) (L:List (Nat×CTy)),leafs P d t=some L→∀(fuel:Nat) (cs:List Value) (x:DataW H×List MemPlace),
  DataW.trod enc P w base sp hd fuel t cs=some x→∀y∈L,∃v,cs[y.1]? = some v∧FlatV y.2 v
 | 0,_,_,h,_,_,_,_,_,_=>by cases h
 | d+1,t,L,h,fuel,cs,x,ht,y,hy=>by
  cases fuel with
  | zero=>cases ht
  | succ fuel=>
   simp only [leafs] at h
   split at h
   ·rename_i fs hu
    simp only [DataW.trod,hu] at ht
    split at ht
    ·obtain ⟨ys,hys,_⟩:=map_some ht
     obtain ⟨f,hf,l,hl,z,hz,rfl⟩:=z7u h y hy
     obtain ⟨q,hq⟩:=zcf hys f hf
     obtain ⟨v,hv,hfl⟩:=zar d f.type l hl fuel _ q hq z hz
     refine ⟨v,?_,hfl⟩
     rw [List.getElem?_take] at hv
     split at hv
     ·rw [List.getElem?_drop] at hv
      exact hv
     ·cases hv
    ·cases ht
   ·cases h
   ·rename_i hns hna
    split at h
    ·rename_i c hc
     cases hfl:flatC c with
     | false=>rw [hfl] at h;cases h
     | true=>
      rw [hfl] at h
      cases h
      simp only [List.mem_singleton] at hy
      subst hy
      cases c with
      | bool=>
       have hu:=zbz hc
       simp only [DataW.trod,hu] at ht
       split at ht<;>first | (have hh := ‹some TypeDesc.bool=some _›;cases hh;done) | skip
       ·exact ⟨_,rfl,zq1 _⟩
       ·cases ht
      | int k=>
       have hu:=zei hc
       simp only [DataW.trod,hu] at ht
       split at ht<;>first | (have hh := ‹some (TypeDesc.int k)=some _›;cases hh;done) | skip
       ·have hh := ‹some (TypeDesc.int k)=some _›
        cases hh
        split at ht
        ·rename_i h2
         obtain ⟨rfl,h3⟩:=h2
         exact ⟨_,rfl,zsa (by simpa [Lit.wf,IntKind.has] using h3)⟩
        ·cases ht
       ·cases ht
      | str=>
       have hu:=zej hc
       simp only [DataW.trod,hu] at ht
       split at ht<;>first | (have hh := ‹some TypeDesc.string=some _›;cases hh;done) | skip
       ·split at ht
        ·rename_i h2
         exact ⟨_,rfl,zsb (zmp h2)⟩
        ·cases ht
       ·cases ht
      | _=>cases hfl
    ·cases h
theorem zcg {α β:Type} {g:α→Option β}:∀ {l:List α} {ys:List β},l.mapM g=some ys→ys.length=l.length∧∀(j:Nat) v,ys[j]? = some v→∃a,l[j]? = some a∧g a=some v
 | [],ys,h=>by cases h;exact ⟨rfl,fun j v hj=>by simp at hj⟩
 | b::l,ys,h=>by
  rw [List.mapM_cons] at h
  cases hb:g b with
  | none=>rw [hb] at h;cases h
  | some y=>
   rw [hb] at h
   cases hl:l.mapM g with
   | none=>simp [hl] at h
   | some zs=>
    simp [hl] at h
    subst h
    obtain ⟨h1,h2⟩:=zcg hl
    refine ⟨by simp [h1],fun j v hj=>?_⟩
    cases j with
    | zero=>simp at hj;subst hj;exact ⟨b,rfl,hb⟩
    | succ j=>exact h2 j v (by simpa using hj)
theorem FlatV.enc {c:CTy} {v:Value} (h:FlatV c v) (ρ:Rho):∃x:c.den,VRel ρ (c.enc x) v∧(c.enc x).has:=by
 obtain ⟨m,x,h1,h2,h3⟩:=h ρ
 have:=CTy.enc_dec h2
 exact ⟨x,by rw [this];exact h1,by rw [this];exact h3⟩
theorem HC.enc_length:∀(cts:List CTy) (x:HC cts),(HC.enc cts x).length=cts.length
 | [],_=>rfl
 | [_],_=>rfl
 | _::u::r,x=>by
  show (HC.enc (u::r) x.2).length+1=_
  rw [HC.enc_length (u::r) x.2]
  rfl
def rowsOf (cts:List CTy) (xs:List (HC cts)):List MV:=xs.flatMap (HC.enc cts)
theorem z4r {cts:List CTy}:∀(xs:List (HC cts)),(rowsOf cts xs).length=xs.length * cts.length
 | []=>by simp [rowsOf]
 | x::xs=>by
  have ih:=z4r xs
  simp only [rowsOf,List.flatMap_cons,List.length_append,HC.enc_length,List.length_cons] at ih ⊢
  rw [ih,Nat.add_mul,Nat.one_mul,Nat.add_comm]
def oneRho (rb:RB):Rho:=fun b=>if b=0 then some rb else none
theorem HRel.one {rb:RB} {x:Blk} {H:Array Obj} (hb:BRel (oneRho rb) rb x H) (hG:GM=[]:=by rfl):HRel (oneRho rb) (Hp.empty.push x) H where
 dom:=fun b q h=>by
  unfold oneRho at h
  split at h
  ·rename_i e;subst e;exact Nat.zero_lt_one
  ·cases h
 live:=fun b hd=>by
  by_cases e:b=0
  ·subst e;exact ⟨rb,rfl⟩
  ·exact absurd (show (Hp.empty.push x).get b=.dead by rw [Hp.get_push];exact if_neg e) hd
 inj:=fun b b' q q' h h' _ _ hne=>by
  unfold oneRho at h h'
  split at h
  ·split at h'
   ·rename_i e e';exact absurd (e.trans e'.symm) hne
   ·cases h'
  ·cases h
 gl:=fun i g h=>by rw [hG] at h;cases h
 blk:=fun b q h=>by
  unfold oneRho at h
  split at h
  ·rename_i e
   subst e
   cases h
   rw [Hp.get_push]
   exact hb
  ·cases h
theorem z6p (a:Addr):a.add 0=a:=rfl
theorem zg3 {a:Addr} (h:a.spot=none) (p q:Nat):(a.add p).add q=⟨a.block,a.off+(p+q),none⟩:=by
 obtain ⟨b,o,s⟩:=a
 dsimp only at h
 subst h
 unfold Addr.add
 split<;>split<;>simp_all [Nat.add_assoc]
end
end Go.Mini
