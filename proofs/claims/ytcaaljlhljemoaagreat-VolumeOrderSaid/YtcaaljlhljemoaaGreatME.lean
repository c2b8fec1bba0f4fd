/- Each thing that is done in the small heap, in the great one: loads, stores, new blocks, places. -/
import Derived.Test.YtcaaljlhljemoaaGreatMD
namespace Go.Mini
def Out (ρ:Rho) (h:Hp) (w:World) (r:Result Value) (v:MV) (h':Hp):Prop:=
 ∃rv ρ' w',r=.ok rv w'∧VRel ρ' v rv∧HRel ρ' h' w'.heap∧HStp ρ h w ρ' h' w'
theorem Out.same {ρ:Rho} {h:Hp} {w:World} {r:Result Value} {v:MV} (k:HRel ρ h w.heap) {rv:Value} (hr:r=.ok rv w) (hv:VRel ρ v rv):Out ρ h w r v h:=
 ⟨rv,ρ,w,hr,hv,k,HStp.refl _ _ _⟩
theorem CTy.enc_dec {t:CTy} {v:MV} {x:t.den} (h:t.dec v=some x):t.enc x=v:=by
 cases t with
 | bool=>cases v<;>first | (cases h;rfl) | cases h
 | int k=>
  cases v with
  | int k' n=>
   simp only [CTy.dec] at h
   split at h
   ·rename_i e;subst e;cases h;rfl
   ·cases h
  | _=>cases h
 | str=>cases v<;>first | (cases h;rfl) | cases h
 | ptr=>cases v<;>first | (cases h;rfl) | cases h
 | sl e=>
  cases v with
  | sl p l e'=>
   simp only [CTy.dec] at h
   split at h
   ·rename_i e;subst e;cases h;rfl
   ·cases h
  | _=>cases h
 | map=>cases v<;>first | (cases h;rfl) | cases h
 | any=>cases h;rfl
theorem HC.enc_dec (ts:List CTy):∀(vs:List MV) (x:HC ts),HC.dec ts vs=some x→HC.enc ts x=vs:=by
 induction ts with
 | nil=>
  intro vs x h
  cases vs with
  | nil=>rfl
  | cons v vs=>cases h
 | cons t r ih=>
  intro vs x h
  cases r with
  | nil=>
   match vs,h with
   | [],h=>cases h
   | [v],h=>exact congrArg (fun q=>[q]) (CTy.enc_dec h)
   | _::_::_,h=>cases h
  | cons u r=>
   cases vs with
   | nil=>cases h
   | cons v vs=>
    have h2:(match t.dec v with
     | none=>none
     | some x=>match HC.dec (u::r) vs with
      | some y=>some (x,y)
      | none=>none)=some x:=h
    cases ha:t.dec v with
    | none=>rw [ha] at h2;cases h2
    | some a=>
     rw [ha] at h2
     cases hb:HC.dec (u::r) vs with
     | none=>simp only [hb] at h2;cases h2
     | some b=>
      simp only [hb] at h2
      obtain rfl:(a,b)=x:=Option.some.inj h2
      show t.enc a::HC.enc (u::r) b=v::vs
      rw [CTy.enc_dec ha,ih _ _ hb]
theorem z8q {k:IntKind}:∀ {cs:List MV} {xs:List Int},intsOf k cs=some xs→xs.map (.int k)=cs
 | [],xs,h=>by simp [intsOf] at h;subst h;rfl
 | c::r,xs,h=>by
  cases c<;>simp only [intsOf] at h<;>try cases h
  split at h
  ·rename_i e
   subst e
   split at h
   ·rename_i l hl
    cases h
    simp [z8q hl]
   ·cases h
  ·cases h
theorem Ty.enc_dec {t:Ty} {v:MV} {x:t.den} (h:t.dec v=some x):t.enc x=v:=by
 cases t with
 | c t=>exact CTy.enc_dec h
 | st ts=>
  cases v with
  | agg cs=>
   have h2:HC.dec ts cs=some x:=h
   exact congrArg MV.agg (HC.enc_dec ts cs x h2)
  | _=>exact nomatch h
 | agg n=>
  cases v with
  | agg cs=>exact congrArg MV.agg (Option.some.inj h).symm
  | _=>exact nomatch h
 | arr k=>
  cases v with
  | agg cs=>exact congrArg MV.agg (z8q h)
  | _=>exact nomatch h
 | fnc f caps=>
  cases v with
  | fn g cs=>
   have h2:(if g=f then HC.dec caps cs else none)=some x:=h
   split at h2
   ·rename_i e
    subst e
    exact congrArg (MV.fn g) (HC.enc_dec caps cs x h2)
   ·cases h2
  | _=>exact nomatch h
theorem HT.enc_dec (ts:List Ty):∀(vs:List MV) (x:HT ts),HT.dec ts vs=some x→HT.enc ts x=vs:=by
 induction ts with
 | nil=>
  intro vs x h
  cases vs with
  | nil=>rfl
  | cons v vs=>cases h
 | cons t r ih=>
  intro vs x h
  cases r with
  | nil=>
   match vs,h with
   | [],h=>cases h
   | [v],h=>exact congrArg (fun q=>[q]) (Ty.enc_dec h)
   | _::_::_,h=>cases h
  | cons u r=>
   cases vs with
   | nil=>cases h
   | cons v vs=>
    have h2:(match t.dec v with
     | none=>none
     | some x=>match HT.dec (u::r) vs with
      | some y=>some (x,y)
      | none=>none)=some x:=h
    cases ha:t.dec v with
    | none=>rw [ha] at h2;cases h2
    | some a=>
     rw [ha] at h2
     cases hb:HT.dec (u::r) vs with
     | none=>simp only [hb] at h2;cases h2
     | some b=>
      simp only [hb] at h2
      obtain rfl:(a,b)=x:=Option.some.inj h2
      show t.enc a::HT.enc (u::r) b=v::vs
      rw [Ty.enc_dec ha,ih _ _ hb]
theorem z0d {α β:Type} {m:M α} {f:α→M β} {h:Hp} {r:β×Hp} (e:bd m f h=some r):∃a h1,m h=some (a,h1)∧f a h1=some r:=by
 unfold bd at e
 split at e
 ·cases e
 ·rename_i a h1 hm;exact ⟨a,h1,hm,e⟩
theorem z1l {α:Type} {o:Option α} {h h':Hp} {a:α} (e:someOr o h=some (a,h')):o=some a∧h'=h:=by
 unfold someOr at e
 split at e
 ·cases e;exact ⟨rfl,rfl⟩
 ·cases e
theorem add_zero_or (b o n:Nat):(⟨b,o,none⟩:Addr).add n=⟨b,o+n,none⟩:=by
 unfold Addr.add;split<;>simp_all
theorem z82 {w:World} {r:Nat} {c:Array Value} {el:TypeId} {fz:Nat×Nat} (h:w.heap[r]? = some (.cells c el fz)) (i:Nat):w.cell? ⟨r,i,none⟩=c[i]? :=by
 simp [World.cell?,h]
theorem znx {ρ:Rho} {h:Hp} {w:World} (k:HRel ρ h w.heap) {q:Option MA} {v:MV} {h':Hp} (e:ldc q h=some (v,h')) {x:Value} (hx:VRel ρ (.ptr q) x) :
  ∃ra v',x=.pointer (some ra)∧w.cell? ra=some v'∧VRel ρ v v'∧h'=h:=by
 cases hx with
 | nil=>simp [ldc] at e
 | ptr a rb hb=>
  simp only [ldc] at e
  split at e
  ·rename_i cs ro hg
   split at e
   ·rename_i u hu
    cases e
    have hk:=k.blk _ _ hb
    rw [hg] at hk
    obtain ⟨c,el,fz,h1,h2,h3,h4,_⟩:=hk
    obtain ⟨v',hv',hr⟩:=h4 _ _ hu
    exact ⟨_,v',rfl,by rw [z82 h1];exact hv',hr,rfl⟩
   ·cases e
  ·cases e
theorem z9z {ρ:Rho} {h:Hp} {w:World} (k:HRel ρ h w.heap) {q:Option MA} {n:Nat} {vs:List MV} {h':Hp} (e:ldn n q h=some (vs,h')) {x:Value} (hx:VRel ρ (.ptr q) x) :
  ∃r o xs,x=.pointer (some ⟨r,o,none⟩)∧xs.length=n∧(∀j y,xs[j]? = some y→w.cell? ((⟨r,o,none⟩:Addr).add j)=some y)∧VRels ρ vs xs∧h'=h:=by
 cases hx with
 | nil=>simp [ldn] at e
 | ptr a rb hb=>
  simp only [ldn] at e
  split at e
  ·rename_i cs ro hg
   split at e
   ·rename_i hle
    cases e
    have hk:=k.blk _ _ hb
    rw [hg] at hk
    obtain ⟨c,el,fz,h1,h2,h3,h4,_⟩:=hk
    refine ⟨rb.r,rb.o+a.off,(c.toList.drop (rb.o+a.off)).take n,rfl,?_,?_,?_,rfl⟩
    ·simp;omega
    ·intro j y hy
     rw [add_zero_or,z82 h1]
     rw [List.getElem?_take] at hy
     split at hy
     ·simpa using hy
     ·cases hy
    ·apply VRels.of_get
     ·simp;omega
     ·intro i v y hv hy
      rw [List.getElem?_take] at hv hy
      split at hv
      ·rename_i hi
       rw [if_pos hi] at hy
       simp at hv hy
       obtain ⟨v',hv',hr⟩:=h4 _ _ hv
       rw [←Nat.add_assoc,hy] at hv'
       cases hv'
       exact hr
      ·cases hv
   ·cases e
  ·cases e
section
variable {P:Program}
theorem zj9 {t:TypeId} {d:TypeDesc} (h:P.underlying t=some d):∃i,P.info? t=some i:=by
 unfold Program.underlying at h
 cases e:P.info? t with
 | none=>rw [e] at h;simp at h
 | some i=>exact ⟨i,rfl⟩
theorem z0w {t:TypeId} {d:TypeDesc} (h:P.underlying t=some d) (w:World):(sizeOf t).run P w=.ok (P.cellsOf t) w:=by
 obtain ⟨i,hi⟩:=zj9 h
 simp [sizeOf,typeInfo,hi,Program.cellsOf]
theorem z0h {t:TypeId} {d:TypeDesc} (h:P.underlying t=some d) (w:World):(underlying t).run P w=.ok d w:=by
 simp [underlying,h]
def aggD:TypeDesc→Bool
 | .struct _=>true
 | .array _ _=>true
 | _=>false
theorem z50 {t:TypeId} {d:TypeDesc} (h:P.underlying t=some d) (w:World):(isAgg t).run P w=.ok (aggD d) w:=by
 unfold isAgg
 rw [Sem.run_bind,z0h h]
 cases d<;>rfl
theorem z5o {t:TypeId} {ty:Ty} (h:vty P t=some ty):∃d,P.underlying t=some d ∧
  ((aggD d=false∧∃c,ty=.c c∧cty P t=some c)∨(aggD d=true∧((∃ts,ty=.st ts∧ts.length=P.cellsOf t)∨ty=.agg (P.cellsOf t)))):=by
 unfold vty at h
 split at h
 ·rename_i fs hu
  refine ⟨_,hu,.inr ⟨rfl,?_⟩⟩
  split at h
  ·cases h;exact .inr rfl
  ·split at h
   ·split at h
    ·cases h;rename_i ts _ hl;exact .inl ⟨ts,rfl,hl⟩
    ·cases h
   ·cases h
 ·rename_i n e hu
  cases h
  exact ⟨_,hu,.inr ⟨rfl,.inr rfl⟩⟩
 ·rename_i hs ha
  cases hc:cty P t with
  | none=>simp [hc] at h
  | some c=>
   rw [hc] at h
   cases h
   have hu:∃d,P.underlying t=some d:=by
    unfold cty at hc
    cases e:P.underlying t with
    | none=>rw [e] at hc;simp at hc
    | some d=>exact ⟨d,rfl⟩
   obtain ⟨d,hd⟩:=hu
   refine ⟨d,hd,.inl ⟨?_,c,rfl,rfl⟩⟩
   cases d<;>first | rfl | exact absurd hd (hs _) | exact absurd hd (ha _ _)
theorem zhe (t:CTy) (q:Option MA):ldC t q=bd (ldc q) fun v=>someOr (t.dec v):=by
 cases t<;>try rfl
 funext h
 simp only [ldC,bd]
 cases ldc q h with
 | none=>rfl
 | some r=>cases r;rfl
theorem z6t {ρ:Rho} {h:Hp} {w:World} (k:HRel ρ h w.heap) {T:TypeId} {t:Ty} (ht:vty P T=some t) {q:Option MA} {x:Value} (hx:VRel ρ (.ptr q) x)
  {r:t.den} {h':Hp} (e:ld t q h=some (r,h')):h'=h∧∃rv,(Instr.loadAt T x).run P w=.ok rv w∧VRel ρ (t.enc r) rv:=by
 obtain ⟨d,hu,hd⟩:=z5o ht
 rcases hd with ⟨hd,c,rfl,hc⟩ | ⟨hd,hd2⟩
 ·simp only [ld,zhe] at e
  obtain ⟨v,h1,e1,e2⟩:=z0d e
  obtain ⟨ra,v',rfl,hcell,hv,rfl⟩:=znx k e1 hx
  obtain ⟨e3,rfl⟩:=z1l e2
  refine ⟨rfl,v',?_,?_⟩
  ·simp [Instr.loadAt,Instr.sureAddr,loadVar,z50 hu,hd,hcell]
  ·rw [show (Ty.c c).enc r=v from CTy.enc_dec e3];exact hv
 ·have key:∀(n:Nat) (vs:List MV) (h1:Hp),n=P.cellsOf T→ldn n q h=some (vs,h1)→h1=h∧∃xs,(Instr.loadAt T x).run P w=.ok (.agg xs) w∧VRel ρ (.agg vs) (.agg xs):=by
   intro n vs h1 hn e1
   obtain ⟨b,o,xs,rfl,hl,hcell,hv,rfl⟩:=z9z k e1 hx
   refine ⟨rfl,xs.toArray,?_,.agg _ _ hv⟩
   have hrun:=run_loadCells_list (P:=P) w ⟨b,o,none⟩ xs hcell
   rw [hl,hn] at hrun
   simp [Instr.loadAt,Instr.sureAddr,loadVar,z50 hu,hd,z0w hu,hrun]
  rcases hd2 with ⟨ts,rfl,hl⟩ | rfl
  ·simp only [ld,ldSt] at e
   obtain ⟨vs,h1,e1,e2⟩:=z0d e
   obtain ⟨e3,rfl⟩:=z1l e2
   obtain ⟨rfl,xs,h2,h3⟩:=key _ _ _ hl e1
   refine ⟨rfl,_,h2,?_⟩
   simp only [Ty.enc]
   rw [HC.enc_dec _ _ _ e3]
   exact h3
  ·simp only [ld] at e
   obtain ⟨rfl,xs,h2,h3⟩:=key _ _ _ rfl e
   exact ⟨rfl,_,h2,h3⟩
theorem zhf {t:TypeId} {ty:Ty} (h:lty P t=some ty):vty P t=some ty∨∃f caps,ty=.fnc f caps∧vty P t=some (.c .any):=by
 unfold lty at h
 split at h
 ·rename_i f n hv _
  cases h
  exact .inr ⟨_,_,rfl,hv⟩
 ·exact .inl h
theorem zja {ρ:Rho} {h:Hp} {w:World} (k:HRel ρ h w.heap) {T:TypeId} {t:Ty} (ht:lty P T=some t) {q:Option MA} {x:Value} (hx:VRel ρ (.ptr q) x)
  {r:t.den} {h':Hp} (e:ld t q h=some (r,h')):h'=h∧∃rv,(Instr.loadAt T x).run P w=.ok rv w∧VRel ρ (t.enc r) rv:=by
 rcases zhf ht with ht | ⟨f,caps,rfl,ht2⟩
 ·exact z6t k ht hx e
 ·simp only [ld] at e
  obtain ⟨v,h1,e1,e2⟩:=z0d e
  obtain ⟨e3,rfl⟩:=z1l e2
  obtain ⟨rfl,rv,h2,h3⟩:=z6t (t :=.c .any) k ht2 hx (r:=v) e1
  refine ⟨rfl,rv,h2,?_⟩
  rw [Ty.enc_dec e3]
  exact h3
theorem setRowSelf (w:World) (g:Nat) (cur:Array Value) (t:TypeId) (fz:Nat×Nat) (hg:w.heap[g]? = some (.cells cur t fz)):w.setRow g cur=w:=by
 have:(w.setRow g cur).heap=w.heap:=by
  apply Array.ext_getElem?
  intro i
  by_cases e:i=g
  ·subst e;rw [setRow_heap w i cur cur t fz hg,hg]
  ·exact setRow_other w g i cur e
 have e:w.setRow g cur={w with heap:=(w.setRow g cur).heap}:=rfl
 rw [e,this]
theorem z4i (g o:Nat) (t:TypeId) (fz:Nat×Nat):∀(vs:List Value) (i:Nat) (cur:Array Value) (w:World),w.heap[g]? = some (.cells cur t fz) →
  (∀j,i≤j→j<i+vs.length→¬(fz.1≤o+j∧o+j<fz.2))→o+i+vs.length≤cur.size→(∀v∈vs,v.oneCell'=true) →
  (storeCells ⟨g,o,none⟩ vs i).run P w=.ok () (w.setRow g (cur.toList.take (o+i)++vs++cur.toList.drop (o+i+vs.length)).toArray)
 | [],i,cur,w,hg,_,_,_=>by
  simp only [storeCells,List.append_nil,List.length_nil,Nat.add_zero,List.take_append_drop,Array.toArray_toList]
  rw [setRowSelf w g cur t fz hg]
  rfl
 | v::rest,i,cur,w,hg,hfz,hl,h1=>by
  have hi:o+i<cur.size:=by simp at hl;omega
  have hcell:w.cell? ⟨g,o+i,none⟩=some cur[o+i]:=by simp [World.cell?,hg,hi]
  have hfro:w.frozen? ⟨g,o+i,none⟩=false:=by
   have:=hfz i (Nat.le_refl _) (by simp)
   obtain ⟨lo,hi'⟩:=fz
   simp only [World.frozen?,hg,Bool.and_eq_false_iff,decide_eq_false_iff_not]
   simp only at this
   omega
  have hst:(store ((⟨g,o,none⟩:Addr).add i) v).run P w=.ok () (w.setRow g (cur.setIfInBounds (o+i) v)):=by
   rw [add_zero_or,run_store P w _ v _ (h1 v (by simp)),hcell]
   simp [hfro,setCell_eq_setRow w g (o+i) cur t fz v hg]
  have ih:=z4i g o t fz rest (i+1) (cur.setIfInBounds (o+i) v) (w.setRow g (cur.setIfInBounds (o+i) v)) (setRow_heap w g cur _ t _ hg)
   (fun j hj hj2=>hfz j (by omega) (by simp;omega)) (by simp at hl ⊢;omega) (fun x hx=>h1 x (by simp [hx]))
  simp only [storeCells,Sem.run_bind,hst,Result.andThen_ok,ih,setRow_setRow]
  congr 3
  apply List.ext_getElem?
  intro j
  simp only [Array.toList_setIfInBounds,List.getElem?_append,List.length_append,List.length_take,List.length_set,List.getElem?_take,List.getElem?_set,List.getElem?_drop,List.length_cons,Array.length_toList]
  simp at hl
  by_cases a1:j<o+i
  ·simp [a1,show j<o+(i+1) by omega,show ¬(o+i=j) by omega,show min (o+i) cur.size=o+i by omega,show min (o+(i+1)) cur.size=o+(i+1) by omega]
   rw [if_pos (by omega),if_pos (by omega)]
  ·by_cases a2:j=o+i
   ·subst a2
    simp [show min (o+i) cur.size=o+i by omega,show min (o+(i+1)) cur.size=o+(i+1) by omega]
    rw [if_pos (by omega),if_pos hi]
   ·have m1:min (o+i) cur.size=o+i:=by omega
    have m2:min (o+(i+1)) cur.size=o+(i+1):=by omega
    rw [m1,m2]
    by_cases a3:j<o+i+(rest.length+1)
    ·rw [if_pos (by omega),if_neg (by omega),if_pos (by omega),if_neg (by omega)]
     rw [show j - (o+i)=(j - (o+(i+1)))+1 by omega,List.getElem?_cons_succ]
    ·rw [if_neg (by omega),if_neg (by omega),if_neg (by omega)]
     congr 1
     omega
end
end Go.Mini
