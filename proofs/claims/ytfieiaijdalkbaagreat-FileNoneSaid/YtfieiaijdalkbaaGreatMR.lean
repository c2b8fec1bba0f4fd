/- Regions, whole; code. -/
import Derived.Test.YtfieiaijdalkbaaGreatMQ
namespace Go.Mini
universe u
section
variable {P : Program} {ops : Array Oper} {Q : Exit → Act → World → Prop} {ntmps : Nat} {priv pu : List Nat} {C : List (Nat × Entry)}
theorem sc_inv {β : Type} {p w : Bool} {gs n d : Nat} {body : List Item} {fr : Fr} {k : Fr → M β} {h : Hp} {res : β × Hp} (hp : p = pureItems pu body) (e : evItem C (.sc p w gs body (.t n) d) fr k h = some res) :
  ∃ t, look fr.v gs = some (.v (.bool t)) ∧ (t = w → ∃ x h1, evItems C body (fr.lock []) (β := Bool) (fun fr' => match (Opd.t n).mv fr' with
    | some (.bool x) => ret x
    | _ => fail) h = some (x, h1) ∧ k ((fr.del (itemsDsts body)).set d (.bool x)) h1 = some res) ∧
   (t ≠ w → k ((fr.del (itemsDsts body)).set d (.bool (!w))) h = some res) := by
 cases p with
 | true =>
  simp only [evItem, evPItem] at e
  cases hl : look fr.v gs with
  | none => rw [hl] at e; cases e
  | some fv =>
   rw [hl] at e
   cases fv with
   | loc a b => cases e
   | gone => cases e
   | v v =>
    cases v with
    | bool t =>
     cases hb : evPItems body (fr.lock []) with
     | none => rw [hb] at e; cases e
     | some fr' =>
      rw [hb] at e
      dsimp only at e
      cases hm : (Opd.t n).mv fr' with
      | none => rw [hm] at e; cases e
      | some m =>
       rw [hm] at e
       cases m with
       | bool x =>
        refine ⟨t, rfl, ?_, ?_⟩
        ·rintro rfl
         refine ⟨x, h, ?_, ?_⟩
         ·rw [evPItems_ev (pu := pu) body _ _ _ hp.symm hb]
          rw [hm]; rfl
         ·cases t with
          | true => simpa using e
          | false => simpa using e
        ·intro hne
         cases t <;> cases w <;> first | exact absurd rfl hne | simpa using e
       | _ => cases e
    | _ => cases e
 | false =>
  simp only [evItem] at e
  cases hl : look fr.v gs with
  | none => rw [hl] at e; cases e
  | some fv =>
   rw [hl] at e
   cases fv with
   | loc a b => cases e
   | gone => cases e
   | v v =>
    cases v with
    | bool t =>
     dsimp only at e
     obtain ⟨x, h1, e1, e2⟩ := bd_some e
     refine ⟨t, rfl, ?_, ?_⟩
     ·rintro rfl
      rw [if_pos rfl] at e1
      exact ⟨x, h1, e1, e2⟩
     ·intro hne
      rw [if_neg hne] at e1
      cases e1
      exact e2
    | _ => cases e
def GOk (ops : Array Oper) (g : Option (Nat × Bool)) (t : Array Value) (l : List Item) : Prop := match g with
 | none => True
 | some (j, w) => ∃ oj gs, ops[j]? = some oj ∧ oj.dst = some gs ∧ t[gs]? = some (.bool w) ∧ gs ∉ itemsDsts l
theorem GOk.wanted {g : Option (Nat × Bool)} {t : Array Value} {l : List Item} (h : GOk ops g t l) {o : Oper} (hg : o.guard = g) : Region.wanted o (yielded ops t) = true := by
 cases g with
 | none => simp [Region.wanted, hg]
 | some x =>
  obtain ⟨j, w⟩ := x
  obtain ⟨oj, gs, h1, h2, h3, _⟩ := h
  simp [Region.wanted, hg, yielded_of h1 h2 h3]
theorem GOk.next {g : Option (Nat × Bool)} {t t' : Array Value} {x : Item} {l : List Item} (h : GOk ops g t (x :: l)) (hsz : t'.size = t.size) (ht : ∀ i, i ∉ x.dsts → t'.getD i undef = t.getD i undef) : GOk ops g t' l := by
 cases g with
 | none => trivial
 | some y =>
  obtain ⟨j, w⟩ := y
  obtain ⟨oj, gs, h1, h2, h3, h4⟩ := h
  simp only [itemsDsts, List.mem_append, not_or] at h4
  refine ⟨oj, gs, h1, h2, ?_, h4.2⟩
  have hlt : gs < t.size := (Array.getElem?_eq_some_iff.1 h3).1
  have h5 : gs < t'.size := by rw [hsz]; exact hlt
  rw [getD_of h5, ht gs h4.1, ← getD_of hlt]
  exact h3
theorem pick_run {o : Oper} {c : Nat} {a b : Operand} (ho : o.op = .pick (.tmp c) a b) {d : Nat} (hd : o.dst = some d) {t : Array Value} {w : World} {tt : Bool} (hc : t[c]? = some (.bool tt)) {K : Act → World → Prop}
  (h : K ⟨t.setIfInBounds d (Act.eval ⟨t, []⟩ (if tt then a else b)), []⟩ w) : o.wp P ⟨t, []⟩ w K Q := by
 have hcc : Act.eval ⟨t, []⟩ (.tmp c) = .bool tt := by simp [Act.eval, Array.getD_eq_getD_getElem?, hc]
 unfold Oper.wp
 have hrun : (execOp (Act.eval ⟨t, []⟩) o).run P w = .ok (.value (Act.eval ⟨t, []⟩ (if tt then a else b))) w := by
  unfold execOp
  rw [ho]
  dsimp only
  rw [hcc]
  cases tt <;> simp [asBool]
 rw [hrun, Oper.upon_value]
 simpa [Act.put, hd] using h
theorem items_sound (hC : ∀ f en, look C f = some en → Sound P f en) (f : Nat) : ∀ (is : List Nat) (g : Option (Nat × Bool)) (lev : List Nat) (l : List Item) (rest : List Nat), items P ntmps priv pu ops f is g lev = some (l, rest) →
  ∀ {β : Type} (k : Fr → M β) (s : S) (res : β × Hp), Ok s → s.t.size = ntmps → GOk ops g s.t l → evItems C l s.fr k s.h = some res →
   (∀ s', Ok s' → Stp s s' (itemsDsts l) → k s'.fr s'.h = some res → wpOps P ops Q rest ⟨s'.t, []⟩ s'.w) → wpOps P ops Q is ⟨s.t, []⟩ s.w := by
 induction f with
 | zero => intro is g lev l rest h; cases h
 | succ f ih =>
  intro is g lev l rest h β k s res ok hsz hG e hk
  have done : some (l, rest) = some ([], is) → wpOps P ops Q is ⟨s.t, []⟩ s.w := by
   intro h2
   cases h2
   exact hk s ok (Stp.refl s _) (by simpa only [evItems] using e)
  cases is with
  | nil =>
   simp only [items] at h
   exact done h.symm
  | cons i r =>
   have h0 := h
   simp only [items] at h
   cases ho : ops[i]? with
   | none => rw [ho] at h; cases h
   | some o =>
    rw [ho] at h
    dsimp only at h
    cases hg : sameG o.guard g with
    | true =>
     rw [hg] at h
     simp only [cond_true] at h
     have hgd := sameG_eq hg
     split at h
     ·rename_i x hx
      cases hc : insOk ntmps x && dstOk o x with
      | false => rw [hc] at h; cases h
      | true =>
       rw [hc] at h
       simp only [cond_true] at h
       simp only [Bool.and_eq_true] at hc
       split at h
       ·rename_i l' q hl'
        cases h
        simp only [evItems, evItem] at e
        refine wpOps_do ho (hG.wanted hgd) ?_
        refine ins_sound hC ok hx (by rw [hsz]; exact hc.1) e ?_
        intro s1 ok1 st1 e1
        refine ih r g (i :: lev) l' rest hl' k s1 res ok1 (by rw [st1.tsz]; exact hsz) (hG.next st1.tsz st1.tmp) e1 ?_
        intro s2 ok2 st2 e2
        exact hk s2 ok2 (by simp only [itemsDsts, Item.dsts]; exact st1.trans st2) e2
       ·cases h
     ·cases h
    | false =>
     rw [hg] at h
     simp only [cond_false] at h
     split at h
     ·exact done h.symm
     ·rename_i j w hgo
      cases hm : mem j lev with
      | false =>
       rw [hm] at h
       exact done h.symm
      | true =>
       rw [hm] at h
       simp only [cond_true] at h
       split at h
       ·cases h
       ·rename_i oj hoj
        split at h
        ·cases h
        ·rename_i gs hgs
         split at h
         ·rename_i body kk q hbody
          split at h
          ·cases h
          ·rename_i okk hokk
           split at h
           ·cases h
           ·rename_i n d hpick
            obtain ⟨hdst, hop⟩ := pickOf_spec hpick
            cases hcc : sameG okk.guard g && Nat.blt d ntmps && !(mem gs (itemsDsts body)) with
            | false => rw [hcc] at h; cases h
            | true =>
             rw [hcc] at h
             simp only [cond_true] at h
             simp only [Bool.and_eq_true, Bool.not_eq_true'] at hcc
             have hgk := sameG_eq hcc.1.1
             have hdlt : d < s.t.size := by rw [hsz]; simpa using hcc.1.2
             have hgsb : gs ∉ itemsDsts body := fun c => by rw [(mem_iff _ _).2 c] at hcc; cases hcc.2
             split at h
             ·rename_i l' q' hl'
              cases h
              simp only [evItems] at e
              obtain ⟨t, hlk, hyes, hno⟩ := sc_inv (pu := pu) rfl e
              obtain ⟨hgl, hgr⟩ := ok.slots gs _ hlk
              have hgt : s.t[gs]? = some (.bool t) := by
               rw [getD_of hgl]
               congr 1
               have hgr2 : VRel s.ρ (.bool t) (s.t.getD gs undef) := hgr
               generalize s.t.getD gs undef = z at hgr2
               cases hgr2
               rfl
              -- what stands behind the pick
              have behind : ∀ (s1 : S) (x : Bool), Ok { s1 with fr := s.fr.del (itemsDsts body) } → Stp s { s1 with fr := s.fr.del (itemsDsts body) } (itemsDsts body) →
                evItems C l' ((s.fr.del (itemsDsts body)).set d (.bool x)) k s1.h = some res →
                wpOps P ops Q q ⟨s1.t.setIfInBounds d (.bool x), []⟩ s1.w := by
               intro s1 x ok1 st1 e1
               have hd1 : d < s1.t.size := by have := st1.tsz; dsimp only at this; omega
               obtain ⟨ok2, st2⟩ := ok1.set (d := d) hd1 (VRel.bool x)
               refine ih q g (kk :: lev) l' rest hl' k _ res ok2 ?_ ?_ e1 ?_
               ·have := (st1.trans st2).tsz
                rw [this]; exact hsz
               ·exact hG.next (st1.trans st2).tsz (by
                 intro i hi
                 refine (st1.trans st2).tmp i ?_
                 simpa only [Item.dsts] using hi)
               ·intro s3 ok3 st3 e3
                exact hk s3 ok3 (by simp only [itemsDsts, Item.dsts]; exact (st1.trans st2).trans st3) e3
              -- is the pick's guard still met?
              have wantk : ∀ t' : Array Value, t'.size = s.t.size → (∀ i, i ∉ itemsDsts body → t'.getD i undef = s.t.getD i undef) → Region.wanted okk (yielded ops t') = true := by
               intro t' h1 h2
               refine GOk.wanted (l := l') (hG.next h1 ?_) hgk
               intro i hi
               exact h2 i (fun c => hi (by simp only [Item.dsts, List.mem_append]; exact .inl c))
              have hgs' : ∀ t' : Array Value, t'.size = s.t.size → (∀ i, i ∉ itemsDsts body → t'.getD i undef = s.t.getD i undef) → t'[gs]? = some (.bool t) := by
               intro t' h1 h2
               have h5 : gs < t'.size := by rw [h1]; exact hgl
               rw [getD_of h5, h2 gs hgsb, ← getD_of hgl]
               exact hgt
              by_cases htw : t = w
              ·obtain ⟨x, h1, e1, e2⟩ := hyes htw
               refine ih (i :: r) (some (j, w)) [] body (kk :: q) hbody _ { s with fr := s.fr.lock [] } (x, h1) (ok.lock []) hsz ⟨oj, gs, hoj, hgs, by rw [← htw]; exact hgt, hgsb⟩ e1 ?_
               intro s1 ok1 st1 e3
               -- what the piece found
               cases hmv : (Opd.t n).mv s1.fr with
               | none => rw [hmv] at e3; cases e3
               | some m =>
                rw [hmv] at e3
                cases m with
                | bool y =>
                 have hxy : y = x ∧ s1.h = h1 := by
                  have : some (y, s1.h) = some (x, h1) := e3
                  cases this; exact ⟨rfl, rfl⟩
                 obtain ⟨rfl, hh1⟩ := hxy
                 have hfok := FOk.base ok st1
                 have hok1 : Ok { s1 with fr := s.fr.del (itemsDsts body) } := by
                  have := hfok.ok ok ok1 st1
                  rwa [List.append_nil] at this
                 have hst1 : Stp s { s1 with fr := s.fr.del (itemsDsts body) } (itemsDsts body) := by
                  have := hfok.stp ok st1
                  rwa [List.append_nil] at this
                 have hyv : Act.eval ⟨s1.t, []⟩ (.tmp n) = .bool y := by
                  have := tmp_mv ok1 hmv
                  generalize Act.eval ⟨s1.t, []⟩ (.tmp n) = z at this
                  cases this; rfl
                 have hsz1 : s1.t.size = s.t.size := st1.tsz
                 refine wpOps_do hokk (wantk s1.t hsz1 st1.tmp) ?_
                 have hc1 := hgs' s1.t hsz1 st1.tmp
                 have hbh := behind s1 y hok1 hst1 (by rw [hh1]; exact e2)
                 rcases hop with ⟨rfl, hop⟩ | ⟨rfl, hop⟩
                 ·subst htw
                  refine pick_run hop hdst hc1 ?_
                  rw [if_pos rfl, hyv]
                  exact hbh
                 ·subst htw
                  refine pick_run hop hdst hc1 ?_
                  rw [if_neg (by simp), hyv]
                  exact hbh
                | _ => cases e3
              ·have e2 := hno htw
               have hyj : yielded ops s.t j ≠ some w := by
                rw [yielded_of hoj hgs hgt]
                intro c; cases c; exact htw rfl
               refine skip_sound f (i :: r) j w [] body (kk :: q) hbody s.t s.w hyj (by intro j' hj'; cases hj') ?_
               intro t' hund hd'
               refine wpOps_do hokk (wantk t' hund.1 hd') ?_
               have hc1 := hgs' t' hund.1 hd'
               -- nothing was done: the slots of the piece are gone
               have st0 : Stp { s with fr := s.fr.lock [] } { s with fr := s.fr.lock [], t := t' } (itemsDsts body) :=
                ⟨Ext.refl _, rfl, rfl, rfl, Nat.le_refl _, ⟨Nat.le_refl _, fun _ _ e => .inl e⟩, fun _ _ _ _ => rfl, fun _ h => .inl h, fun _ h => .inl h, fun _ h => .inl h, fun _ _ => rfl, fun _ => .inl rfl, hund.1, hd'⟩
               have hfok : FOk s { s with fr := s.fr.lock [], t := t' } (itemsDsts body) [] false (s.fr.del (itemsDsts body ++ [])) := FOk.base ok st0
               have hok1 : Ok { s with fr := s.fr.del (itemsDsts body), t := t' } := by
                have hh := hfok
                rw [List.append_nil] at hh
                refine ⟨ok.heap, hh.slots, ?_, ?_⟩
                ·intro n' pv b hn'
                 obtain ⟨_, h2⟩ := look_dropP (l := s.fr.p) hn'
                 exact ok.priv n' pv b h2
                ·intro n' m' x y hx hy hne
                 obtain ⟨_, h2⟩ := look_dropP (l := s.fr.p) hx
                 obtain ⟨_, h3⟩ := look_dropP (l := s.fr.p) hy
                 exact ok.pinj n' m' x y h2 h3 hne
               have hst1 : Stp s { s with fr := s.fr.del (itemsDsts body), t := t' } (itemsDsts body) := by
                have := hfok.stp ok st0
                rwa [List.append_nil] at this
               have hbh := behind { s with t := t' } (!w) hok1 hst1 e2
               rcases hop with ⟨rfl, hop⟩ | ⟨rfl, hop⟩
               ·have : t = false := by cases t <;> simp_all
                subst this
                refine pick_run hop hdst hc1 ?_
                rw [if_neg (by simp)]
                exact hbh
               ·have : t = true := by cases t <;> simp_all
                subst this
                refine pick_run hop hdst hc1 ?_
                rw [if_pos rfl]
                exact hbh
             ·cases h
         ·cases h
end
end Go.Mini
