/- Regions and code: what the small machine does, the kit's does. -/
import Derived.Test.YtfieiaijdalkbaaGreatMO
namespace Go.Mini
universe u

section
variable {β : Type} {C : List (Nat × Entry)}

theorem evPure_ev {ins : Ins} {fr fr1 : Fr} (h : evPure ins fr = some fr1) (k : Fr → M β) : evIns C ins fr k = k fr1 := by
  cases ins with
  | mv d x =>
    simp only [evPure] at h
    cases hv : x.val fr with
    | none => rw [hv] at h; cases h
    | some v => rw [hv] at h; cases h; simp only [evIns, hv, okOf]
  | un d op x =>
    cases op <;> simp only [evPure] at h <;> try cases h
    cases hv : x.mv fr with
    | none => rw [hv] at h; cases h
    | some v =>
      rw [hv] at h
      cases v <;> first | (cases h; simp only [evIns, hv, okOf, evUn]; done) | cases h
  | bin d op tk x y =>
    cases hx : x.mv fr with
    | none => simp only [evPure, hx] at h; cases op <;> cases h
    | some v =>
      cases hy : y.mv fr with
      | none => simp only [evPure, hx, hy] at h; cases op <;> cases v <;> cases h
      | some u =>
        simp only [evPure, hx, hy] at h
        simp only [evIns, hx, hy, okOf]
        cases v with
        | int k1 a =>
          cases u with
          | int k2 b =>
            simp only [tagOk, wIf]
            cases op <;> simp only at h <;> first
              | cases h
              | (split at h
                 · rename_i e
                   subst e
                   first
                     | (cases h; simp [evBin])
                     | (split at h
                        · cases h
                        · rename_i hb
                          cases h
                          simp [evBin, hb])
                 · cases h)
          | _ => cases op <;> cases h
        | bool a =>
          cases u with
          | bool b =>
            cases op <;> simp only at h <;> first
              | cases h
              | (cases ht : Nat.beq tk 1 with
                 | false => rw [ht] at h; cases h
                 | true => rw [ht] at h; cases h; simp only [tagOk, ht, wIf, evBin])
          | _ => cases op <;> cases h
        | str a =>
          cases u with
          | str b =>
            simp only [tagOk, wIf]
            cases op <;> simp only at h <;> first
              | (cases h; simp only [evBin]; done)
              | cases h
          | _ => cases op <;> cases h
        | ptr p =>
          cases u with
          | ptr q =>
            cases q with
            | none =>
              cases op <;> simp only at h <;> first
                | cases h
                | (cases ht : Nat.beq tk 2 with
                   | false => rw [ht] at h; cases h
                   | true => rw [ht] at h; cases h; simp only [tagOk, ht, wIf, evBin]; rfl)
            | some q => cases op <;> cases h
          | _ => cases op <;> cases h
        | _ => cases op <;> cases u <;> cases h
  | mvz d x =>
    simp only [evPure] at h
    cases hv : x.val fr with
    | none => rw [hv] at h; cases h
    | some v =>
      rw [hv] at h
      cases v with
      | v v => cases h; simp only [evIns, hv, wLive]
      | loc a b => cases h; simp only [evIns, hv, wLive]
      | gone => cases h
  | conv d kd x =>
    simp only [evPure] at h
    cases hv : x.mv fr with
    | none => rw [hv] at h; cases h
    | some v =>
      rw [hv] at h
      cases v <;> first | (cases h; simp only [evIns, hv, wInt]; done) | cases h
  | ext d i x =>
    simp only [evPure] at h
    cases hv : x.mv fr with
    | none => rw [hv] at h; cases h
    | some v =>
      rw [hv] at h
      cases v with
      | tup vs =>
        dsimp only at h
        cases hi : vs[i]? with
        | none => rw [hi] at h; cases h
        | some w => rw [hi] at h; cases h; simp only [evIns, hv, wTup, hi, okOf]
      | _ => cases h
  | fldA d off p =>
    simp only [evPure] at h
    cases hv : p.val fr with
    | none => rw [hv] at h; cases h
    | some v =>
      rw [hv] at h
      cases v with
      | loc g o => cases h; simp only [evIns, hv, wPlace]
      | _ => cases h
  | fldV d off t x =>
    cases t with
    | c c =>
      simp only [evPure] at h
      cases hv : x.mv fr with
      | none => rw [hv] at h; cases h
      | some v =>
        rw [hv] at h
        cases v with
        | agg vs =>
          dsimp only at h
          cases hi : vs[off]? with
          | none => rw [hi] at h; cases h
          | some w => rw [hi] at h; cases h; simp only [evIns, hv, wAgg, hi, okOf]
        | _ => cases h
    | _ => cases h
  | load d t p =>
    cases t with
    | c c =>
      simp only [evPure] at h
      cases hv : p.val fr with
      | none => rw [hv] at h; cases h
      | some v =>
        rw [hv] at h
        cases v with
        | loc g o =>
          dsimp only at h
          cases hp : look fr.p g with
          | none => rw [hp] at h; cases h
          | some pb =>
            rw [hp] at h
            obtain ⟨pv, b⟩ := pb
            cases pv with
            | st cs =>
              dsimp only at h
              cases hi : cs[o]? with
              | none => rw [hi] at h; cases h
              | some w => rw [hi] at h; cases h; simp only [evIns, hv, wPlace, hp, okOf, pload, hi]
            | _ => cases h
        | _ => cases h
    | _ => cases h
  | len d x =>
    simp only [evPure] at h
    cases hv : x.mv fr with
    | none => rw [hv] at h; cases h
    | some v =>
      rw [hv] at h
      cases v <;> first | (cases h; simp only [evIns, hv, wSl]; done) | cases h
  | lenS d x =>
    simp only [evPure] at h
    cases hv : x.mv fr with
    | none => rw [hv] at h; cases h
    | some v =>
      rw [hv] at h
      cases v <;> first | (cases h; simp only [evIns, hv, wStr]; done) | cases h
  | _ => cases h

mutual
theorem evPItem_ev {pu : List Nat} : ∀ (x : Item) (fr fr1 : Fr) (k : Fr → M β), pureItem pu x = true → evPItem x fr = some fr1 → evItem C x fr k = k fr1
  | .i x, fr, fr1, k, hp, h => by
    simp only [evPItem] at h
    simp only [evItem]
    exact evPure_ev h k
  | .sc p isAnd g body b d, fr, fr1, k, hp, h => by
    cases p with
    | false => cases hp
    | true => simp only [evItem, h]
theorem evPItems_ev {pu : List Nat} : ∀ (l : List Item) (fr fr1 : Fr) (k : Fr → M β), pureItems pu l = true → evPItems l fr = some fr1 → evItems C l fr k = k fr1
  | [], fr, fr1, k, hp, h => by
    simp only [evPItems] at h
    cases h
    simp only [evItems]
  | x :: r, fr, fr1, k, hp, h => by
    simp only [pureItems, Bool.and_eq_true] at hp
    simp only [evPItems] at h
    split at h
    · rename_i fr2 h2
      simp only [evItems]
      rw [evPItem_ev x fr fr2 _ hp.1 h2]
      exact evPItems_ev r fr2 fr1 k hp.2 h
    · cases h
end

end

theorem sameG_eq {a b : Option (Nat × Bool)} (h : sameG a b = true) : a = b := by
  cases a with
  | none => cases b with
    | none => rfl
    | some y => cases h
  | some x =>
    cases b with
    | none => cases h
    | some y =>
      obtain ⟨i, p⟩ := x
      obtain ⟨j, q⟩ := y
      simp only [sameG, Bool.and_eq_true, beq_iff_eq] at h
      have := Nat.eq_of_beq_eq_true h.1
      rw [this, h.2]

theorem pickOf_spec {o : Oper} {w : Bool} {gs n d : Nat} (h : pickOf o w gs = some (n, d)) : o.dst = some d ∧ ((w = true ∧ o.op = .pick (.tmp gs) (.tmp n) (.const (.bool false))) ∨ (w = false ∧ o.op = .pick (.tmp gs) (.const (.bool true)) (.tmp n))) := by
  unfold pickOf at h
  split at h
  · rename_i c m d' ho hd
    cases hb : Nat.beq c gs && w with
    | false => rw [hb] at h; cases h
    | true =>
      rw [hb] at h
      cases h
      simp only [Bool.and_eq_true] at hb
      have := Nat.eq_of_beq_eq_true hb.1
      subst this
      exact ⟨hd, .inl ⟨hb.2, ho⟩⟩
  · rename_i c m d' ho hd
    cases hb : Nat.beq c gs && !w with
    | false => rw [hb] at h; cases h
    | true =>
      rw [hb] at h
      cases h
      simp only [Bool.and_eq_true, Bool.not_eq_true'] at hb
      have := Nat.eq_of_beq_eq_true hb.1
      subst this
      exact ⟨hd, .inr ⟨hb.2, ho⟩⟩
  · cases h

section
variable {P : Program} {ops : Array Oper} {Q : Exit → Act → World → Prop} {ntmps : Nat} {priv pu : List Nat}

theorem yielded_of {t : Array Value} {j : Nat} {o : Oper} {d : Nat} (ho : ops[j]? = some o) (hd : o.dst = some d) {b : Bool} (h : t[d]? = some (.bool b)) : yielded ops t j = some b := by
  simp [yielded, ho, hd, h]

theorem getD_of {t : Array Value} {d : Nat} (h : d < t.size) : t[d]? = some (t.getD d undef) := by
  simp [Array.getD, h]

theorem wpOps_skip {i : Nat} {r : List Nat} {o : Oper} {t : Array Value} {w : World} (ho : ops[i]? = some o) (hw : Region.wanted o (yielded ops t) = false) (h : wpOps P ops Q r (Act.put ⟨t, []⟩ o.dst undef) w) : wpOps P ops Q (i :: r) ⟨t, []⟩ w := by
  simp only [wpOps, ho, hw]
  exact h

theorem wpOps_do {i : Nat} {r : List Nat} {o : Oper} {t : Array Value} {w : World} (ho : ops[i]? = some o) (hw : Region.wanted o (yielded ops t) = true) (h : o.wp P ⟨t, []⟩ w (wpOps P ops Q r) Q) : wpOps P ops Q (i :: r) ⟨t, []⟩ w := by
  simp only [wpOps, ho, hw, if_true]
  exact .inl h

def Und (t t' : Array Value) : Prop := t'.size = t.size ∧ ∀ i : Nat, t'[i]? = t[i]? ∨ t'[i]? = some undef

theorem Und.refl (t : Array Value) : Und t t := ⟨rfl, fun _ => .inl rfl⟩
theorem Und.trans {a b c : Array Value} (h : Und a b) (k : Und b c) : Und a c :=
  ⟨k.1.trans h.1, fun i => by
    rcases k.2 i with e | e
    · rw [e]; exact h.2 i
    · exact .inr e⟩

theorem Und.none {t t' : Array Value} (h : Und t t') {j : Nat} (hy : yielded ops t j = none) : yielded ops t' j = none := by
  unfold yielded at hy ⊢
  cases hx : (ops[j]?).bind (·.dst) with
  | none => rfl
  | some e =>
    rw [hx] at hy
    simp only [Option.bind_some] at hy ⊢
    rcases h.2 e with h2 | h2
    · rw [h2]; exact hy
    · rw [h2]; rfl

theorem Und.ne {t t' : Array Value} (h : Und t t') {j : Nat} {w : Bool} (hy : yielded ops t j ≠ some w) : yielded ops t' j ≠ some w := by
  unfold yielded at hy ⊢
  cases hx : (ops[j]?).bind (·.dst) with
  | none => simp
  | some e =>
    rw [hx] at hy
    simp only [Option.bind_some] at hy ⊢
    rcases h.2 e with h2 | h2
    · rw [h2]; exact hy
    · rw [h2]; simp [undef]

theorem put_undef (t : Array Value) (dst : Option Tmp) : ∃ t', Act.put ⟨t, []⟩ dst undef = ⟨t', []⟩ ∧ Und t t' ∧ (∀ i, dst ≠ some i → t'.getD i undef = t.getD i undef) ∧ ∀ o i, ops[i]? = some o → o.dst = dst → yielded ops t' i = none := by
  cases dst with
  | none => exact ⟨t, rfl, Und.refl t, fun _ _ => rfl, fun o i h1 h2 => by simp [yielded, h1, h2]⟩
  | some d =>
    refine ⟨t.setIfInBounds d undef, rfl, ⟨by simp, fun i => ?_⟩, ?_, ?_⟩
    · rw [Array.getElem?_setIfInBounds]
      by_cases e : d = i
      · subst e
        rw [if_pos rfl]
        by_cases hd : d < t.size
        · rw [if_pos hd]; exact .inr rfl
        · rw [if_neg hd]; exact .inl (by simp at hd; simp [hd])
      · rw [if_neg e]; exact .inl rfl
    · intro i hi
      by_cases hd : d < t.size
      · rw [getD_set hd, if_neg (fun c => hi (by rw [c]))]
      · simp [Array.setIfInBounds, hd]
    · intro o i h1 h2
      simp only [yielded, h1, Option.bind_some, h2, Array.getElem?_setIfInBounds, if_true]
      split
      · rename_i b h'
        split at h'
        · simp [undef] at h'
        · cases h'
      · rfl

theorem not_wanted {o : Oper} {j : Nat} {wt : Bool} {t : Array Value} (hg : o.guard = some (j, wt)) (hne : yielded ops t j ≠ some wt) : Region.wanted o (yielded ops t) = false := by
  simp only [Region.wanted, hg]
  cases hy : yielded ops t j with
  | none => rfl
  | some b =>
    cases hbw : (b == wt) with
    | false => simpa using hbw
    | true => exact absurd (by rw [hy]; simpa using hbw) hne

theorem skip_sound (f : Nat) : ∀ (is : List Nat) (j : Nat) (wt : Bool) (lev : List Nat) (l : List Item) (rest : List Nat), items P ntmps priv pu ops f is (some (j, wt)) lev = some (l, rest) →
    ∀ (t : Array Value) (w : World), yielded ops t j ≠ some wt → (∀ j' ∈ lev, yielded ops t j' = none) →
      (∀ t' : Array Value, Und t t' → (∀ i, i ∉ itemsDsts l → t'.getD i undef = t.getD i undef) → wpOps P ops Q rest ⟨t', []⟩ w) → wpOps P ops Q is ⟨t, []⟩ w := by
  induction f with
  | zero => intro is j wt lev l rest h; cases h
  | succ f ih =>
    intro is j wt lev l rest h t w hne hlev hk
    cases is with
    | nil =>
      simp only [items] at h
      cases h
      exact hk t (Und.refl t) (fun _ _ => rfl)
    | cons i r =>
      simp only [items] at h
      cases ho : ops[i]? with
      | none => rw [ho] at h; cases h
      | some o =>
        rw [ho] at h
        dsimp only at h
        cases hg : sameG o.guard (some (j, wt)) with
        | true =>
          rw [hg] at h
          simp only [cond_true] at h
          have hgd := sameG_eq hg
          split at h
          · rename_i x hx
            cases hc : insOk ntmps x && dstOk o x with
            | false => rw [hc] at h; cases h
            | true =>
              rw [hc] at h
              simp only [cond_true] at h
              simp only [Bool.and_eq_true] at hc
              split at h
              · rename_i l' q hl'
                cases h
                obtain ⟨t', h1, h2, h3, h4⟩ := put_undef (ops := ops) t o.dst
                refine wpOps_skip ho (not_wanted hgd hne) ?_
                rw [h1]
                refine ih r j wt (i :: lev) l' rest hl' t' w (h2.ne hne) ?_ ?_
                · intro j' hj'
                  rcases List.mem_cons.1 hj' with rfl | hj'
                  · exact h4 o _ ho rfl
                  · exact h2.none (hlev j' hj')
                · intro t2 hs2 hd2
                  refine hk t2 (h2.trans hs2) ?_
                  intro n hn
                  have hn1 : n ∉ itemsDsts l' := fun c => hn (by simp only [itemsDsts, List.mem_append]; exact .inr c)
                  rw [hd2 n hn1]
                  refine h3 n ?_
                  intro hd
                  apply hn
                  simp only [itemsDsts, Item.dsts, List.mem_append]
                  left
                  have := hc.2
                  unfold dstOk at this
                  rw [hd] at this
                  exact (mem_iff _ _).1 this
              · cases h
          · cases h
        | false =>
          rw [hg] at h
          simp only [cond_false] at h
          split at h
          · cases h
            exact hk t (Und.refl t) (fun _ _ => rfl)
          · rename_i j2 w2 hgo
            cases hm : mem j2 lev with
            | false =>
              rw [hm] at h
              cases h
              exact hk t (Und.refl t) (fun _ _ => rfl)
            | true =>
              rw [hm] at h
              simp only [cond_true] at h
              split at h
              · cases h
              · rename_i oj hoj
                split at h
                · cases h
                · rename_i gs hgs
                  split at h
                  · rename_i body kk q hbody
                    split at h
                    · cases h
                    · rename_i okk hokk
                      split at h
                      · cases h
                      · rename_i n d hpick
                        obtain ⟨hdst, _⟩ := pickOf_spec hpick
                        cases hcc : sameG okk.guard (some (j, wt)) && Nat.blt d ntmps && !(mem gs (itemsDsts body)) with
                        | false => rw [hcc] at h; cases h
                        | true =>
                          rw [hcc] at h
                          simp only [cond_true] at h
                          simp only [Bool.and_eq_true] at hcc
                          have hgk := sameG_eq hcc.1.1
                          split at h
                          · rename_i l' q' hl'
                            cases h
                            have hj2 : yielded ops t j2 = none := hlev j2 ((mem_iff _ _).1 hm)
                            -- the inner piece
                            refine ih (i :: r) j2 w2 [] body (kk :: q) hbody t w (by rw [hj2]; simp) (by intro j' hj'; cases hj') ?_
                            intro t1 hs1 hd1
                            obtain ⟨t2, h1, h2, h3, h4⟩ := put_undef (ops := ops) t1 okk.dst
                            refine wpOps_skip hokk (not_wanted hgk (hs1.ne hne)) ?_
                            rw [h1]
                            refine ih q j wt (kk :: lev) l' rest hl' t2 w ((hs1.trans h2).ne hne) ?_ ?_
                            · intro j' hj'
                              rcases List.mem_cons.1 hj' with rfl | hj'
                              · exact h4 okk _ hokk rfl
                              · exact (hs1.trans h2).none (hlev j' hj')
                            · intro t3 hs3 hd3
                              refine hk t3 ((hs1.trans h2).trans hs3) ?_
                              intro m hm'
                              simp only [itemsDsts, Item.dsts, List.mem_append, not_or] at hm'
                              rw [hd3 m hm'.2, h3 m (by rw [hdst]; intro c; cases c; exact hm'.1.2 (by simp)), hd1 m hm'.1.1]
                          · cases h
                  · cases h

end
end Go.Mini
