/- Regions whose order is drawn: which blocks are filled, in the text's order. -/
import Derived.Test.YtpnppebjcenkkaaMXK
namespace Go.Mini
universe u

theorem posIn_inj {d d' : Nat} : ∀ {rs : List Nat}, mem d rs = true → mem d' rs = true → posIn d rs = posIn d' rs → d = d'
  | [], h, _, _ => by cases h
  | x :: r, h, h', e => by
    simp only [posIn] at e
    simp only [mem, Bool.or_eq_true] at h h'
    cases hx : Nat.beq x d with
    | true =>
      have e1 := Nat.eq_of_beq_eq_true hx
      rw [hx] at e
      cases hx' : Nat.beq x d' with
      | true => exact e1.symm.trans (Nat.eq_of_beq_eq_true hx')
      | false => rw [hx'] at e; simp at e
    | false =>
      cases hx' : Nat.beq x d' with
      | true => rw [hx, hx'] at e; simp at e
      | false =>
        rw [hx, hx'] at e
        simp only [cond_false, Nat.add_right_cancel_iff] at e
        exact posIn_inj (h.resolve_left (by rw [hx]; simp)) (h'.resolve_left (by rw [hx']; simp)) e

theorem posIn_lt {d : Nat} : ∀ {rs : List Nat}, mem d rs = true → posIn d rs < rs.length
  | [], h => by cases h
  | x :: r, h => by
    simp only [posIn, List.length_cons]
    simp only [mem, Bool.or_eq_true] at h
    cases hx : Nat.beq x d with
    | true => simp
    | false =>
      have := posIn_lt (h.resolve_left (by rw [hx]; simp))
      simp only [cond_false]
      omega

theorem fb_pos {w : Z} {x : Ins} {d b : Nat} (hv : (zIns w x).val = some d) (hb : (zIns w x).fb = some b) : mem d w.rs = true ∧ b = w.b + posIn d w.rs := by
  cases x with
  | alloc d' z | box d' a x | bslice d' e len z ps | mkSl d' e by' z l c | toBytes d' x | mkMap d' =>
    revert hv hb
    simp only [zIns]
    cases hm : mem d' w.rs with
    | false => intro _ hb; cases hb
    | true =>
      intro hv hb
      cases hv
      cases hb
      exact ⟨hm, rfl⟩
  | call d' f args => revert hb; simp only [zIns]; cases w.w <;> (intro hb; cases hb)
  | callv d' f args => revert hb; simp only [zIns]; cases w.w <;> (intro hb; cases hb)
  | _ => cases hb

theorem holds_get : ∀ (n : Nat) (h : Hp) (c : Nat), (h.holds n).get c = if h.size ≤ c ∧ c < h.size + n then .dead else h.get c
  | 0, h, c => by simp only [Hp.holds]; rw [if_neg (by omega)]
  | n + 1, h, c => by
    simp only [Hp.holds]
    rw [holds_get n, Hp.get_push, Hp.size_push]
    by_cases e : c = h.size
    · rw [if_neg (by omega), if_pos e, if_pos (by omega)]
    · rw [if_neg e]
      by_cases e2 : h.size ≤ c ∧ c < h.size + (n + 1)
      · rw [if_pos e2, if_pos (by omega)]
      · rw [if_neg e2, if_neg (by omega)]

theorem holds_size : ∀ (n : Nat) (h : Hp), (h.holds n).size = h.size + n
  | 0, h => rfl
  | n + 1, h => by simp only [Hp.holds]; rw [holds_size n, Hp.size_push]; omega

theorem HRel.holds {ρ : Rho} {h : Hp} {H : Array Obj} (k : HRel ρ h H) (n : Nat) : HRel ρ (h.holds n) H := by
  have hd : ∀ c, ¬ Dead (h.holds n) c → ¬ Dead h c := by
    intro c hc
    unfold Dead at *
    rw [holds_get] at hc
    split at hc
    · exact absurd rfl hc
    · exact hc
  refine ⟨fun b rb e => by rw [holds_size]; have := k.dom b rb e; omega, fun b hb => k.live b (hd b hb), fun b b' rb rb' e e' hb hb' => k.inj b b' rb rb' e e' (hd b hb) (hd b' hb'), fun b rb e => ?_⟩
  rw [holds_get, if_neg (by have := k.dom b rb e; omega)]
  exact k.blk b rb e

section
variable {P : Program} {priv : List Nat} {ntmps : Nat} {w : Z} {ops : Array Oper} {C : List (Nat × Entry)}

/-- The block that an operation is to fill. -/
def Fills (P : Program) (w : Z) (priv : List Nat) (ops : Array Oper) (j b : Nat) : Prop := ∃ o d, ops[j]? = some o ∧ (ddOf P w priv o).c = 2 ∧ o.dst = some d ∧ mem d w.rs = true ∧ b = w.b + posIn d w.rs

theorem fills_inj (F : Facts P w priv ops) {j j' b : Nat} (h : Fills P w priv ops j b) (h' : Fills P w priv ops j' b) : j = j' := by
  obtain ⟨o, d, h1, h2, h3, h4, rfl⟩ := h
  obtain ⟨o', d', g1, g2, g3, g4, g5⟩ := h'
  have hd : d = d' := posIn_inj h4 g4 (by omega)
  subst hd
  rcases Nat.lt_trichotomy j j' with h | h | h
  · exact absurd g3 (F.dis j j' o o' d h h1 g1 h3)
  · exact h
  · exact absurd h3 (F.dis j' j o' o d h g1 h1 g3)

/-- It was filled there. -/
def FillT (S S' : TS) (b : Nat) (blk : Blk) : Prop := blk ≠ .dead ∧ S.h.get b = .dead ∧ b < S.h.size ∧ S'.h = S.h.set b blk

/-- What an operation that fills does in the text's order. -/
theorem step_fill (F : Facts P w priv ops) {i : Nat} {S S' : TS} (h : Step P priv ntmps w ops C i S S') {o : Oper} (ho : ops[i]? = some o) (hc : (ddOf P w priv o).c = 2) :
    S'.p = S.p ∧ (S'.h = S.h ∨ ∃ b blk, Fills P w priv ops i b ∧ FillT S S' b blk) := by
  obtain ⟨o', ho', h⟩ := h
  rw [ho] at ho'
  cases ho'
  have hcl := F.cls i o ho
  rcases h with ⟨_, rfl⟩ | ⟨_, y, A, h', hy, _, tx, ⟨d, V, hv, hd, e, rfl⟩ | ⟨hn, _, A', u, e, hA, rfl⟩⟩ | ⟨_, wt, gs, n, d, b, z, hp, _, _, _, _, rfl⟩
  · exact ⟨rfl, .inl rfl⟩
  · obtain ⟨hcc, _⟩ := dd_of (w := w) hy hcl
    have h2 : (zIns w y).cls = 2 := hcc.symm.trans hc
    obtain ⟨b, hb, k⟩ := fl_ins (C := C) h2 A
    obtain ⟨blk, k1, k2, k3, k4, _⟩ := k _ _ _ e
    obtain ⟨g1, g2⟩ := fb_pos hv hb
    exact ⟨rfl, .inr ⟨b, blk, ⟨o, d, ho, hc, hd, g1, g2⟩, k1, k3, k4, k2⟩⟩
  · obtain ⟨hcc, _⟩ := dd_of (w := w) hy hcl
    have h2 : (zIns w y).cls = 2 := hcc.symm.trans hc
    exfalso
    revert hn h2
    generalize zIns w y = q
    intro hn h2
    cases q <;> first | (cases hn; done) | (simp [Ins.cls] at h2; done)
  · have := ddOf_pick (P := P) (w := w) (priv := priv) hp
    rw [this] at hc
    cases hc

theorem fillT_size {S S' : TS} {b : Nat} {blk : Blk} (h : FillT S S' b blk) : S'.h.size = S.h.size := by rw [h.2.2.2]; rfl
theorem fillT_get {S S' : TS} {b : Nat} {blk : Blk} (h : FillT S S' b blk) (c : Nat) : S'.h.get c = if c = b then blk else S.h.get c := by rw [h.2.2.2, Hp.get_set]

end
end Go.Mini
