/- The laws' own toolkit: maps whose keys are numbers; slices that came in. -/
import Derived.Test.YtpnppebjcenkkaaMLW
namespace Go.Mini

/-- Where a number stands among keys. -/
def idxI (kd : IntKind) : List (MV × MV) → Int → Option (Nat × MV)
  | [], _ => none
  | (.int kd' n, v) :: r, k => if kd' = kd ∧ k = n then some (0, v) else (idxI kd r k).map fun x => (x.1 + 1, x.2)
  | _ :: r, k => (idxI kd r k).map fun x => (x.1 + 1, x.2)

def IKeys (kd : IntKind) (es : List (MV × MV)) : Prop := ∀ e ∈ es, ∃ n, e.1 = .int kd n

theorem findK_int {kd : IntKind} {es : List (MV × MV)} (hk : IKeys kd es) (k : Int) : findK (.int kd k) es = some (idxI kd es k) := by
  induction es with
  | nil => rfl
  | cons e r ih =>
    obtain ⟨n, hn⟩ := hk e (by simp)
    obtain ⟨key, v⟩ := e
    simp only at hn
    subst hn
    have ih := ih fun e he => hk e (by simp [he])
    simp only [findK, keyEq, if_true, idxI]
    by_cases e : k = n
    · simp [e]
    · simp only [decide_eq_false e, ih, e, and_false, if_false]
      cases idxI kd r k <;> rfl

theorem idxI_set {kd : IntKind} {v0 v : MV} {k : Int} : ∀ {es : List (MV × MV)} {i : Nat}, IKeys kd es → idxI kd es k = some (i, v0) → ∀ k', idxI kd (es.set i (.int kd k, v)) k' = if k' = k then some (i, v) else idxI kd es k'
  | [], i, _, h => by cases h
  | (key, u) :: r, i, hk, h => by
    obtain ⟨n, hn⟩ := hk (key, u) (by simp)
    simp only at hn
    subst hn
    have hr : IKeys kd r := fun e he => hk e (by simp [he])
    intro k'
    simp only [idxI] at h
    by_cases e : k = n
    · subst e
      simp at h
      obtain ⟨rfl, rfl⟩ := h
      simp only [List.set_cons_zero, idxI, true_and]
      split <;> rfl
    · rw [if_neg (by simp [e])] at h
      cases hx : idxI kd r k with
      | none => rw [hx] at h; cases h
      | some x =>
        obtain ⟨j, w⟩ := x
        rw [hx] at h
        simp at h
        obtain ⟨rfl, rfl⟩ := h
        have ih := idxI_set hr hx k' (v := v)
        simp only [List.set_cons_succ, idxI, true_and]
        by_cases e2 : k' = n
        · rw [if_pos e2, if_pos e2, if_neg (fun c => e (by rw [← c, e2]))]
        · rw [if_neg e2, if_neg e2, ih]
          by_cases e3 : k' = k
          · rw [if_pos e3, if_pos e3]; rfl
          · rw [if_neg e3, if_neg e3]

theorem idxI_push {kd : IntKind} {v : MV} {k : Int} : ∀ {es : List (MV × MV)}, IKeys kd es → idxI kd es k = none → ∀ k', idxI kd (es ++ [(.int kd k, v)]) k' = if k' = k then some (es.length, v) else idxI kd es k'
  | [], _, _, k' => by simp [idxI]
  | (key, u) :: r, hk, h, k' => by
    obtain ⟨n, hn⟩ := hk (key, u) (by simp)
    simp only at hn
    subst hn
    have hr : IKeys kd r := fun e he => hk e (by simp [he])
    simp only [idxI] at h
    by_cases e : k = n
    · simp [e] at h
    · rw [if_neg (by simp [e])] at h
      have hx : idxI kd r k = none := by
        cases hx : idxI kd r k with
        | none => rfl
        | some x => rw [hx] at h; cases h
      have ih := idxI_push hr hx k' (v := v)
      simp only [List.cons_append, idxI, true_and]
      by_cases e2 : k' = n
      · rw [if_pos e2, if_pos e2, if_neg (fun c => e (by rw [← c, e2]))]
      · rw [if_neg e2, if_neg e2, ih]
        by_cases e3 : k' = k
        · rw [if_pos e3, if_pos e3]; rfl
        · rw [if_neg e3, if_neg e3]

/-- A map by numbers, as a function. -/
def IMap (h : Hp) (kd : IntKind) (b : Nat) (f : Int → Option MV) : Prop := ∃ es, h.get b = .map es ∧ IKeys kd es ∧ ∀ k, (idxI kd es k).map (·.2) = f k

theorem IMap.frame {h h' : Hp} {kd : IntKind} {b : Nat} {f : Int → Option MV} (m : IMap h kd b f) (e : h'.get b = h.get b) : IMap h' kd b f := by
  obtain ⟨es, h1, h2⟩ := m
  exact ⟨es, e.trans h1, h2⟩

theorem mkMap_eq (h : Hp) (kd : IntKind) : mkMap h = some (some h.size, h.push (.map [])) ∧ IMap (h.push (.map [])) kd h.size fun _ => none :=
  ⟨rfl, [], Hp.get_push_same _ _, (by intro _ he; cases he), fun _ => rfl⟩

theorem look_eq {h : Hp} {kd : IntKind} {b : Nat} {f : Int → Option MV} (m : IMap h kd b f) (k : Int) : mapLook (some b) (.int kd k) h = some (f k, h) := by
  obtain ⟨es, h1, h2, h3⟩ := m
  unfold mapLook
  simp only [bd, mapGet, h1, findK_int h2]
  rw [← h3 k]
  cases idxI kd es k <;> rfl

theorem put_wp {h : Hp} {kd : IntKind} {b : Nat} {f : Int → Option MV} (m : IMap h kd b f) (k : Int) (v : MV) :
    Wp (mapPut (some b) (.int kd k) v) h fun _ h' => IMap h' kd b (fun k' => if k' = k then some v else f k') ∧ h'.size = h.size ∧ ∀ c, c ≠ b → h'.get c = h.get c := by
  obtain ⟨es, h1, h2, h3⟩ := m
  unfold mapPut
  cases hx : idxI kd es k with
  | none =>
    refine w_eq (a := ()) (h' := h.set b (.map (es ++ [(.int kd k, v)]))) ?_ ⟨⟨_, Hp.get_set_same _ _ _, ?_, ?_⟩, rfl, fun c hc => Hp.get_set_ne _ _ hc⟩
    · simp only [h1, findK_int h2, hx]
    · intro e he
      rcases List.mem_append.1 he with he | he
      · exact h2 e he
      · simp at he; subst he; exact ⟨k, rfl⟩
    · intro k'
      rw [idxI_push h2 hx]
      show _ = if k' = k then some v else f k'
      by_cases e : k' = k
      · rw [if_pos e, if_pos e]; rfl
      · rw [if_neg e, if_neg e]; exact h3 k'
  | some x =>
    obtain ⟨i, v0⟩ := x
    refine w_eq (a := ()) (h' := h.set b (.map (es.set i (.int kd k, v)))) ?_ ⟨⟨_, Hp.get_set_same _ _ _, ?_, ?_⟩, rfl, fun c hc => Hp.get_set_ne _ _ hc⟩
    · simp only [h1, findK_int h2, hx]
    · intro e he
      rcases List.mem_or_eq_of_mem_set he with he | he
      · exact h2 e he
      · subst he; exact ⟨k, rfl⟩
    · intro k'
      rw [idxI_set h2 hx]
      show _ = if k' = k then some v else f k'
      by_cases e : k' = k
      · rw [if_pos e, if_pos e]; rfl
      · rw [if_neg e, if_neg e]; exact h3 k'

/-- A slice's cells. -/
def SlIn (h : Hp) (s : Sl) (e : Nat) (cs : List MV) : Prop := cs.length = s.len * e ∧ (cs ≠ [] → ∃ b ro, s.p = some ⟨b, 0⟩ ∧ h.get b = .cells cs ro ∧ b < h.size)

/-- The block of a slice that has cells. -/
def SlB (s : Sl) (cs : List MV) (b : Nat) : Prop := cs ≠ [] ∧ s.p = some ⟨b, 0⟩

theorem SlIn.frame {h h' : Hp} {s : Sl} {e : Nat} {cs : List MV} (k : SlIn h s e cs) (hs : h.size ≤ h'.size) (same : ∀ b, SlB s cs b → h'.get b = h.get b) : SlIn h' s e cs :=
  ⟨k.1, fun hc => by
    obtain ⟨b, ro, h1, h2, h3⟩ := k.2 hc
    exact ⟨b, ro, h1, by rw [same b ⟨hc, h1⟩]; exact h2, Nat.lt_of_lt_of_le h3 hs⟩⟩
theorem SlIn.lt {h : Hp} {s : Sl} {e : Nat} {cs : List MV} (k : SlIn h s e cs) {b : Nat} (hb : SlB s cs b) : b < h.size := by
  obtain ⟨b', ro, h1, _, h3⟩ := k.2 hb.1
  rw [hb.2] at h1
  cases h1
  exact h3

/-- One cell of a slice of single cells. -/
theorem SlIn.one {h : Hp} {s : Sl} {cs : List MV} (k : SlIn h s 1 cs) {i : Nat} (hi : i < s.len) : ∃ b ro, idx 1 s (i : Int) h = some (some ⟨b, i⟩, h) ∧ h.get b = .cells cs ro ∧ i < cs.length := by
  have hl := k.1
  obtain ⟨b, ro, h1, h2, _⟩ := k.2 (by intro c; rw [c] at hl; simp at hl; omega)
  obtain ⟨p, l⟩ := s
  simp only at h1 hi hl
  subst h1
  exact ⟨b, ro, by rw [idx_nat hi]; simp, h2, by omega⟩

theorem SlIn.row {h : Hp} {s : Sl} {e : Nat} {cs : List MV} (k : SlIn h s e cs) (he : 0 < e) {i : Nat} (hi : i < s.len) : ∃ b ro, idx e s (i : Int) h = some (some ⟨b, i * e⟩, h) ∧ h.get b = .cells cs ro ∧ i * e + e ≤ cs.length := by
  have hl := k.1
  have h5 : i * e + e ≤ s.len * e := by
    have := Nat.mul_le_mul_right e (show i + 1 ≤ s.len by omega)
    rw [Nat.add_mul] at this
    omega
  obtain ⟨b, ro, h1, h2, _⟩ := k.2 (by intro c; rw [c] at hl; simp at hl; omega)
  obtain ⟨p, l⟩ := s
  simp only at h1 hi hl h5
  subst h1
  exact ⟨b, ro, by rw [idx_nat hi]; simp, h2, by omega⟩

end Go.Mini
