/- Regions whose order is drawn: blocks that were filled early are set aside, and put back. -/
import Derived.Test.YtpnppebjcenkkaaMX4
namespace Go.Mini
universe u

/-- Some blocks are let go of. -/
theorem HRel.killed {ρ : Rho} {h h1 : Hp} {H : Array Obj} (k : HRel ρ h H) (hs : h1.size = h.size) (hg : ∀ c, h1.get c = h.get c ∨ h1.get c = .dead) : HRel ρ h1 H := by
  have hd : ∀ c, ¬ Dead h1 c → ¬ Dead h c := by
    intro c hc
    unfold Dead at *
    rcases hg c with e | e
    · rwa [← e]
    · exact absurd e hc
  refine ⟨fun b rb e => by rw [hs]; exact k.dom b rb e, fun b hb => k.live b (hd b hb), fun b b' rb rb' e e' hb hb' => k.inj b b' rb rb' e e' (hd b hb) (hd b' hb'), fun b rb e => ?_⟩
  rcases hg b with e' | e'
  · rw [e']; exact k.blk b rb e
  · rw [e']; trivial

theorem killed_own {h h1 : Hp} (hg : ∀ c, h1.get c = h.get c ∨ h1.get c = .dead) {c : Nat} (ho : Own h1 c) : Own h c := by
  unfold Own at *
  rcases hg c with e | e
  · rwa [← e]
  · rw [e] at ho
    rcases ho with ⟨_, h⟩ | ⟨_, h⟩ <;> cases h

theorem killed_foot {ρ : Rho} {h h1 : Hp} (hg : ∀ c, h1.get c = h.get c ∨ h1.get c = .dead) {r : Nat} (f : Foot ρ h1 r) : Foot ρ h r := by
  obtain ⟨c, q, e, ho, rfl⟩ := f
  exact ⟨c, q, e, killed_own hg ho, rfl⟩

theorem killed_liv {ρ : Rho} {h h1 : Hp} (hg : ∀ c, h1.get c = h.get c ∨ h1.get c = .dead) {r : Nat} (f : Liv ρ h1 r) : Liv ρ h r := by
  obtain ⟨c, q, e, ho, rfl⟩ := f
  refine ⟨c, q, e, fun hd => ho ?_, rfl⟩
  unfold Dead at *
  rcases hg c with e | e
  · rwa [e]
  · exact e

/-- A heap out of two. -/
theorem Hp.mix (h g : Hp) (K : Nat → Bool) : ∀ n : Nat, ∃ h' : Hp, h'.size = h.size ∧ ∀ c, h'.get c = if c < n ∧ K c = true then g.get c else h.get c
  | 0 => ⟨h, rfl, fun c => by simp⟩
  | n + 1 => by
    obtain ⟨h', h1, h2⟩ := Hp.mix h g K n
    by_cases hk : K n = true
    · refine ⟨h'.set n (g.get n), h1, fun c => ?_⟩
      rw [Hp.get_set, h2]
      by_cases e : c = n
      · subst e; simp [hk]
      · rw [if_neg e]
        by_cases hc : c < n
        · simp [hc, Nat.lt_succ_of_lt hc]
        · have : ¬ c < n + 1 := by omega
          simp [hc, this]
    · refine ⟨h', h1, fun c => ?_⟩
      rw [h2]
      by_cases e : c = n
      · subst e; simp [hk]
      · by_cases hc : c < n
        · simp [hc, Nat.lt_succ_of_lt hc]
        · have : ¬ c < n + 1 := by omega
          simp [hc, this]

/-- What a step leaves as it was, but the numbers. -/
structure StpC (s s' : S) (ds : List Nat) : Prop where
  ext : Ext s.ρ s'.ρ
  os : s'.w.os = s.w.os
  tape : s'.w.tape = s.w.tape
  output : s'.w.output = s.w.output
  size : s.w.heap.size ≤ s'.w.heap.size
  old : ∀ r, r < s.w.heap.size → ¬ Foot s.ρ s.h r → ¬ Wr s r → s'.w.heap[r]? = s.w.heap[r]?
  foot : ∀ r, Foot s'.ρ s'.h r → Foot s.ρ s.h r ∨ s.w.heap.size ≤ r
  liv : ∀ r, Liv s'.ρ s'.h r → Liv s.ρ s.h r ∨ s.w.heap.size ≤ r
  wr : ∀ r, Wr s' r → Wr s r ∨ s.w.heap.size ≤ r
  pi : ∀ n, n ∉ ds → s'.π n = s.π n
  pi2 : ∀ n, s'.π n = s.π n ∨ s.w.heap.size ≤ s'.π n
  tsz : s'.t.size = s.t.size
  tmp : ∀ i, i ∉ ds → s'.t.getD i undef = s.t.getD i undef

theorem Stp.c {s s' : S} {ds : List Nat} (a : Stp s s' ds) : StpC s s' ds := ⟨a.ext, a.os, a.tape, a.output, a.size, a.old, a.foot, a.liv, a.wr, a.pi, a.pi2, a.tsz, a.tmp⟩
theorem StpC.stp {s s' : S} {ds : List Nat} (a : StpC s s' ds) (g : Grw s.ρ s.h s'.ρ s'.h) : Stp s s' ds := ⟨a.ext, a.os, a.tape, a.output, a.size, g, a.old, a.foot, a.liv, a.wr, a.pi, a.pi2, a.tsz, a.tmp⟩

theorem StpC.trans {s s' s'' : S} {d1 d2 : List Nat} (a : StpC s s' d1) (b : StpC s' s'' d2) : StpC s s'' (d1 ++ d2) where
  ext := a.ext.trans b.ext
  os := b.os.trans a.os
  tape := b.tape.trans a.tape
  output := b.output.trans a.output
  size := Nat.le_trans a.size b.size
  old := fun r hr hf hw => (b.old r (Nat.lt_of_lt_of_le hr a.size) (fun k => by
    rcases a.foot r k with k | k
    · exact hf k
    · omega) (fun k => by
    rcases a.wr r k with k | k
    · exact hw k
    · omega)).trans (a.old r hr hf hw)
  foot := fun r k => by
    rcases b.foot r k with k | k
    · exact a.foot r k
    · exact .inr (Nat.le_trans a.size k)
  liv := fun r k => by
    rcases b.liv r k with k | k
    · exact a.liv r k
    · exact .inr (Nat.le_trans a.size k)
  wr := fun r k => by
    rcases b.wr r k with k | k
    · exact a.wr r k
    · exact .inr (Nat.le_trans a.size k)
  pi := fun n hn => (b.pi n (fun c => hn (List.mem_append_right _ c))).trans (a.pi n (fun c => hn (List.mem_append_left _ c)))
  pi2 := fun n => by
    rcases b.pi2 n with k | k
    · rw [k]; exact a.pi2 n
    · exact .inr (Nat.le_trans a.size k)
  tsz := b.tsz.trans a.tsz
  tmp := fun i hi => (b.tmp i (fun c => hi (List.mem_append_right _ c))).trans (a.tmp i (fun c => hi (List.mem_append_left _ c)))

theorem StpC.mono {s s' : S} {d1 d2 : List Nat} (a : StpC s s' d1) (h : ∀ x ∈ d1, x ∈ d2) : StpC s s' d2 :=
  { a with pi := fun n hn => a.pi n fun c => hn (h n c), tmp := fun i hi => a.tmp i fun c => hi (h i c) }

/-- Blocks are set aside. -/
theorem Ok.killed {s : S} (ok : Ok s) {h1 : Hp} (hs : h1.size = s.h.size) (hg : ∀ c, h1.get c = s.h.get c ∨ h1.get c = .dead) : Ok { s with h := h1 } :=
  ⟨ok.heap.killed hs hg, ok.slots, fun n pv b e => ⟨(ok.priv n pv b e).1, fun f => (ok.priv n pv b e).2 (killed_liv hg f)⟩, ok.pinj⟩

/-- .. and put back, behind a step that had nothing of them. 'K': those that were set aside. -/
theorem put_back {s s2 : S} (ok : Ok s) {h1 : Hp} (hg : ∀ c, h1.get c = s.h.get c ∨ h1.get c = .dead) {ds : List Nat} (ok2 : Ok s2) (st : StpC { s with h := h1 } s2 ds)
    (hp : ∀ n pv b, look s2.fr.p n = some (pv, b) → ∃ qv c, look s.fr.p n = some (qv, c)) (K : Nat → Bool) (hK : ∀ c, K c = true → h1.get c = .dead) (h3 : Hp) (hs3 : h3.size = s2.h.size)
    (hg3 : ∀ c, h3.get c = if K c = true then s.h.get c else s2.h.get c) :
    Ok { s2 with h := h3 } ∧ StpC s { s2 with h := h3 } ds ∧ ∀ c, K c = true → s.h.get c ≠ .dead → s2.h.get c = .dead := by
  -- a living block that was set aside
  have aside : ∀ c, K c = true → ¬ Dead s.h c → ∃ rb, s.ρ c = some rb ∧ s2.ρ c = some rb ∧ rb.r < s.w.heap.size ∧ ¬ Liv s.ρ h1 rb.r ∧ ¬ Liv s2.ρ s2.h rb.r := by
    intro c hc hd
    obtain ⟨rb, e⟩ := ok.heap.live c hd
    have hlt := ok.heap.lt e hd
    have hn1 : ¬ Liv s.ρ h1 rb.r := by
      rintro ⟨c', q, e', hd', hr⟩
      have hne : c' ≠ c := fun x => hd' (by unfold Dead; rw [x]; exact hK c hc)
      have hd2 : ¬ Dead s.h c' := by
        unfold Dead at *
        rcases hg c' with k | k
        · rwa [← k]
        · exact absurd k hd'
      exact ok.heap.inj c' c q rb e' e hd2 hd hne hr
    refine ⟨rb, e, st.ext c rb e, hlt, hn1, fun f => ?_⟩
    rcases st.liv _ f with f | f
    · exact hn1 f
    · have : s.w.heap.size ≤ rb.r := f
      omega
  have hdead2 : ∀ c, K c = true → s.h.get c ≠ .dead → s2.h.get c = .dead := by
    intro c hc hd
    obtain ⟨rb, e1, e2, _, _, hn⟩ := aside c hc hd
    by_cases hd2 : s2.h.get c = .dead
    · exact hd2
    · exact absurd ⟨c, rb, e2, hd2, rfl⟩ hn
  have hlive : ∀ c, ¬ Dead h3 c → (K c = true ∧ ¬ Dead s.h c) ∨ (K c = false ∧ ¬ Dead s2.h c) := by
    intro c hd
    unfold Dead at *
    rw [hg3] at hd
    cases hk : K c with
    | true => rw [hk, if_pos rfl] at hd; exact .inl ⟨rfl, hd⟩
    | false => rw [hk, if_neg (by simp)] at hd; exact .inr ⟨rfl, hd⟩
  have heap3 : HRel s2.ρ h3 s2.w.heap := by
    refine ⟨fun b rb e => by rw [hs3]; exact ok2.heap.dom b rb e, fun b hb => ?_, fun b b' rb rb' e e' hb hb' hne => ?_, fun b rb e => ?_⟩
    · rcases hlive b hb with ⟨hk, hd⟩ | ⟨_, hd⟩
      · obtain ⟨rb, _, e2, _⟩ := aside b hk hd
        exact ⟨rb, e2⟩
      · exact ok2.heap.live b hd
    · rcases hlive b hb with ⟨hk, hd⟩ | ⟨hk, hd⟩ <;> rcases hlive b' hb' with ⟨hk', hd'⟩ | ⟨hk', hd'⟩
      · obtain ⟨q, e1, e2, _⟩ := aside b hk hd
        obtain ⟨q', e1', e2', _⟩ := aside b' hk' hd'
        rw [e] at e2; rw [e'] at e2'
        cases e2; cases e2'
        exact ok.heap.inj b b' _ _ e1 e1' hd hd' hne
      · obtain ⟨q, e1, e2, _, _, hn⟩ := aside b hk hd
        rw [e] at e2
        cases e2
        exact fun hr => hn ⟨b', rb', e', hd', hr.symm⟩
      · obtain ⟨q, e1, e2, _, _, hn⟩ := aside b' hk' hd'
        rw [e'] at e2
        cases e2
        exact fun hr => hn ⟨b, rb, e, hd, hr⟩
      · exact ok2.heap.inj b b' rb rb' e e' hd hd' hne
    · rw [hg3]
      cases hk : K b with
      | false => rw [if_neg (by simp)]; exact ok2.heap.blk b rb e
      | true =>
        rw [if_pos rfl]
        by_cases hd : Dead s.h b
        · unfold Dead at hd; rw [hd]; trivial
        · obtain ⟨q, e1, e2, hlt, hn1, _⟩ := aside b hk hd
          rw [e] at e2
          cases e2
          refine ((ok.heap.blk b rb e1).heap (st.old _ hlt (fun f => hn1 f.liv) ?_)).mono st.ext
          rintro ⟨n, pv, hn, hr⟩
          have hr2 : s.π n = rb.r := hr
          exact (ok.priv n pv true hn).2 ⟨b, rb, e1, hd, hr2.symm⟩
  refine ⟨⟨heap3, ok2.slots, fun n pv b e => ⟨(ok2.priv n pv b e).1, ?_⟩, ok2.pinj⟩, ?_, hdead2⟩
  · rintro ⟨c, q, ec, hd, hr⟩
    have hr2 : q.r = s2.π n := hr
    rcases hlive c hd with ⟨hk, hd2⟩ | ⟨_, hd2⟩
    · obtain ⟨rb, e1, e2, hlt, _⟩ := aside c hk hd2
      have ec' : s2.ρ c = some q := ec
      rw [ec'] at e2
      cases e2
      rcases st.pi2 n with h | h
      · have h' : s2.π n = s.π n := h
        obtain ⟨qv, c', hq⟩ := hp n pv b e
        exact (ok.priv n qv c' hq).2 ⟨c, q, e1, hd2, hr2.trans h'⟩
      · have h' : s.w.heap.size ≤ s2.π n := h
        omega
    · exact (ok2.priv n pv b e).2 ⟨c, q, ec, hd2, hr⟩
  · refine ⟨st.ext, st.os, st.tape, st.output, st.size, fun r hr hf hw => st.old r hr (fun f => hf (killed_foot hg f)) hw, ?_, ?_, st.wr, st.pi, st.pi2, st.tsz, st.tmp⟩
    · rintro r ⟨c, q, ec, ho, rfl⟩
      have ho' : Own h3 c := ho
      rcases hlive c ho'.live with ⟨hk, hd⟩ | ⟨hk, hd⟩
      · obtain ⟨rb, e1, e2, _⟩ := aside c hk hd
        have ec' : s2.ρ c = some q := ec
        rw [ec'] at e2
        cases e2
        refine .inl ⟨c, q, e1, ?_, rfl⟩
        unfold Own at *
        rw [hg3, hk, if_pos rfl] at ho'
        exact ho'
      · have ho2 : Own s2.h c := by
          unfold Own at *
          rw [hg3, hk, if_neg (by simp)] at ho'
          exact ho'
        rcases st.foot q.r ⟨c, q, ec, ho2, rfl⟩ with f | f
        · exact .inl (killed_foot hg f)
        · exact .inr f
    · rintro r ⟨c, q, ec, hd0, rfl⟩
      have hd0' : ¬ Dead h3 c := hd0
      rcases hlive c hd0' with ⟨hk, hd⟩ | ⟨hk, hd⟩
      · obtain ⟨rb, e1, e2, _⟩ := aside c hk hd
        have ec' : s2.ρ c = some q := ec
        rw [ec'] at e2
        cases e2
        exact .inl ⟨c, q, e1, hd, rfl⟩
      · rcases st.liv q.r ⟨c, q, ec, hd, rfl⟩ with f | f
        · exact .inl (killed_liv hg f)
        · exact .inr f

end Go.Mini
