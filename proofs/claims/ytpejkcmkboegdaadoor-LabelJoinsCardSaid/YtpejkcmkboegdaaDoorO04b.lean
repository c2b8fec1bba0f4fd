/- Layer 4: a slice of ints that came in. -/
import Derived.Test.YtpejkcmkboegdaaDoorO04
import Derived.Test.YtpejkcmkboegdaaDoorL04c
namespace Go.Proofs.YtpejkcmkboegdaaDoor
open Go.Mini Go.Moat Go.RowKit Go.WideShapes
set_option maxRecDepth 100000

theorem slice_gl {H : Type} {enc : TypeId × Value → H} {W : World} {r : Reach} {base : Nat} {v : Value} {dd : DataW H} {ps : List MemPlace} (h : DataW.Trod enc Tryd.prog W 0 (fun _ => true) true 31 v dd ps) (hv : Value.okWide Tryd.prog W r base 31 v) (a0 a1 : Addr) :
    ∃ (ks : List Int) (s : Sl) (x : Blk) (rb : RB), BRel (glRho a0 a1 rb) rb x W.heap ∧ (∀ cs, x ≠ .cells cs false) ∧ (∀ es, x ≠ .map es) ∧ VRel (glRho a0 a1 rb) (.sl s.p s.len 1) v ∧ ((ks = [] ∧ s.len = 0) ∨ (s.p = some ⟨5, 0⟩ ∧ s.len = ks.length ∧ x = .cells (ints ks) true)) := by
  obtain ⟨xs, s, x, rb, h1, _, h2, h3, h4, h5, h6, _⟩ := slice_raw (P := Tryd.prog) (t := 31) (E := 3) (by kernel_rfl) (d := 3) (cts := [.int .i64]) (by kernel_rfl) (by kernel_rfl) (by decide) h (slice_shape (P := Tryd.prog) (E := 3) (by kernel_rfl) hv)
  obtain ⟨ks, hks⟩ : ∃ ks : List Int, ks = xs := ⟨xs, rfl⟩
  subst hks
  have sl5 : ∀ n, VRel (oneRho rb) (.sl s.p n 1) v → VRel (glRho a0 a1 rb) (.sl (s.p.map fun a => ⟨5, a.off⟩) n 1) v := by
    intro n hr
    cases hp : s.p with
    | none =>
      rw [hp] at hr
      cases hr
      exact .slNil _
    | some a =>
      rw [hp] at hr
      cases hr with
      | sl _ rb' _ _ cap ra hb hl hc hm =>
        unfold oneRho at hb
        split at hb
        · cases hb
          exact .sl ⟨5, a.off⟩ rb _ _ cap ra rfl hl hc hm
        · cases hb
  by_cases hk : ks = []
  · subst hk
    exact ⟨[], ⟨s.p.map fun a => ⟨5, a.off⟩, s.len⟩, .dead, rb, trivial, fun _ => by simp, fun _ => by simp, sl5 _ h6, .inl ⟨rfl, h1⟩⟩
  · obtain ⟨g1, g2⟩ := h2 hk
    have e : rowsOf [.int .i64] ks = ints ks := rows_int .i64 ks
    refine ⟨ks, ⟨s.p.map fun a => ⟨5, a.off⟩, s.len⟩, x, rb, ?_, h4, h5, sl5 _ h6, .inr ⟨by rw [g1]; rfl, h1, by rw [g2, e]⟩⟩
    rw [g2, e] at h3 ⊢
    obtain ⟨c, el, fz, k1, k2, k3, k4, k5⟩ := h3
    refine ⟨c, el, fz, k1, k2, k3, fun i m hm => ?_, k5⟩
    obtain ⟨y, y1, y2⟩ := k4 i m hm
    refine ⟨y, y1, ?_⟩
    unfold ints at hm
    rw [List.getElem?_map, Option.map_eq_some_iff] at hm
    obtain ⟨z, _, rfl⟩ := hm
    cases y2
    exact .int _ _

/-- The law's run, where a slice comes in. -/
theorem run_slice {m : M Bool} {ks : List Int} {s : Sl} {x : Blk} (hx : (ks = [] ∧ s.len = 0) ∨ (s.p = some ⟨5, 0⟩ ∧ s.len = ks.length ∧ x = .cells (ints ks) true))
    (t : ∀ (g : Glob) (T : HA), RdI T s ks → Tri (stars [GlA g, T]) m fun r => pu (r = true) (stars [GlA g])) (z : Int) : ∃ h', m (glHp 96 96 z x) = some (true, h') := by
  obtain ⟨g, h0, h1, h2⟩ := gl_spec z
  obtain ⟨q, hq, hh, hno⟩ := gl_has' g z x h0 h1 h2
  rcases hx with ⟨rfl, hl⟩ | ⟨hp, hl, rfl⟩
  · have hr : RdI emp s [] := fun h q _ _ => ⟨hl, fun i hi => by simp at hi⟩
    obtain ⟨r, h', q', hrun, ⟨rfl, _⟩, _⟩ := t g emp hr _ q (by
      show star (GlA g) (stars [emp]) q
      rw [stars_one, star_emp]
      exact hq) hh
    exact ⟨h', hrun⟩
  · obtain ⟨p, ln⟩ := s
    dsimp only at hp hl
    subst hp
    let p5 : PH := fun c => if c = 5 then some (.cells (ints ks) true) else none
    have d : Disj q p5 := fun b => by
      by_cases hb : b = 5
      · subst hb; exact .inl (hno 5 (by omega))
      · exact .inr (if_neg hb)
    have hh5 : Has (glHp 96 96 z (.cells (ints ks) true)) p5 := by
      intro b y hb
      dsimp only [p5] at hb
      split at hb
      · rename_i h'
        cases hb
        subst h'
        exact ⟨by rw [glHp_size]; omega, by rw [glHp_get]; rfl⟩
      · cases hb
    have hr : RdI (pts 5 (.cells (ints ks) true)) ⟨some ⟨5, 0⟩, ln⟩ ks := rd_pts (o := 0) hl (by rw [List.drop_zero]; exact List.take_of_length_le (by rw [ints_len]; omega)) (by rw [ints_len]; omega)
    obtain ⟨r, h', q', hrun, ⟨rfl, _⟩, _⟩ := t g _ hr _ (un q p5) (by
      show star (GlA g) (stars [pts 5 (.cells (ints ks) true)]) _
      rw [stars_one]
      exact ⟨q, p5, hq, fun _ => rfl, d, rfl⟩) ((has_un d).2 ⟨hh, hh5⟩)
    exact ⟨h', hrun⟩
end Go.Proofs.YtpejkcmkboegdaaDoor
