/- Layer 4: what is assumed of the package variables, and the start. -/
import Derived.Test.YtpejkcmkboegdaaDoorG04
import Derived.Test.YtpejkcmkboegdaaDoorP04b
import Derived.Test.YtpejkcmkboegdaaDoorMVD
import Derived.Test.YtpejkcmkboegdaaDoorRows
import Derived.Test.YtpejkcmkboegdaaDoorTie
import Derived.MakeChecks
import Derived.Lay
import Derived.LaidMore
import Derived.SevenTiedAt
import Derived.Shelf.Vars
import Derived.ProofKit
namespace Go.Proofs.YtpejkcmkboegdaaDoor
open Go.Mini Go.Moat Go.RowKit Go.WideShapes
set_option maxRecDepth 100000

theorem own_knob : ownKnob Tryd.prog.godebug = none := by kernel_rfl
theorem laid_out : laidOutB Tryd.prog = true := by kernel_rfl

abbrev laidL : List (String × DataW Unit) := [("math/bits.deBruijn32tab", Rows.laid_math_bits_deBruijn32tab), ("math/bits.deBruijn64tab", Rows.laid_math_bits_deBruijn64tab), ("internal/strconv.uint64pow10", Rows.laid_internal_strconv_uint64pow10), ("unicode/utf8.acceptRanges", Rows.laid_unicode_utf8_acceptRanges), ("strconv.ErrRange", Rows.laid_strconv_ErrRange), ("strconv.ErrSyntax", Rows.laid_strconv_ErrSyntax), ("unicode/utf8.first", Rows.laid_unicode_utf8_first)]

theorem row_err : ∀ u, Tryd.prog.typeName? 3 u = some "*errors.errorString" → u = 96 :=
  typeName_ptr_named (nm := "errors.errorString") (by kernel_rfl) (by kernel_rfl) (by decide)

/-- What is known of the package variables. -/
theorem vars_open {W : World} (hL : laidMetH Tryd.prog laidL W) (hsh : W.ShapedOpen Tryd.prog) : ∃ (a0 a1 : Addr) (m : Int), a0.spot = none ∧ a1.spot = none ∧
    W.cell? ⟨0, 0, none⟩ = some (.iface 96 (.pointer (some a0))) ∧ W.cell? ⟨1, 0, none⟩ = some (.iface 96 (.pointer (some a1))) ∧ W.cell? ⟨2, 0, none⟩ = some (.int .i64 m) := by
  rw [MakeChecks.laidMetH_plain _ _ _ (by kernel_rfl)] at hL
  have h1 := hL.tail.tail.tail.tail
  obtain ⟨a1, s1, e1, c1, _⟩ := laid_sentinel (P := Tryd.prog) (ti := 42) (tp := 96) (te := 98) (ts := 9) h1 (g := 1) (by kernel_rfl) (by kernel_rfl) Tryd.underlying42 row_err Tryd.underlying96 Tryd.underlying98 rfl rfl Tryd.underlying9 (by kernel_rfl) (by kernel_rfl)
  obtain ⟨a0, s0, e0, c0, _⟩ := laid_sentinel (P := Tryd.prog) (ti := 42) (tp := 96) (te := 98) (ts := 9) h1.tail (g := 0) (by kernel_rfl) (by kernel_rfl) Tryd.underlying42 row_err Tryd.underlying96 Tryd.underlying98 rfl rfl Tryd.underlying9 (by kernel_rfl) (by kernel_rfl)
  obtain ⟨m, hm⟩ := cell_of_shapedOpen_int (P := Tryd.prog) (g := 2) (t := 3) (k := .i64) hsh (of_decide_eq_true (by kernel_rfl)) (zero := #[.int .i64 0]) (by kernel_rfl) rfl (by kernel_rfl) (by kernel_rfl) Tryd.underlying3
  refine ⟨a0, a1, m, cell_spot c0, cell_spot c1, ?_, ?_, hm⟩
  · simpa using World.var?_cell (show Tryd.prog.globalNamed "strconv.ErrSyntax" = some 0 by kernel_rfl) e0 0
  · simpa using World.var?_cell (show Tryd.prog.globalNamed "strconv.ErrRange" = some 1 by kernel_rfl) e1 0

theorem gl_spec (m : Int) : ∃ g : Glob, g.e0 = .iface 96 (.ptr (some ⟨3, 0⟩)) ∧ g.e1 = .iface 96 (.ptr (some ⟨4, 0⟩)) ∧ g.m = m := ⟨⟨.iface 96 (.ptr (some ⟨3, 0⟩)), .iface 96 (.ptr (some ⟨4, 0⟩)), m, rfl, rfl⟩, rfl, rfl, rfl⟩

/-- The blocks of the package variables. -/
theorem gl_has (g : Glob) {h : Hp} (hs : 3 ≤ h.size) (k0 : h.get 0 = .cells [g.e0] true) (k1 : h.get 1 = .cells [g.e1] true) (k2 : h.get 2 = .cells [.int .i64 g.m] true) :
    ∃ q, GlA g q ∧ Has h q ∧ ∀ b, 3 ≤ b → q b = none := by
  let p0 : PH := fun c => if c = 0 then some (.cells [g.e0] true) else none
  let p1 : PH := fun c => if c = 1 then some (.cells [g.e1] true) else none
  let p2 : PH := fun c => if c = 2 then some (.cells [.int .i64 g.m] true) else none
  have d12 : Disj p1 p2 := fun b => by
    by_cases hb : b = 1
    · subst hb; exact .inr rfl
    · exact .inl (if_neg hb)
  have d0 : Disj p0 (un p1 p2) := fun b => by
    by_cases hb : b = 0
    · subst hb; exact .inr rfl
    · exact .inl (if_neg hb)
  have e2 : un p2 (fun _ => none) = p2 := by
    funext b
    unfold un
    cases p2 b <;> rfl
  refine ⟨un p0 (un p1 p2), ⟨p0, un p1 p2, fun _ => rfl, ⟨p1, p2, fun _ => rfl, ⟨p2, fun _ => none, fun _ => rfl, fun _ => rfl, fun _ => .inr rfl, e2.symm⟩, d12, rfl⟩, d0, rfl⟩, ?_, ?_⟩
  · refine (has_un d0).2 ⟨?_, (has_un d12).2 ⟨?_, ?_⟩⟩ <;> intro b x hb
    · dsimp only [p0] at hb
      split at hb
      · rename_i h'; cases hb; subst h'; exact ⟨by omega, k0⟩
      · cases hb
    · dsimp only [p1] at hb
      split at hb
      · rename_i h'; cases hb; subst h'; exact ⟨by omega, k1⟩
      · cases hb
    · dsimp only [p2] at hb
      split at hb
      · rename_i h'; cases hb; subst h'; exact ⟨by omega, k2⟩
      · cases hb
  · intro b hb
    simp only [un, p0, p1, p2]
    rw [if_neg (by omega), if_neg (by omega), if_neg (by omega)]

theorem gl_has' (g : Glob) (m : Int) (x : Blk) (h0 : g.e0 = .iface 96 (.ptr (some ⟨3, 0⟩))) (h1 : g.e1 = .iface 96 (.ptr (some ⟨4, 0⟩))) (h2 : g.m = m) : ∃ q, GlA g q ∧ Has (glHp 96 96 m x) q ∧ ∀ b, 3 ≤ b → q b = none :=
  gl_has g (by rw [glHp_size]; omega) (by rw [glHp_get, h0]; rfl) (by rw [glHp_get, h1]; rfl) (by rw [glHp_get, h2]; rfl)

/-- The law's run, where no memory comes in. -/
theorem run_plain {m : M Bool} (t : ∀ g : Glob, Tri (stars [GlA g]) m fun r => pu (r = true) (stars [GlA g])) (z : Int) : ∃ h', m (glHp 96 96 z .dead) = some (true, h') := by
  obtain ⟨g, h0, h1, h2⟩ := gl_spec z
  obtain ⟨q, hq, hh, _⟩ := gl_has' g z .dead h0 h1 h2
  obtain ⟨r, h', q', hrun, ⟨rfl, _⟩, _⟩ := t g _ q (by rw [stars_one]; exact hq) hh
  exact ⟨h', hrun⟩
end Go.Proofs.YtpejkcmkboegdaaDoor
