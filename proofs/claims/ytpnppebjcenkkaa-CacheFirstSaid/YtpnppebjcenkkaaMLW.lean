/- The laws' own toolkit: what a piece of the small machine's work comes to. -/
import Derived.Test.YtpnppebjcenkkaaMA
import Derived.Test.YtpnppebjcenkkaaMB
namespace Go.Mini

/-- It succeeds, and so. -/
def Wp {α : Type} (m : M α) (h : Hp) (Q : α → Hp → Prop) : Prop := ∃ a h', m h = some (a, h') ∧ Q a h'

section
variable {α β γ : Type} {h : Hp} {Q : β → Hp → Prop}

theorem Wp.mono {m : M α} {Q Q' : α → Hp → Prop} (k : Wp m h Q) (hq : ∀ a h', Q a h' → Q' a h') : Wp m h Q' := by
  obtain ⟨a, h', e, q⟩ := k
  exact ⟨a, h', e, hq a h' q⟩
theorem w_eq {m : M α} {a : α} {h' : Hp} {Q : α → Hp → Prop} (e : m h = some (a, h')) (q : Q a h') : Wp m h Q := ⟨a, h', e, q⟩
theorem w_ret {a : α} {Q : α → Hp → Prop} (q : Q a h) : Wp (ret a) h Q := ⟨a, h, rfl, q⟩
theorem w_bd {m : M α} {f : α → M β} (k : Wp m h fun a h' => Wp (f a) h' Q) : Wp (bd m f) h Q := by
  obtain ⟨a, h', e, b, h2, e2, q⟩ := k
  exact ⟨b, h2, by simp only [bd, e]; exact e2, q⟩
theorem w_bd_eq {m : M α} {f : α → M β} {a : α} {h' : Hp} (e : m h = some (a, h')) (k : Wp (f a) h' Q) : Wp (bd m f) h Q := w_bd ⟨a, h', e, k⟩
theorem w_bd_ret {a : α} {f : α → M β} (k : Wp (f a) h Q) : Wp (bd (ret a) f) h Q := w_bd_eq rfl k
theorem w_if {c : Prop} [Decidable c] {m n : M β} (k : c → Wp m h Q) (l : ¬c → Wp n h Q) : Wp (if c then m else n) h Q := by
  split
  · exact k (by assumption)
  · exact l (by assumption)
theorem w_bd_mono {m : M α} {f : α → M β} {R : α → Hp → Prop} (k : Wp m h R) (l : ∀ a h', R a h' → Wp (f a) h' Q) : Wp (bd m f) h Q := w_bd (k.mono l)

/-- A loop: what holds in each round, and what gets less. -/
theorem w_iter {F : (α → M β) → α → M β} (I : α → Hp → Prop) (μ : α → Nat)
    (step : ∀ x h, I x h → ∀ rec : α → M β, (∀ x' h', I x' h' → μ x' < μ x → Wp (rec x') h' Q) → Wp (F rec x) h Q) : ∀ N x h, I x h → μ x < N → Wp (iter N F x) h Q := by
  intro N
  induction N with
  | zero => intro x h _ hm; omega
  | succ N ih =>
    intro x h hi hm
    exact step x h hi (iter N F) fun x' h' hi' hm' => ih x' h' hi' (by omega)

theorem w_chk {c : Prop} [Decidable c] {h : Hp} (hc : c) : (if c then ret () else fail) h = some ((), h) := by rw [if_pos hc]; rfl

theorem someOr_eq {a : α} (h : Hp) : someOr (some a) h = some (a, h) := rfl

end

@[simp] theorem Hp.get_set_same (h : Hp) (b : Nat) (x : Blk) : (h.set b x).get b = x := by rw [Hp.get_set, if_pos rfl]
theorem Hp.get_set_ne (h : Hp) {b c : Nat} (x : Blk) (e : c ≠ b) : (h.set b x).get c = h.get c := by rw [Hp.get_set, if_neg e]
@[simp] theorem Hp.get_push_same (h : Hp) (x : Blk) : (h.push x).get h.size = x := by rw [Hp.get_push, if_pos rfl]
theorem Hp.get_push_ne (h : Hp) {c : Nat} (x : Blk) (e : c ≠ h.size) : (h.push x).get c = h.get c := by rw [Hp.get_push, if_neg e]
theorem Hp.get_push_lt (h : Hp) {c : Nat} (x : Blk) (e : c < h.size) : (h.push x).get c = h.get c := h.get_push_ne x (by omega)

section
variable {h : Hp} {b o : Nat} {cs : List MV} {ro : Bool}

theorem ldc_eq (hg : h.get b = .cells cs ro) {v : MV} (hv : cs[o]? = some v) : ldc (some ⟨b, o⟩) h = some (v, h) := by
  simp only [ldc, hg, hv]
theorem ldI_eq (hg : h.get b = .cells cs ro) {k : IntKind} {n : Int} (hv : cs[o]? = some (.int k n)) : ldI k (some ⟨b, o⟩) h = some (n, h) := by
  simp only [ldI, bd, ldc_eq hg hv, CTy.dec, if_true, someOr]
theorem ldB_eq (hg : h.get b = .cells cs ro) {n : Bool} (hv : cs[o]? = some (.bool n)) : ldB (some ⟨b, o⟩) h = some (n, h) := by
  simp only [ldB, bd, ldc_eq hg hv, CTy.dec, someOr]
theorem ldS_eq (hg : h.get b = .cells cs ro) {n : List UInt8} (hv : cs[o]? = some (.str n)) : ldS (some ⟨b, o⟩) h = some (n, h) := by
  simp only [ldS, bd, ldc_eq hg hv, CTy.dec, someOr]
theorem ldP_eq (hg : h.get b = .cells cs ro) {n : Option MA} (hv : cs[o]? = some (.ptr n)) : ldP (some ⟨b, o⟩) h = some (n, h) := by
  simp only [ldP, bd, ldc_eq hg hv, CTy.dec, someOr]
theorem ldM_eq (hg : h.get b = .cells cs ro) {n : Option Nat} (hv : cs[o]? = some (.map n)) : ldM (some ⟨b, o⟩) h = some (n, h) := by
  simp only [ldM, bd, ldc_eq hg hv, CTy.dec, someOr]
theorem ldL_eq (hg : h.get b = .cells cs ro) {e l : Nat} {p : Option MA} (hv : cs[o]? = some (.sl p l e)) : ldL e (some ⟨b, o⟩) h = some (⟨p, l⟩, h) := by
  simp only [ldL, bd, ldc_eq hg hv, CTy.dec, if_true, someOr]
theorem ldn_eq (hg : h.get b = .cells cs ro) {n : Nat} (hl : o + n ≤ cs.length) : ldn n (some ⟨b, o⟩) h = some ((cs.drop o).take n, h) := by
  simp only [ldn, hg, hl, if_true]
theorem stc_eq (hg : h.get b = .cells cs false) {v : MV} (hl : o < cs.length) (hc : isCell v = true) : stc (some ⟨b, o⟩) v h = some ((), h.set b (.cells (cs.set o v) false)) := by
  simp only [stc, hg, hl, hc, and_self, if_true]
theorem stn_eq (hg : h.get b = .cells cs false) {n : Nat} {vs : List MV} (hn : vs.length = n) (hl : o + vs.length ≤ cs.length) (hc : vs.all isCell = true) : stn n (some ⟨b, o⟩) vs h = some ((), h.set b (.cells (over cs o vs) false)) := by
  subst hn
  simp only [stn, hg, hl, hc, and_self, if_true]
theorem idx_eq {e l : Nat} {p : MA} {i : Int} (h0 : 0 ≤ i) (h1 : i < l) : idx e ⟨some p, l⟩ i h = some (some ⟨p.blk, p.off + i.toNat * e⟩, h) := by
  simp only [idx, h0, h1, and_self, if_true, ret, MA.add]
theorem idxA_eq {n e : Nat} {p : MA} {i : Int} (h0 : 0 ≤ i) (h1 : i < n) : idxA n e (some p) i h = some (some ⟨p.blk, p.off + i.toNat * e⟩, h) := by
  simp only [idxA, h0, h1, and_self, if_true, ret, MA.add]
theorem idx_nat {e l : Nat} {p : MA} {i : Nat} (h1 : i < l) : idx e ⟨some p, l⟩ (i : Int) h = some (some ⟨p.blk, p.off + i * e⟩, h) := by
  rw [idx_eq (by omega) (by omega)]; simp
theorem idxA_nat {n e : Nat} {p : MA} {i : Nat} (h1 : i < n) : idxA n e (some p) (i : Int) h = some (some ⟨p.blk, p.off + i * e⟩, h) := by
  rw [idxA_eq (by omega) (by omega)]; simp
theorem fld_eq (p : MA) (n : Nat) : fld (some p) n h = some (some ⟨p.blk, p.off + n⟩, h) := rfl
theorem nonNil_eq (p : MA) : nonNil (some p) h = some (some p, h) := rfl
theorem alloc_eq (cs : List MV) : alloc cs h = some (some ⟨h.size, 0⟩, h.push (.cells cs false)) := rfl
theorem slc_eq {e l : Nat} {p : Option MA} {a c : Int} (h0 : 0 ≤ a) (h1 : a ≤ c) (h2 : c ≤ l) : slc e ⟨p, l⟩ a c h = some (⟨p.map (·.add (a.toNat * e)), (c - a).toNat⟩, h) := by
  simp only [slc, h0, h1, h2, and_self, if_true, ret]
theorem slcA_eq (hg : h.get b = .cells cs ro) {n e : Nat} {a c : Int} (h0 : 0 ≤ a) (h1 : a ≤ c) (h2 : c ≤ n) (h3 : o + n * e ≤ cs.length) (h4 : n ≤ most := by decide) : slcA n e (some ⟨b, o⟩) a c h = some (⟨some ⟨b, o + a.toNat * e⟩, (c - a).toNat⟩, h) := by
  simp only [slcA, hg, h0, h1, h2, h3, h4, and_self, if_true, MA.add]

end

/-- What a step leaves: 'fp': the blocks that were its own, 'fp'': those that are. -/
structure Mod (h : Hp) (fp : Nat → Prop) (h' : Hp) (fp' : Nat → Prop) : Prop where
  size : h.size ≤ h'.size
  same : ∀ b, b < h.size → ¬ fp b → h'.get b = h.get b
  own : ∀ b, fp' b → fp b ∨ h.size ≤ b

theorem Mod.refl (h : Hp) (fp : Nat → Prop) : Mod h fp h fp := ⟨Nat.le_refl _, fun _ _ _ => rfl, fun _ hb => .inl hb⟩
theorem Mod.trans {h h1 h2 : Hp} {f f1 f2 : Nat → Prop} (a : Mod h f h1 f1) (b : Mod h1 f1 h2 f2) : Mod h f h2 f2 where
  size := Nat.le_trans a.size b.size
  same := fun c hc hn => by
    rw [b.same c (Nat.lt_of_lt_of_le hc a.size) (fun k => by rcases a.own c k with k | k; exact hn k; omega), a.same c hc hn]
  own := fun c hc => by
    rcases b.own c hc with k | k
    · exact a.own c k
    · exact .inr (Nat.le_trans a.size k)
/-- What lies apart stays, and stays apart. -/
theorem Mod.apart {h h' : Hp} {f f' g : Nat → Prop} (a : Mod h f h' f') (lt : ∀ b, g b → b < h.size) (dis : ∀ b, g b → ¬ f b) : (∀ b, g b → h'.get b = h.get b) ∧ ∀ b, g b → ¬ f' b :=
  ⟨fun b hb => a.same b (lt b hb) (dis b hb), fun b hb hf => by
    rcases a.own b hf with k | k
    · exact dis b hb k
    · have := lt b hb; omega⟩

theorem wr64 {n : Int} (h0 : -9223372036854775808 ≤ n) (h1 : n ≤ 9223372036854775807) : wr .i64 n = n := by
  unfold wr IntKind.wrap IntKind.bits IntKind.signed
  simp only [Bool.true_and]
  have e64 : (2 : Int) ^ 64 = 18446744073709551616 := by decide
  have e63 : (2 : Int) ^ (64 - 1) = 9223372036854775808 := by decide
  rw [e64, e63]
  by_cases hn : 0 ≤ n
  · have h2 : n % 18446744073709551616 = n := Int.emod_eq_of_lt hn (by omega)
    rw [h2, if_neg]
    simp
    omega
  · have h2 : n % 18446744073709551616 = n + 18446744073709551616 := by omega
    rw [h2, if_pos]
    · omega
    · simp
      omega

end Go.Mini
