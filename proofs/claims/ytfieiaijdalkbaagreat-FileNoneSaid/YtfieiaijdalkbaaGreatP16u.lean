/- Layer 16: the blocks of files, in plain words. -/
import Derived.Test.YtfieiaijdalkbaaGreatP16n
namespace Go.Moat
open Go.Mini
structure VOk (g : Geo) (V : VolS) : Prop where
 inv : Inv g V.n.m
 re : ∀ b : Nat, b < g.B → V.readE g b = 0
 zero : ∀ b : Nat, b < g.B → getBit V.n.m.used b = false → V.readB g b = zeros64
structure Keeps (V V' : VolS) : Prop where
 disk : V'.disk = V.disk
 seq : V'.seq = V.seq
 safe : V'.safe = V.safe
 before : V'.before = V.before
 dead : V'.dead = V.dead
section
variable {V : VolS} {g : Geo} {m : MetaS}
theorem readE_write (b : Nat) (bs : List UInt8) (c : Nat) (hc : c < g.B) (h : V.readE g c = 0) : (V.write g b bs).readE g c = 0 := by
 unfold VolS.readE VolS.write NowS.write at *
 dsimp only at *
 rw [if_pos (by omega)] at h ⊢
 rw [getA_put]
 by_cases e : (c : Int) = b
 ·rw [if_pos e]
 ·rw [if_neg e]; exact h
theorem readB_write (b : Nat) (bs : List UInt8) (c : Nat) : (V.write g b bs).readB g c = if c = b then bs else V.readB g c := by
 unfold VolS.readB VolS.write NowS.write
 dsimp only
 rw [getA_put]
 by_cases e : c = b
 ·rw [if_pos (by omega), if_pos e]
 ·rw [if_neg (by omega), if_neg e]
theorem VOk.wM (h : VOk g V) {m : MetaS} (hm : Inv g m) (hu : ∀ b, b < g.B → getBit m.used b = false → getBit V.n.m.used b = false) : VOk g (V.wM m) :=
 ⟨hm, h.re, fun b hb hz => h.zero b hb (hu b hb hz)⟩
theorem keeps_wM (V : VolS) (m : MetaS) : Keeps V (V.wM m) := ⟨rfl, rfl, rfl, rfl, rfl⟩
theorem keeps_write (V : VolS) (b : Nat) (bs : List UInt8) : Keeps V (V.write g b bs) := ⟨rfl, rfl, rfl, rfl, rfl⟩
theorem keeps_rfl (V : VolS) : Keeps V V := ⟨rfl, rfl, rfl, rfl, rfl⟩
theorem VOk.write (h : VOk g V) {b : Nat} (hb : b < g.B) (hbit : getBit V.n.m.used b = true) (bs : List UInt8) : VOk g (V.write g b bs) := by
 refine ⟨h.inv, fun c hc => readE_write b bs c hc (h.re c hc), fun c hc hz => ?_⟩
 have hz' : getBit V.n.m.used c = false := hz
 rw [readB_write, if_neg (by rintro rfl; rw [hbit] at hz'; cases hz')]
 exact h.zero c hc hz'
theorem alloc_used {m : MetaS} (hg : g.ok) (h : Inv g m) (a : Nat) : ∀ b, b < g.B → getBit (m.alloc g a).2.used b = false → getBit m.used b = false := by
 intro b hb
 have hul := h.ok.usedl
 have hgp := hg.gp
 have hB : g.B = g.G * g.P := rfl
 have key : ∀ c, c < g.B → getBit (setBit m.used c true) b = false → getBit m.used b = false := by
  intro c hc
  rw [getBit_set (by omega)]
  split
  ·intro h; cases h
  ·exact id
 unfold MetaS.alloc
 cases hat : m.atB g a with
 | some c =>
  dsimp only
  unfold MetaS.atB at hat
  split at hat
  ·rw [List.find?_range'_eq_some] at hat
   have := List.mem_range'_1.1 hat.2.1
   exact key c (by omega)
  ·cases hat
 | none =>
  dsimp only
  cases hfr : m.own.findIdx? isNone0 with
  | none => exact id
  | some k =>
   dsimp only
   split
   ·have hk := (List.findIdx?_eq_some_iff_getElem.1 hfr).1
    rw [h.ok.ownl] at hk
    have hb : k * g.P + g.P ≤ g.G * g.P := flat_bound hk
    have := hg.p1
    exact key (k * g.P) (by omega)
   ·exact id
theorem alloc_ok {m : MetaS} (hg : g.ok) (h : Inv g m) {a : Nat} (h0 : (m.alloc g a).1.2 = 0) : ∃ b : Nat, (m.alloc g a).1.1 = b ∧ b < g.B ∧ getBit m.used b = false ∧ (m.alloc g a).2.used = setBit m.used b true := by
 have hB : g.B = g.G * g.P := rfl
 have hp1 := hg.p1
 unfold MetaS.alloc at h0 ⊢
 cases hat : m.atB g a with
 | some c =>
  rw [hat] at h0
  dsimp only
  unfold MetaS.atB at hat
  split at hat
  ·rw [List.find?_range'_eq_some] at hat
   have h1 := List.mem_range'_1.1 hat.2.1
   have h2 := hat.1
   unfold MetaS.isAt at h2
   simp only [Bool.and_eq_true] at h2
   exact ⟨c, rfl, by omega, by simpa using h2.2, rfl⟩
  ·cases hat
 | none =>
  rw [hat] at h0
  dsimp only at h0 ⊢
  cases hfr : m.own.findIdx? isNone0 with
  | none => rw [hfr] at h0; simp at h0
  | some k =>
   rw [hfr] at h0
   dsimp only at h0 ⊢
   by_cases hE : retE m.rows a = 0
   ·rw [if_pos hE]
    obtain ⟨hk, hk0, _⟩ := List.findIdx?_eq_some_iff_getElem.1 hfr
    have hkG : k < g.G := by rw [← h.ok.ownl]; exact hk
    have hb : k * g.P + g.P ≤ g.G * g.P := flat_bound hkG
    refine ⟨k * g.P, rfl, by omega, ?_, rfl⟩
    cases hbit : getBit m.used (k * g.P) with
    | false => rfl
    | true =>
     have := (h.grp k hkG).2 ⟨k * g.P, Nat.le_refl _, by rw [Nat.add_mul]; omega, hbit⟩
     rw [List.getElem?_eq_getElem hk] at this
     unfold isNone0 at hk0
     simp at hk0
     rw [hk0] at this
     simp at this
   ·rw [if_neg hE] at h0
    exact absurd h0 hE
theorem newV_ok (hg : g.ok) : VOk g (newV g) := by
 have inv := newM_inv g
 have hga : g.all = g.blk + g.B := rfl
 have hblk : g.blk = 4 + g.J + g.I / 2 := rfl
 refine ⟨inv, fun b hb => ?_, fun b hb _ => ?_⟩
 ·unfold VolS.readE
  rw [if_pos (by omega)]
  show getE (fmtD g) ((g.blk : Int) + b) = 0
  rw [show ((g.blk : Int) + b) = ((g.blk + b : Nat) : Int) by simp]
  exact getE_ok rfl (by rw [fmt_len]; omega)
 ·unfold VolS.readB
  show (getS (fmtD g) ((g.blk : Int) + b)).b = zeros64
  rw [show ((g.blk : Int) + b) = ((g.blk + b : Nat) : Int) by simp, getS_fmt (by omega) (by omega)]
  rfl
end
def kid (s j : Nat) : Nat := if s = 8 then 9 + j else if s = 41 then (if j = 0 then 42 else 75) else 43 + j
def dep (s : Nat) : Nat := if s = 41 then 2 else if s = 8 ∨ s = 42 then 1 else 0
abbrev below (c s : Nat) : Prop := (c = 8 ∧ 9 ≤ s ∧ s ≤ 40) ∨ (c = 41 ∧ 42 ≤ s ∧ s ≤ 74) ∨ (c = 42 ∧ 43 ≤ s ∧ s ≤ 74)
def kids (p : Nat → Nat) (s : Nat) : List Nat := (List.range 32).map fun j => p (kid s j)
abbrev Tree := Nat → Nat → Nat
def put (T : Tree) (i s x : Nat) : Tree := fun j t => if j = i ∧ t = s then x else T j t
theorem kids_len (p : Nat → Nat) (s : Nat) : (kids p s).length = 32 := by simp [kids]
theorem kids_get (p : Nat → Nat) (s : Nat) {j : Nat} (hj : j < 32) : (kids p s)[j]? = some (p (kid s j)) := by simp [kids, hj]
theorem kids_eq {p q : Nat → Nat} {s : Nat} (h : ∀ j, j < 32 → p (kid s j) = q (kid s j)) : kids p s = kids q s :=
 List.map_congr_left fun j hj => h j (List.mem_range.1 hj)
theorem dep_cases {s : Nat} (h : dep s ≠ 0) : s = 8 ∨ s = 41 ∨ s = 42 := by
 unfold dep at h
 split at h
 ·omega
 ·split at h
  ·omega
  ·exact absurd rfl h
theorem kid_below {s j : Nat} (h : dep s ≠ 0) (hj : j < 32) (hk : kid s j < 75) : below s (kid s j) := by
 rcases dep_cases h with rfl | rfl | rfl <;> simp [kid, below] at hk ⊢
 ·omega
 ·split at hk <;> simp_all
 ·omega
theorem kid_inj {s j s' j' : Nat} (h : dep s ≠ 0) (h' : dep s' ≠ 0) (hj : j < 32) (hj' : j' < 32) (hk : kid s j < 75) (e : kid s j = kid s' j') : s = s' ∧ j = j' := by
 rcases dep_cases h with rfl | rfl | rfl <;> rcases dep_cases h' with rfl | rfl | rfl <;> simp [kid] at hk e ⊢ <;> (repeat' split at hk) <;> (repeat' split at e) <;> omega
theorem kid_dep {s j : Nat} (h : dep s ≠ 0) (hj : j < 32) (hk : kid s j < 75) : dep s = dep (kid s j) + 1 := by
 rcases dep_cases h with rfl | rfl | rfl <;> simp [kid] at hk ⊢
 ·have : dep (9 + j) = 0 := by unfold dep; rw [if_neg (by omega), if_neg (by omega)]
  rw [this]; rfl
 ·split at hk
  ·rename_i e; rw [if_pos e]; rfl
  ·omega
 ·have : dep (43 + j) = 0 := by unfold dep; rw [if_neg (by omega), if_neg (by omega)]
  rw [this]; rfl
theorem kid_lt (s : Nat) {j : Nat} (hj : j < 32) : kid s j < 76 := by
 unfold kid
 split
 ·omega
 ·split
  ·split <;> omega
  ·omega
def bk (g : Geo) (V : VolS) (p : Nat) : List UInt8 := if p = 0 then zeros64 else V.readB g ((p - 1 : Nat) : Int)
structure FS (g : Geo) (V : VolS) (T P : Tree) : Prop where
 ok : VOk g V
 le : ∀ i s, T i s ≤ g.B
 out : ∀ i s, 75 ≤ s → T i s = 0
 inj : ∀ i s j t, T i s ≠ 0 → T i s = T j t → i = j ∧ s = t
 used : ∀ i s, T i s ≠ 0 → getBit V.n.m.used (T i s - 1) = true
 tab : ∀ i s, dep s ≠ 0 → IsTab g V (T i s) (kids (P i) s)
 l64 : ∀ b : Nat, b < g.B → (V.readB g b).length = 64
 pout : ∀ i, P i 75 = 0
theorem tabB0 : tabB (List.replicate 32 0) = zeros64 := by decide
section
variable {V : VolS} {g : Geo} {T P P' : Tree} {i s : Nat}
theorem FS.congr (h : FS g V T P) (e : ∀ i s, dep s ≠ 0 → ∀ j, j < 32 → P' i (kid s j) = P i (kid s j)) : FS g V T P' :=
 ⟨h.ok, h.le, h.out, h.inj, h.used, fun i s hd => by rw [kids_eq (e i s hd)]; exact h.tab i s hd, h.l64, fun i => (e i 41 (by decide) 1 (by omega)).trans (h.pout i)⟩
theorem FS.pos (h : FS g V T P) (hz : T i s ≠ 0) : s < 75 := by
 apply Decidable.byContradiction
 intro hs
 exact hz (h.out i s (by omega))
theorem FS.num (h : FS g V T P) (hg : g.ok) (i s : Nat) : T i s ≤ 512 := Nat.le_trans (h.le i s) hg.gp
theorem FS.kid0 (h : FS g V T P) (hd : dep s ≠ 0) (hz : T i s = 0) {j : Nat} (hj : j < 32) : P i (kid s j) = 0 := by
 have h1 := (h.tab i s hd).2
 rw [if_pos hz] at h1
 have h2 := kids_get (P i) s hj
 rw [h1] at h2
 rw [List.getElem?_replicate, if_pos hj] at h2
 exact (Option.some.inj h2).symm
theorem isTab_congr {V V' : VolS} {p : Nat} {ps : List Nat} (h : IsTab g V p ps) (e : p ≠ 0 → V'.readE g ((p - 1 : Nat) : Int) = V.readE g ((p - 1 : Nat) : Int) ∧ V'.readB g ((p - 1 : Nat) : Int) = V.readB g ((p - 1 : Nat) : Int)) : IsTab g V' p ps := by
 refine ⟨h.1, ?_⟩
 have h2 := h.2
 by_cases hp : p = 0
 ·rw [if_pos hp] at h2 ⊢; exact h2
 ·rw [if_neg hp] at h2 ⊢
  rw [(e hp).1, (e hp).2]
  exact h2
theorem FS.alloc (h : FS g V T P) (hg : g.ok) {a : Nat} (ha : a < 65536) (hE : (V.n.m.alloc g a).1.2 = 0) (hs : s < 75) (hz : T i s = 0) :
  ∃ b : Nat, (V.n.m.alloc g a).1.1 = b ∧ b < g.B ∧ V.readB g b = zeros64 ∧ FS g (V.wM (V.n.m.alloc g a).2) (put T i s (b + 1)) P ∧ (∀ j t, T j t ≠ b + 1) := by
 obtain ⟨b, eb, hb, hbit, eu⟩ := alloc_ok hg h.ok.inv hE
 have hu := h.ok.inv.ok.usedl
 have hgp := hg.gp
 have hB : g.B = g.G * g.P := rfl
 have hfree : ∀ j t, T j t ≠ b + 1 := fun j t e => by
  have := h.used j t (by omega)
  rw [e, Nat.add_sub_cancel, hbit] at this
  cases this
 have hzb := h.ok.zero b hb hbit
 refine ⟨b, eb, hb, hzb, ⟨h.ok.wM (alloc_inv hg h.ok.inv ha) (alloc_used hg h.ok.inv a), fun j t => ?_, fun j t ht => ?_, fun j t j' t' h0 e => ?_, fun j t h0 => ?_, fun j t hd => ?_, h.l64, h.pout⟩, hfree⟩
 ·unfold put
  split
  ·omega
  ·exact h.le j t
 ·unfold put
  rw [if_neg (by omega)]
  exact h.out j t ht
 ·unfold put at h0 e
  split at e <;> split at e
  ·omega
  ·exact absurd e.symm (hfree _ _)
  ·exact absurd e (hfree _ _)
  ·rename_i n1 _
   rw [if_neg n1] at h0
   exact h.inj _ _ _ _ h0 e
 ·have e1 : (V.wM (V.n.m.alloc g a).2).n.m.used = setBit V.n.m.used b true := eu
  rw [e1, getBit_set (by omega)]
  unfold put at h0 ⊢
  split
  ·rw [Nat.add_sub_cancel, if_pos rfl]
  ·rename_i n1
   rw [if_neg n1] at h0
   rw [h.used _ _ h0]
   split <;> rfl
 ·unfold put
  split
  ·rename_i e
   obtain ⟨rfl, rfl⟩ := e
   have h1 := h.tab j t hd
   refine ⟨h1.1, ?_⟩
   have h2 := h1.2
   rw [if_pos hz] at h2
   rw [if_neg (by omega), h2, Nat.add_sub_cancel]
   exact ⟨h.ok.re b hb, by rw [tabB0]; exact hzb⟩
  ·exact h.tab j t hd
theorem FS.wtab (h : FS g V T P) (hg : g.ok) (hd : dep s ≠ 0) (hz : T i s ≠ 0) (hP : ∀ k, k < 32 → P' i (kid s k) ≤ 512) (e : ∀ j t, t < 76 → (j = i → ∀ k, k < 32 → t ≠ kid s k ∨ t = 75) → P' j t = P j t) : FS g (V.write g (T i s - 1) (tabB (kids (P' i) s))) T P' := by
 have hb := h.le i s
 have tok : TabOk (kids (P' i) s) := ⟨kids_len _ _, fun p hp => by
  unfold kids at hp
  obtain ⟨k, hk, rfl⟩ := List.mem_map.1 hp
  exact hP _ (List.mem_range.1 hk)⟩
 refine ⟨h.ok.write (by omega) (h.used i s hz) _, h.le, h.out, h.inj, h.used, fun j t ht => ?_, fun b hb => by
  rw [readB_write]
  split
  ·exact tabB_len tok
  ·exact h.l64 b hb, fun j => (e j 75 (by omega) fun _ _ _ => .inr rfl).trans (h.pout j)⟩
 by_cases hjt : j = i ∧ t = s
 ·obtain ⟨rfl, rfl⟩ := hjt
  refine ⟨tok, ?_⟩
  ·rw [if_neg hz]
   exact ⟨readE_write _ _ _ (by omega) (h.ok.re _ (by omega)), by rw [readB_write, if_pos rfl]⟩
 ·have e1 : kids (P' j) t = kids (P j) t := kids_eq fun k hk => e _ _ (kid_lt t hk) fun ej k' hk' => by
   apply Decidable.byContradiction
   intro c
   rw [not_or] at c
   obtain ⟨c1, c2⟩ := c
   have c1 := Decidable.not_not.1 c1
   have hlt := kid_lt t hk
   exact hjt ⟨ej, (kid_inj ht hd hk hk' (by omega) c1).1⟩
  rw [e1]
  refine isTab_congr (h.tab j t ht) fun h0 => ?_
  have hle := h.le j t
  refine ⟨?_, ?_⟩
  ·rw [readE_write _ _ _ (by omega) (h.ok.re _ (by omega)), h.ok.re _ (by omega)]
  ·rw [readB_write, if_neg]
   intro c
   have := h.inj j t i s h0 (by omega)
   exact hjt this
theorem bk_write (h : FS g V T P) (hz : T i s ≠ 0) (bs : List UInt8) (j t : Nat) : bk g (V.write g (T i s - 1) bs) (T j t) = if j = i ∧ t = s then bs else bk g V (T j t) := by
 unfold bk
 by_cases e : j = i ∧ t = s
 ·obtain ⟨rfl, rfl⟩ := e
  rw [if_neg hz, readB_write, if_pos rfl, if_pos ⟨rfl, rfl⟩]
 ·rw [if_neg e]
  split
  ·rfl
  ·rename_i h0
   rw [readB_write, if_neg]
   intro c
   exact e (h.inj _ _ _ _ h0 (by omega))
theorem bk_len (h : FS g V T P) (j t : Nat) : (bk g V (T j t)).length = 64 := by
 unfold bk
 split
 ·rfl
 ·exact h.l64 _ (by have := h.le j t; omega)
theorem FS.leaf (h : FS g V T P) (hd : dep s = 0) (hz : T i s ≠ 0) {bs : List UInt8} (h64 : bs.length = 64) : FS g (V.write g (T i s - 1) bs) T P := by
 have hb := h.le i s
 refine ⟨h.ok.write (by omega) (h.used i s hz) _, h.le, h.out, h.inj, h.used, fun j t ht => ?_, fun b hb => by
  rw [readB_write]
  split
  ·exact h64
  ·exact h.l64 b hb, h.pout⟩
 refine isTab_congr (h.tab j t ht) fun h0 => ?_
 have hle := h.le j t
 refine ⟨?_, ?_⟩
 ·rw [readE_write _ _ _ (by omega) (h.ok.re _ (by omega)), h.ok.re _ (by omega)]
 ·rw [readB_write, if_neg]
  intro c
  have := (h.inj j t i s h0 (by omega)).2
  subst this
  exact ht hd
end
end Go.Moat

/- Layer 16: a file grows. -/
namespace Go.Mini
section
variable {β : Type} {l : List HA} {S : β → HA} {b o : Nat} {cs : List MV} {ro : Bool}
theorem ldF_eq {h : Hp} {fn : Nat} {caps : List CTy} {v : MV} {x : (Ty.fnc fn caps).den} (hg : h.get b = .cells cs ro) (hv : cs[o]? = some v) (hx : Ty.dec (.fnc fn caps) v = some x) : ld (.fnc fn caps) (some ⟨b, o⟩) h = some (x, h) := by
 unfold ld ldC ldc
 simp only [bd, hg, hv, someOr, hx]
theorem tri_ldF (n : Nat) (hl : l[n]? = some (pts b (.cells cs ro))) {fn : Nat} {caps : List CTy} {v : MV} {x : (Ty.fnc fn caps).den} (hv : cs[o]? = some v) (hx : Ty.dec (.fnc fn caps) v = some x) {f : (Ty.fnc fn caps).den → M β} (kk : Tri (stars l) (f x) S) : Tri (stars l) (bd (ld (.fnc fn caps) (some ⟨b, o⟩)) f) S :=
 tri_read n hl (fun _ hg => ldF_eq hg hv hx) kk
theorem tri_alloc1 {v : MV} (hc : isCell v = true) {f : Option MA → M β} (kk : ∀ b, Tri (stars (pts b (.cells [v] false) :: l)) (f (some ⟨b, 0⟩)) S) : Tri (stars l) (bd (alloc1 v) f) S :=
 tri_new (g := fun b => some ⟨b, 0⟩) (fun h => by unfold alloc1; rw [if_pos hc]) kk
end
end Go.Mini
namespace Go.Moat
open Go.Mini
def allocN (g : Geo) (a : Nat) : Nat → MetaS → MetaS
 | 0, m => m
 | k + 1, m => allocN g a k (m.alloc g a).2
theorem allocN_add (g : Geo) (a : Nat) : ∀ (j k : Nat) (m : MetaS), allocN g a (j + k) m = allocN g a k (allocN g a j m)
 | 0, k, m => by rw [Nat.zero_add]; rfl
 | j + 1, k, m => by rw [show j + 1 + k = (j + k) + 1 by omega]; exact allocN_add g a j k _
theorem Keeps.trans {A B C : VolS} (h : Keeps A B) (k : Keeps B C) : Keeps A C := ⟨k.disk.trans h.disk, k.seq.trans h.seq, k.safe.trans h.safe, k.before.trans h.before, k.dead.trans h.dead⟩
def Path : Nat → List Nat → Prop
 | c, [] => dep c = 0 ∧ c < 75
 | c, k :: ks => dep c ≠ 0 ∧ k < 32 ∧ kid c k < 75 ∧ Path (kid c k) ks
def chainOf : Nat → List Nat → List Nat
 | c, [] => [c]
 | c, k :: ks => c :: chainOf (kid c k) ks
theorem below_trans {c k s : Nat} (hd : dep c ≠ 0) (hk : k < 32) (h : below (kid c k) s) : below c s := by
 rcases dep_cases hd with rfl | rfl | rfl <;> simp [kid, below] at h ⊢ <;> (repeat' split at h) <;> omega
theorem below_sib {c k j : Nat} (hd : dep c ≠ 0) (hk : k < 32) (hj : j < 32) : ¬ below (kid c k) (kid c j) := by
 intro h
 rcases dep_cases hd with rfl | rfl | rfl <;> simp [kid, below] at h <;> (repeat' split at h) <;> omega
theorem below_self (c : Nat) : ¬ below c c := by simp [below]; omega
theorem below_lt {c s : Nat} (h : below c s) : s < 75 := by simp [below] at h; omega
structure Grew (g : Geo) (V : VolS) (T P : Tree) (ii c : Nat) (ch : List Nat) (a : Nat) (V' : VolS) (T' P' : Tree) : Prop where
 fs : FS g V' T' P'
 p : ∀ j s, P' j s = if j = ii ∧ below c s then T' j s else P j s
 same : ∀ j s, ¬ (j = ii ∧ (s = c ∨ below c s)) → T' j s = T j s
 keep : ∀ s, T ii s ≠ 0 → T' ii s = T ii s
 nz : ∀ s, T' ii s ≠ 0 ↔ T ii s ≠ 0 ∨ s ∈ ch
 bk : ∀ j s, dep s = 0 → bk g V' (T' j s) = bk g V (T j s)
 al : ∃ n, n ≤ ch.length ∧ V'.n.m = allocN g a n V.n.m
 kp : Keeps V V'
structure Fell (g : Geo) (V : VolS) (T P : Tree) (ch : List Nat) (a : Nat) (V' : VolS) : Prop where
 fs : FS g V' T P
 bk : ∀ j s, dep s = 0 → bk g V' (T j s) = bk g V (T j s)
 al : ∃ n, n < ch.length ∧ V'.n.m = allocN g a n V.n.m ∧ (V'.n.m.alloc g a).1.2 ≠ 0
 kp : Keeps V V'
theorem alloc_same {g : Geo} {m : MetaS} {a : Nat} (h : (m.alloc g a).1.2 ≠ 0) : (m.alloc g a).2 = m := by
 unfold MetaS.alloc at h ⊢
 split
 ·rename_i b hb
  rw [hb] at h
  exact absurd rfl h
 ·rename_i hb
  rw [hb] at h
  dsimp only at h
  split
  ·rfl
  ·rename_i k hk
   rw [hk] at h
   dsimp only at h
   split
   ·rename_i hr
    rw [if_pos hr] at h
    exact absurd rfl h
   ·rfl
section
variable {g : Geo} {V V1 V2 : VolS} {T T1 T2 P P2 : Tree} {ii c k a : Nat} {ch : List Nat}
theorem FS.forget (h : FS g V T P) (h1 : FS g V1 T1 P) (e : ∀ j s, T j s ≠ 0 → T1 j s = T j s) : FS g V1 T P := by
 refine ⟨h1.ok, h.le, h.out, h.inj, fun j s hz => ?_, fun j s hd => ?_, h1.l64, h.pout⟩
 ·have := h1.used j s (by rw [e j s hz]; exact hz)
  rwa [e j s hz] at this
 ·by_cases hz : T j s = 0
  ·exact isTab_congr (h.tab j s hd) fun c => absurd hz c
  ·have := h1.tab j s hd
   rwa [e j s hz] at this
theorem Grew.keepA (h : Grew g V T P ii c ch a V1 T1 P2) (j s : Nat) (hz : T j s ≠ 0) : T1 j s = T j s := by
 by_cases e : j = ii
 ·subst e; exact h.keep s hz
 ·exact h.same j s fun k => e k.1
def pnext (P T2 : Tree) (ii c : Nat) : Tree := fun j s => if j = ii ∧ below c s then T2 j s else P j s
section
variable (hd : dep c ≠ 0) (hk : k < 32) (hk75 : kid c k < 75) (G1 : Grew g V T P ii c [c] a V1 T1 P) (G2 : Grew g V1 T1 P ii (kid c k) ch a V2 T2 P2)
include hd hk hk75 G1 G2
theorem next_p (j t : Nat) (h : ¬ (j = ii ∧ t = kid c k)) : pnext P T2 ii c j t = P2 j t := by
 have _ := hk75
 rw [G2.p j t]
 unfold pnext
 by_cases e : j = ii ∧ below c t
 ·obtain ⟨rfl, hb⟩ := e
  rw [if_pos ⟨rfl, hb⟩]
  by_cases hb2 : below (kid c k) t
  ·rw [if_pos ⟨rfl, hb2⟩]
  ·rw [if_neg fun x => hb2 x.2, G2.same j t (by
    rintro ⟨_, x | x⟩
    ·exact h ⟨rfl, x⟩
    ·exact hb2 x)]
   have := G1.p j t
   rw [if_pos ⟨rfl, hb⟩] at this
   exact this.symm
 ·rw [if_neg e, if_neg fun x => e ⟨x.1, below_trans hd hk x.2⟩]
theorem next_kids : kids (pnext P T2 ii c ii) c = (kids (P ii) c).set k (T2 ii (kid c k)) := by
 apply List.ext_getElem?
 intro j
 by_cases hj : j < 32
 ·rw [kids_get _ _ hj, List.getElem?_set, kids_get _ _ hj]
  by_cases e : k = j
  ·subst e
   rw [if_pos rfl, if_pos (by rw [kids_len]; exact hj)]
   unfold pnext
   rw [if_pos ⟨rfl, kid_below hd hk hk75⟩]
  ·rw [if_neg e]
   have hne : ¬ (ii = ii ∧ kid c j = kid c k) := fun x => e (kid_inj hd hd hk hj hk75 x.2.symm).2
   rw [next_p hd hk hk75 G1 G2 ii (kid c j) hne, G2.p, if_neg fun x => below_sib hd hk hj x.2]
 ·rw [List.getElem?_eq_none (by rw [kids_len]; omega), List.getElem?_eq_none (by rw [List.length_set, kids_len]; omega)]
theorem next_same (h : P ii (kid c k) = T2 ii (kid c k)) : Grew g V T P ii c (c :: ch) a V2 T2 (pnext P T2 ii c) := by
 refine ⟨G2.fs.congr fun i s hds j hj => ?_, fun j s => rfl, fun j s h => ?_, fun s hz => ?_, fun s => ?_, fun j s hs => ?_, ?_, G1.kp.trans G2.kp⟩
 ·by_cases e : i = ii ∧ kid s j = kid c k
  ·obtain ⟨rfl, e⟩ := e
   rw [e, G2.p, if_neg fun x => below_self _ x.2]
   unfold pnext
   rw [if_pos ⟨rfl, kid_below hd hk hk75⟩, h]
  ·exact next_p hd hk hk75 G1 G2 i _ e
 ·rw [G2.same j s fun x => h ⟨x.1, .inr (by
   rcases x.2 with e | e
   ·rw [e]; exact kid_below hd hk hk75
   ·exact below_trans hd hk e)⟩, G1.same j s h]
 ·rw [G2.keep s (by rw [G1.keep s hz]; exact hz), G1.keep s hz]
 ·rw [G2.nz, G1.nz]
  simp [or_assoc]
 ·rw [G2.bk j s hs, G1.bk j s hs]
 ·obtain ⟨n1, h1, e1⟩ := G1.al
  obtain ⟨n2, h2, e2⟩ := G2.al
  rw [List.length_singleton] at h1
  exact ⟨n1 + n2, by rw [List.length_cons]; omega, by rw [allocN_add, e2, e1]⟩
theorem next_nz : T2 ii c ≠ 0 ∧ T2 ii c = T1 ii c := by
 have _ := hd
 have _ := hk
 have _ := hk75
 have h1 : T1 ii c ≠ 0 := (G1.nz c).2 (.inr (List.mem_singleton.2 rfl))
 have := G2.keep c h1
 exact ⟨by rw [this]; exact h1, this⟩
theorem next_write (hg : g.ok) : Grew g V T P ii c (c :: ch) a (V2.write g (T2 ii c - 1) (tabB (kids (pnext P T2 ii c ii) c))) T2 (pnext P T2 ii c) := by
 have hz := (next_nz hd hk hk75 G1 G2).1
 refine ⟨G2.fs.wtab hg hd hz (fun j hj => ?_) fun j t ht h => ?_, fun j s => rfl, fun j s h => ?_, fun s hz => ?_, fun s => ?_, fun j s hs => ?_, ?_, (G1.kp.trans G2.kp).trans (keeps_write _ _ _)⟩
 ·by_cases e : kid c j = kid c k
  ·rw [e]
   unfold pnext
   rw [if_pos ⟨rfl, kid_below hd hk hk75⟩]
   exact G2.fs.num hg _ _
  ·rw [next_p hd hk hk75 G1 G2 ii (kid c j) fun x => e x.2]
   exact (G2.fs.tab ii c hd).1.le _ (List.mem_iff_getElem?.2 ⟨j, kids_get _ _ hj⟩)
 ·refine next_p hd hk hk75 G1 G2 j t ?_
  rintro ⟨e1, e2⟩
  rcases h e1 k hk with h | h
  ·exact h e2
  ·omega
 ·rw [G2.same j s fun x => h ⟨x.1, .inr (by
   rcases x.2 with e | e
   ·rw [e]; exact kid_below hd hk hk75
   ·exact below_trans hd hk e)⟩, G1.same j s h]
 ·rw [G2.keep s (by rw [G1.keep s hz]; exact hz), G1.keep s hz]
 ·rw [G2.nz, G1.nz]
  simp [or_assoc]
 ·rw [bk_write G2.fs hz, if_neg (by rintro ⟨_, rfl⟩; exact hd hs), G2.bk j s hs, G1.bk j s hs]
 ·obtain ⟨n1, h1, e1⟩ := G1.al
  obtain ⟨n2, h2, e2⟩ := G2.al
  rw [List.length_singleton] at h1
  exact ⟨n1 + n2, by rw [List.length_cons]; omega, by rw [allocN_add, ← e1]; exact e2⟩
end
end
end Go.Moat

/- Layer 16: a file's block is made. -/
namespace Go.Moat
open Go.Mini
section
variable {N : Nat} {β : Type} {l : List HA} {S : β → HA} {v d o c3 c6 : Nat} {g : Geo} {V : VolS} {T P : Tree} {ii c a : Nat} {i : Int} {n : Ino}
def GrowR (g : Geo) (V : VolS) (T P : Tree) (ii c : Nat) (ch : List Nat) (a : Nat) (r : Int × Int) (x : VolS × Tree × Tree) : Prop :=
 (r.2 = 0 → r.1 = (x.2.1 ii c : Int) ∧ Grew g V T P ii c ch a x.1 x.2.1 x.2.2) ∧ (r.2 ≠ 0 → Fell g V T P ch a x.1)
theorem take_file (hg : g.ok) (fs : FS g V T P) (ha : a < 65536) (hc : c < 75) (hP : ∀ s, s = c ∨ below c s → P ii s = T ii s) (hN : 5000 < N) :
  Tri (stars [VolA v d g V, pts o (.cells (openC v i n a) false)]) (F_0c N (some ⟨o, 0⟩) (T ii c : Int)) fun r => exA fun x : VolS × Tree => pu (GrowR g V T P ii c [c] a r (x.1, x.2, P)) (stars [VolA v d g x.1, pts o (.cells (openC v i n a) false)]) := by
 have hgp := hg.gp
 have hB : g.B = g.G * g.P := rfl
 by_cases hz : T ii c = 0
 ·rw [hz]
  have e0 : ∀ m : M (Int × Int), bd m ret = m := fun m => by
   funext h
   unfold bd
   cases m h <;> rfl
  rw [← e0 (F_0c N _ _)]
  refine tri_call [0, 0] (take_new hg fs.ok.inv.ok ha hN) fun r => tri_pu fun h => tri_flat ?_
  by_cases hE : (V.n.m.alloc g a).1.2 = 0
  ·obtain ⟨b, eb, hb, hzb, fs1, hfree⟩ := fs.alloc hg ha hE hc hz
   have er : r = (((b + 1 : Nat) : Int), 0) := by
    rw [h, eb, hE, wr64 (n := (b : Int) + 1) (by omega) (by omega)]
    rfl
   refine tri_end [0, 0] fun q hq => ⟨(V.wM (V.n.m.alloc g a).2, put T ii c (b + 1)), ⟨fun _ => ⟨?_, fs1, fun j s => ?_, fun j s hs => ?_, fun s hs => ?_, fun s => ?_, fun j s hs => ?_, ⟨1, Nat.le_refl _, rfl⟩, keeps_wM _ _⟩, fun hne => ?_⟩, hq⟩
   ·rw [er]
    show ((b + 1 : Nat) : Int) = (put T ii c (b + 1) ii c : Nat)
    unfold put
    rw [if_pos ⟨rfl, rfl⟩]
   ·split
    ·rename_i hb
     obtain ⟨rfl, hb⟩ := hb
     show P j s = put T j c (b + 1) j s
     unfold put
     rw [if_neg (by rintro ⟨_, rfl⟩; exact below_self _ hb)]
     exact hP s (.inr hb)
    ·rfl
   ·show put T ii c (b + 1) j s = _
    unfold put
    rw [if_neg fun x => hs ⟨x.1, .inl x.2⟩]
   ·show put T ii c (b + 1) ii s = _
    unfold put
    rw [if_neg (by rintro ⟨_, rfl⟩; exact hs hz)]
   ·show put T ii c (b + 1) ii s ≠ 0 ↔ _
    unfold put
    by_cases e : s = c
    ·simp [e]
    ·simp [e]
   ·show bk g _ (put T ii c (b + 1) j s) = _
    unfold put
    split
    ·rename_i e
     obtain ⟨rfl, rfl⟩ := e
     rw [hz]
     unfold bk
     rw [if_neg (by omega), if_pos rfl, Nat.add_sub_cancel]
     exact hzb
    ·rfl
   ·rw [er] at hne
    exact absurd rfl hne
  ·refine tri_end [0, 0] fun q hq => ⟨(V, T), ⟨fun h0 => absurd (by rw [h] at h0; exact h0) hE, fun _ => ⟨fs, fun _ _ _ => rfl, ⟨0, by simp, rfl, hE⟩, keeps_rfl V⟩⟩, ?_⟩
   rw [alloc_same hE] at hq
   exact hq
 ·rw [take_had hz]
  refine tri_end [0, 0] fun q hq => ⟨(V, T), ⟨fun _ => ⟨rfl, fs, fun j s => ?_, fun _ _ _ => rfl, fun _ _ => rfl, fun s => ?_, fun _ _ _ => rfl, ⟨0, by simp, rfl⟩, keeps_rfl V⟩, fun h => absurd rfl h⟩, hq⟩
  ·split
   ·rename_i hb
    obtain ⟨rfl, hb⟩ := hb
    exact hP s (.inr hb)
   ·rfl
  ·constructor
   ·exact .inl
   ·rintro (h | h)
    ·exact h
    ·rw [List.mem_singleton] at h
     subst h
     exact hz
abbrev GrowL (v d o c3 c6 : Nat) (g : Geo) (V : VolS) (i : Int) (n : Ino) (a : Nat) (Tr : HA) : List HA := [VolA v d g V, pts o (.cells (openC v i n a) false), pts c3 (.cells [.ptr (some ⟨o, 0⟩)] false), pts c6 (.cells [.fn 73 [.ptr (some ⟨c3, 0⟩), .ptr (some ⟨c6, 0⟩)]] false), Tr]
theorem path_lt {ks : List Nat} (h : Path c ks) : c < 75 := by
 cases ks with
 | nil => exact h.2
 | cons k ks =>
  rcases dep_cases h.1 with rfl | rfl | rfl <;> omega
theorem grow_spec (hg : g.ok) (ha : a < 65536) (hN : 5000 < N) {Tr : HA} : ∀ (ks : List Nat) (K c : Nat) (V : VolS) (T P : Tree) (rest : Sl), ks.length < K → Path c ks → FS g V T P → (∀ s, s = c ∨ below c s → P ii s = T ii s) → RdC Tr rest 1 (ownC ks) →
  Tri (stars (GrowL v d o c3 c6 g V i n a Tr)) (iter K (fun self v => F_1o N self v.1 v.2.1 v.2.2.1 v.2.2.2) ((T ii c : Int), rest, some ⟨c3, 0⟩, some ⟨c6, 0⟩)) fun r => exA fun x : VolS × Tree × Tree => pu (GrowR g V T P ii c (chainOf c ks) a r x) (stars (GrowL v d o c3 c6 g x.1 i n a Tr)) := by
 intro ks
 induction ks with
 | nil =>
  intro K c V T P rest hK hp fs hP hr
  obtain ⟨K, rfl⟩ : ∃ k, K = k + 1 := ⟨K - 1, by simp at hK; omega⟩
  have hlen : rest.len = 0 := by have := hr.1; simp [i64s] at this; omega
  rw [iter_S]
  unfold F_1o
  refine tri_ldP 2 rfl rfl ?_
  refine tri_call [0, 0] (take_file hg fs ha (path_lt hp) hP hN) fun r6 => tri_ex fun x => tri_pu fun h6 => tri_flat ?_
  refine tri_t (by simp [hlen]) (tri_end [0, 0, 0, 0, 0] fun q hq => ⟨(x.1, x.2, P), h6, hq⟩)
 | cons k ks ih =>
  intro K c V T P rest hK hp fs hP hr
  obtain ⟨K, rfl⟩ : ∃ k, K = k + 1 := ⟨K - 1, by simp at hK; omega⟩
  obtain ⟨hd, hk, hk75, hp2⟩ := hp
  have hlen : rest.len = ks.length + 1 := by have := hr.1; simp [i64s] at this; omega
  rw [iter_S]
  unfold F_1o
  refine tri_ldP 2 rfl rfl ?_
  refine tri_call [0, 0] (take_file hg fs ha (path_lt (ks := k :: ks) ⟨hd, hk, hk75, hp2⟩) hP hN) fun r6 => tri_ex fun x => tri_pu fun h6 => tri_flat ?_
  obtain ⟨V1, T1⟩ := x
  dsimp only [sel, rem, nth, del, cat, upd]
  by_cases h60 : r6.2 = 0
  case neg =>
   have F := h6.2 h60
   refine tri_t (by simp [h60]) (tri_end [0, 0, 0, 0, 0] fun q hq => ⟨(V1, T, P), ⟨fun h => absurd h h60, fun _ => ⟨F.fs, F.bk, ?_, F.kp⟩⟩, hq⟩)
   obtain ⟨m, h1, h2⟩ := F.al
   exact ⟨m, by simp [chainOf] at h1 ⊢; omega, h2⟩
  obtain ⟨e6, G1⟩ := h6.1 h60
  have e6 : r6.1 = (T1 ii c : Int) := e6
  have G1 : Grew g V T P ii c [c] a V1 T1 P := G1
  refine tri_f (by simp [h60, hlen]; omega) ?_
  refine tri_ldP 2 rfl rfl ?_
  rw [e6]
  refine tri_call [0, 0] (pointers_file hg (G1.fs.num hg ii c) (G1.fs.tab ii c hd) hN) fun r8 => tri_pu fun h8 => tri_flat ?_
  dsimp only [sel, rem, nth, del, cat, upd]
  refine tri_f (by simp [h8]) ?_
  refine tri_ldF 4 rfl rfl rfl ?_
  refine tri_rI 5 rfl hr (i := 0) (k := .i64) (v := (k : Nat)) (by simp [i64s]) ?_
  refine own_ln 0 rfl fun l8 => ?_
  refine tri_rI 0 rfl (rd_own l8) (i := k) (k := .i64) (v := (P ii (kid c k) : Nat)) (by simp [i64s, kids, hk]) ?_
  refine tri_slc (by omega) (by omega) (by omega) ?_
  have hr2 : RdC Tr (subS 1 rest (Int.toNat 1) (Int.toNat (rest.len : Int))) 1 (ownC ks) := by
   have := hr.sub (lo := 1) (hi := rest.len) (by omega) (by omega)
   rw [Int.toNat_natCast]
   have e1 : ((ownC (k :: ks)).drop (1 * 1)).take ((rest.len - 1) * 1) = ownC ks := by
    show List.take _ (ownC ks) = _
    exact List.take_of_length_le (by rw [ownC_len]; omega)
   rw [← e1]
   exact this
  generalize (subS 1 rest (Int.toNat 1) (Int.toNat (rest.len : Int))) = rest2 at hr2
  have hP1 : ∀ s, s = kid c k ∨ below (kid c k) s → P ii s = T1 ii s := fun s hs => by
   have hb : below c s := by
    rcases hs with rfl | hs
    ·exact kid_below hd hk hk75
    ·exact below_trans hd hk hs
   rw [G1.p ii s, if_pos ⟨rfl, hb⟩]
  have eP := hP1 (kid c k) (.inl rfl)
  have IH := ih K (kid c k) V1 T1 P rest2 (by simp at hK; omega) hp2 G1.fs hP1 hr2
  rw [← eP] at IH
  refine tri_call [1, 1, 1, 1, 1] IH fun r15 => tri_ex fun x => tri_pu fun h15 => tri_flat ?_
  obtain ⟨V2, T2, P2⟩ := x
  dsimp only [sel, rem, nth, del, cat, upd]
  by_cases h150 : r15.2 = 0
  case neg =>
   have F := h15.2 h150
   have F : Fell g V1 T1 P (chainOf (kid c k) ks) a V2 := F
   refine tri_t (by simp [h150]) (tri_end [0, 0, 0, 0, 0] fun q hq => ⟨(V2, T, P), ⟨fun h => absurd h h150, fun _ => ⟨fs.forget F.fs fun j s hz => G1.keepA j s hz, fun j s hs => ?_, ?_, G1.kp.trans F.kp⟩⟩, hq⟩)
   ·by_cases e : j = ii ∧ (s = c ∨ below c s)
    ·obtain ⟨rfl, e⟩ := e
     by_cases hz : T j s = 0
     ·rw [hz]; rfl
     ·have h1 := F.bk j s hs
      rw [G1.bk j s hs] at h1
      rw [G1.keep s hz] at h1
      exact h1
    ·have h1 := F.bk j s hs
     rw [G1.bk j s hs, G1.same j s e] at h1
     exact h1
   ·obtain ⟨n1, h1, e1⟩ := G1.al
    obtain ⟨n2, h2, e2, e3⟩ := F.al
    rw [List.length_singleton] at h1
    exact ⟨n1 + n2, by rw [chainOf, List.length_cons]; omega, by rw [allocN_add, ← e1]; exact e2, e3⟩
  obtain ⟨e15, G2⟩ := h15.1 h150
  have e15 : r15.1 = (T2 ii (kid c k) : Int) := e15
  have G2 : Grew g V1 T1 P ii (kid c k) (chainOf (kid c k) ks) a V2 T2 P2 := G2
  have eT := next_nz hd hk hk75 G1 G2
  refine tri_f (by simp [h150]) ?_
  refine tri_rI 4 rfl hr (i := 0) (k := .i64) (v := (k : Nat)) (by simp [i64s]) ?_
  refine tri_rI 5 rfl (rd_own l8) (i := k) (k := .i64) (v := (P ii (kid c k) : Nat)) (by simp [i64s, kids, hk]) ?_
  rw [e15]
  by_cases hEq : P ii (kid c k) = T2 ii (kid c k)
  ·refine tri_t (by simp [hEq]) (tri_end [0, 0, 0, 0, 0] fun q hq => ⟨(V2, T2, pnext P T2 ii c), ⟨fun _ => ⟨?_, next_same hd hk hk75 G1 G2 hEq⟩, fun h => absurd rfl h⟩, hq⟩)
   show (T1 ii c : Int) = (T2 ii c : Nat)
   rw [eT.2]
  refine tri_f (by simp; omega) ?_
  refine tri_rI 4 rfl hr (i := 0) (k := .i64) (v := (k : Nat)) (by simp [i64s]) ?_
  refine tri_sOwn 5 rfl (k := k) (by rw [kids_len]; exact hk) ?_
  rw [← next_kids hd hk hk75 G1 G2]
  have G3 := next_write hd hk hk75 G1 G2 hg
  have ht3 := G3.fs.tab ii c hd
  refine own_ln 5 rfl fun l8' => ?_
  refine tri_call [5] (block_spec ht3.1 (rd_own l8') hN) fun r23 => tri_pu fun h23 => tri_flat ?_
  dsimp only [sel, rem, nth, del, cat, upd]
  refine tri_ldP 4 rfl rfl ?_
  refine tri_nn (tri_fl (tri_ldP 3 rfl rfl ?_))
  refine own_ln 0 rfl fun l23 => ?_
  have e1 : wr .i64 ((T1 ii c : Int) - 1) = ((T2 ii c - 1 : Nat) : Int) := by
   have := G2.fs.num hg ii c
   rw [← eT.2, wr64 (by omega) (by omega)]
   omega
  rw [e1]
  have hw : V2.writeE g ((T2 ii c - 1 : Nat) : Int) (tabB (kids (pnext P T2 ii c ii) c)) = 0 := by
   have h1 := G2.fs.le ii c
   unfold VolS.writeE MetaS.usedE
   rw [if_pos (tabB_len ht3.1), if_pos (by omega), Int.toNat_natCast, if_pos (G2.fs.used ii c eT.1)]
  refine tri_call [2, 0] (vWrite_spec hg G2.fs.ok.inv.ok _ (rd_own l23) (by rw [tabB_len ht3.1]; omega)) fun r28 => tri_pu fun h28 => tri_flat ?_
  rw [hw] at h28
  rw [if_pos hw, Int.toNat_natCast]
  dsimp only [sel, rem, nth, del, cat, upd]
  refine tri_end [0, 2, 2, 2, 2] fun q hq => ⟨(V2.write g (T2 ii c - 1) (tabB (kids (pnext P T2 ii c ii) c)), T2, pnext P T2 ii c), ⟨fun _ => ⟨?_, G3⟩, fun h => absurd h28 h⟩, hq⟩
  show (T1 ii c : Int) = (T2 ii c : Nat)
  rw [eT.2]
def lf (k : Nat) : Nat := if k < 8 then k else if k < 40 then k + 1 else k + 3
def rs (k : Nat) : Nat := if k < 8 then k else if k < 40 then 8 else 41
def chainK (k : Nat) : List Nat := chainOf (rs k) (wayP k)
def Roots (n : Ino) (p : Nat → Nat) : Prop := ∀ k, k < 60 → n.at (wayO k - 4) = (p (rs k) : Int)
def Ino.put (n : Ino) (j : Nat) (x : Int) : Ino := ⟨n.k, n.r, ⟨n.xs.1.set j x, by rw [List.length_set]; exact n.xs.2⟩⟩
theorem Ino.put_at (n : Ino) {j : Nat} (hj : j < 12) (x : Int) (t : Nat) : (n.put j x).at t = if t = j then x else n.at t := by
 unfold Ino.at Ino.put
 rw [List.getElem?_set]
 by_cases e : j = t
 ·subst e
  rw [if_pos rfl, if_pos (by rw [n.xs.2]; exact hj), if_pos rfl]
  rfl
 ·rw [if_neg e, if_neg fun h => e h.symm]
theorem openC_set (v : Nat) (i : Int) (n : Ino) (a : Nat) {j : Nat} (hj : j < 12) (x : Int) : (openC v i n a).set (4 + j) (.int .i64 x) = openC v i (n.put j x) a := by
 have e : ∀ m : Ino, openC v i m a = .ptr (some ⟨v, 0⟩) :: .int .i64 i :: .int .u8 m.k :: .int .u8 m.r :: (i64s m.xs.1 ++ [.int .u16 a]) := fun m => rfl
 rw [e, e, show 4 + j = j + 1 + 1 + 1 + 1 by omega, List.set_cons_succ, List.set_cons_succ, List.set_cons_succ, List.set_cons_succ, List.set_append_left _ _ (by rw [i64s_len, n.xs.2]; exact hj)]
 congr 5
 unfold i64s Ino.put
 dsimp only
 rw [List.map_set]
theorem path_way {k : Nat} (hk : k < 60) : Path (rs k) (wayP k) := by
 unfold rs wayP
 by_cases h8 : k < 8
 ·rw [if_pos h8, if_pos h8]
  exact ⟨by unfold dep; rw [if_neg (by omega), if_neg (by omega)], by omega⟩
 ·rw [if_neg h8, if_neg h8]
  by_cases h40 : k < 40
  ·rw [if_pos h40, if_pos h40]
   refine ⟨by decide, by omega, by simp [kid]; omega, ?_, by simp [kid]; omega⟩
   unfold dep kid
   rw [if_pos rfl, if_neg (by omega), if_neg (by omega)]
  ·rw [if_neg h40, if_neg h40, show (k - 40) / 32 = 0 by omega]
   refine ⟨by decide, by omega, by decide, by decide, by omega, by simp [kid]; omega, ?_, by simp [kid]; omega⟩
   have e : kid (kid 41 0) ((k - 40) % 32) = 43 + (k - 40) % 32 := by simp [kid]
   rw [e]
   unfold dep
   rw [if_neg (by omega), if_neg (by omega)]
theorem wayP_len2 (k : Nat) : (wayP k).length ≤ 2 := by
 unfold wayP
 split
 ·simp
 ·split <;> simp
theorem wayP_len (k : Nat) : (chainK k).length ≤ 3 := by
 unfold chainK wayP
 split
 ·simp [chainOf]
 ·split <;> simp [chainOf]
theorem lf_mem {k : Nat} (hk : k < 60) : lf k ∈ chainK k := by
 unfold lf chainK rs wayP
 by_cases h8 : k < 8
 ·rw [if_pos h8, if_pos h8, if_pos h8]; simp [chainOf]
 ·rw [if_neg h8, if_neg h8, if_neg h8]
  by_cases h40 : k < 40
  ·rw [if_pos h40, if_pos h40, if_pos h40]; simp [chainOf, kid]; omega
  ·rw [if_neg h40, if_neg h40, if_neg h40, show (k - 40) / 32 = 0 by omega]; simp [chainOf, kid]; omega
theorem lf_dep {k : Nat} (hk : k < 60) : dep (lf k) = 0 ∧ lf k < 75 := by
 unfold dep lf
 repeat' split
 all_goals omega
theorem lf_dep0 (k : Nat) : dep (lf k) = 0 := by
 unfold dep lf
 repeat' split
 all_goals omega
theorem lf_inj {k k' : Nat} (h : lf k = lf k') : k = k' := by
 unfold lf at h
 repeat' split at h
 all_goals omega
theorem walk_of (hg : g.ok) (fs : FS g V T T) {k : Nat} (hk : k < 60) : WalkTo g V (T ii (rs k)) (wayP k) (T ii (lf k)) := by
 unfold rs wayP lf
 by_cases h8 : k < 8
 ·rw [if_pos h8, if_pos h8, if_pos h8]
  exact .nil _
 ·rw [if_neg h8, if_neg h8, if_neg h8]
  by_cases h40 : k < 40
  ·rw [if_pos h40, if_pos h40, if_pos h40]
   refine .cons _ _ _ _ _ (fs.num hg _ _) (by omega) (fs.tab ii 8 (by decide)) ?_
   rw [kids_get _ _ (by omega), show kid 8 (k - 8) = k + 1 by simp [kid]; omega]
   exact .nil _
  ·rw [if_neg h40, if_neg h40, if_neg h40, show (k - 40) / 32 = 0 by omega]
   refine .cons _ _ _ _ _ (fs.num hg _ _) (by omega) (fs.tab ii 41 (by decide)) ?_
   rw [kids_get _ _ (by omega)]
   refine .cons _ _ _ _ _ (fs.num hg _ _) (by omega) (fs.tab ii 42 (by decide)) ?_
   rw [kids_get _ _ (by omega), show kid 42 ((k - 40) % 32) = k + 3 by simp [kid]; omega]
   exact .nil _
structure Made (g : Geo) (V : VolS) (T : Tree) (ii k a : Nat) (V' : VolS) (T' : Tree) : Prop where
 fs : FS g V' T' T'
 same : ∀ j s, j ≠ ii → T' j s = T j s
 keep : ∀ s, T ii s ≠ 0 → T' ii s = T ii s
 nz : ∀ s, T' ii s ≠ 0 ↔ T ii s ≠ 0 ∨ s ∈ chainK k
 bk : ∀ j s, dep s = 0 → bk g V' (T' j s) = bk g V (T j s)
 al : ∃ n, n ≤ 3 ∧ V'.n.m = allocN g a n V.n.m
 kp : Keeps V V'
theorem root_up (k : Nat) : ∀ s j, dep s ≠ 0 → j < 32 → kid s j ≠ rs k := by
 intro s j hd hj h
 unfold rs at h
 rcases dep_cases hd with rfl | rfl | rfl <;> simp [kid] at h <;> (repeat' split at h) <;> omega
theorem made_of {V' : VolS} {T' P' : Tree} {k : Nat} (G : Grew g V T T ii (rs k) (chainK k) a V' T' P') : Made g V T ii k a V' T' := by
 refine ⟨G.fs.congr fun i s hd j hj => ?_, fun j s h => G.same j s fun x => h x.1, G.keep, G.nz, G.bk, ?_, G.kp⟩
 ·rw [G.p]
  by_cases e : i = ii ∧ below (rs k) (kid s j)
  ·rw [if_pos e]
  ·rw [if_neg e]
   exact G.same _ _ fun x => by
    rcases x.2 with y | y
    ·exact root_up k s j hd hj y
    ·exact e ⟨x.1, y⟩
 ·obtain ⟨m, h1, h2⟩ := G.al
  exact ⟨m, Nat.le_trans h1 (wayP_len k), h2⟩
theorem wayO_lt {k : Nat} (hk : k < 60) : 4 ≤ wayO k ∧ wayO k - 4 < 12 ∧ 2 ≤ wayO k - 4 := by
 unfold wayO
 split
 ·omega
 ·split <;> omega
theorem wayO_rs {k k' : Nat} : wayO k - 4 = wayO k' - 4 ↔ rs k = rs k' := by
 unfold wayO rs
 repeat' split
 all_goals omega
theorem rs_unbelow (k k' : Nat) : ¬ below (rs k) (rs k') := by
 unfold rs below
 repeat' split
 all_goals omega
theorem roots_put (hr : Roots n (T ii)) {V' : VolS} {T' P' : Tree} {k : Nat} (hk : k < 60) (G : Grew g V T T ii (rs k) (chainK k) a V' T' P') : Roots (n.put (wayO k - 4) (T' ii (rs k) : Nat)) (T' ii) := by
 intro k' hk'
 rw [n.put_at (wayO_lt hk).2.1]
 by_cases e : rs k' = rs k
 ·rw [if_pos (wayO_rs.2 e), e]
 ·rw [if_neg fun x => e (wayO_rs.1 x), hr k' hk', G.same ii (rs k')]
  rintro ⟨_, x | x⟩
  ·exact e x
  ·exact rs_unbelow _ _ x
theorem make_spec (hg : g.ok) (ha : a < 65536) (hN : 5000 < N) (fs : FS g V T T) (hr : Roots n (T ii)) {k : Nat} (hk : k < 60) :
  Tri (stars [VolA v d g V, pts o (.cells (openC v i n a) false)]) (F_2m N (some ⟨o, 0⟩) (k : Int)) fun r => exA fun x : VolS × Tree × Ino => pu ((r.2 = 0 → r.1 = (x.2.1 ii (lf k) : Nat) ∧ Made g V T ii k a x.1 x.2.1 ∧ x.2.2 = n.put (wayO k - 4) (x.2.1 ii (rs k) : Nat) ∧ Roots x.2.2 (x.2.1 ii)) ∧ (r.2 ≠ 0 → Fell g V T T (chainK k) a x.1)) (stars [VolA v d g x.1, pts o (.cells (openC v i x.2.2 a) false)]) := by
 have hO := wayO_lt hk
 have e4 : wayO k = 4 + (wayO k - 4) := by omega
 unfold F_2m
 refine tri_alloc1 rfl fun c3 => ?_
 refine tri_ldP 0 rfl rfl ?_
 refine tri_call [] (way_spec (o := o) hk) fun r5 => tri_pu fun h5 => tri_flat ?_
 dsimp only [sel, rem, nth, del, cat, upd]
 refine tri_alloc fun c6 => ?_
 refine tri_stc 0 rfl (by simp) rfl ?_
 refine tri_ldF 0 rfl rfl rfl ?_
 rw [h5]
 refine tri_nn ?_
 refine tri_ldI 4 rfl (by rw [e4]; exact open_at hO.2.1) ?_
 rw [hr k hk]
 refine own_ln 1 rfl fun l5 => ?_
 rw [F_3e]
 refine tri_call [3, 3, 2, 0, 0] (grow_spec hg ha hN (wayP k) N (rs k) V T T r5.2 (by have := wayP_len2 k; omega) (path_way hk) fs (fun _ _ => rfl) (rd_own l5)) fun r10 => tri_ex fun x => tri_pu fun h10 => tri_flat ?_
 obtain ⟨V', T', P'⟩ := x
 dsimp only [sel, rem, nth, del, cat, upd]
 by_cases h0 : r10.2 = 0
 case neg =>
  exact tri_t (by simp [h0]) (tri_end [0, 0] fun q hq => ⟨(V', T', n), ⟨fun h => absurd h h0, fun _ => h10.2 h0⟩, hq⟩)
 obtain ⟨e10, G⟩ := h10.1 h0
 have e10 : r10.1 = (T' ii (rs k) : Nat) := e10
 have G : Grew g V T T ii (rs k) (chainK k) a V' T' P' := G
 refine tri_f (by simp [h0]) ?_
 refine tri_nn ?_
 refine tri_stc 1 rfl (by rw [openC_len]; omega) rfl ?_
 rw [e10, e4, openC_set v i n a hO.2.1]
 refine tri_ldP 2 rfl rfl ?_
 have M := made_of G
 have hr' := roots_put hr hk G
 have hp := hr' k hk
 refine tri_call [0, 0] (find_spec hg hk hp (walk_of hg M.fs hk) hN) fun r13 => tri_pu fun h13 => tri_flat ?_
 subst h13
 dsimp only [sel, rem, nth, del, cat, upd]
 exact tri_end [0, 0] fun q hq => ⟨(V', T', n.put (wayO k - 4) (T' ii (rs k) : Nat)), ⟨fun _ => ⟨rfl, M, by rw [Nat.add_sub_cancel_left], hr'⟩, fun h => absurd rfl h⟩, hq⟩
end
end Go.Moat
