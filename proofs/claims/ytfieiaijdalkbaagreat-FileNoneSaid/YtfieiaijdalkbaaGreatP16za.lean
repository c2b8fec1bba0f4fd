/- Layer 16: blocks are let go, in plain words. -/
import Derived.Test.YtfieiaijdalkbaaGreatP16x
namespace Go.Moat
open Go.Mini
def Lab (m m' : MetaS) : Prop := m'.ino = m.ino ∧ ∀ r, (∃ n ∈ m.ino, n.k ≠ 0 ∧ n.r = r) → (rowN m'.rows r).1 = (rowN m.rows r).1
theorem Lab.rfl' (m : MetaS) : Lab m m := ⟨rfl, fun _ _ => rfl⟩
theorem Lab.trans {a b c : MetaS} (h : Lab a b) (k : Lab b c) : Lab a c := ⟨k.1.trans h.1, fun r hr => (k.2 r (by rw [h.1]; exact hr)).trans (h.2 r hr)⟩
section
variable {g : Geo} {V V1 : VolS} {T T1 P P1 P' : Tree} {m : MetaS} {ii c i s b : Nat}
theorem free_used (g : Geo) (m : MetaS) (b : Nat) : (m.free g b).used = setBit m.used b false := by
 unfold MetaS.free
 split <;> rfl
theorem free_ino (g : Geo) (m : MetaS) (b : Nat) : (m.free g b).ino = m.ino := by
 unfold MetaS.free
 split <;> rfl
theorem free_lab (hg : g.ok) (h : Inv g m) (hb : b < g.B) (hbit : getBit m.used b = true) : Lab m (m.free g b) := by
 refine ⟨free_ino g m b, fun r hr => ?_⟩
 obtain ⟨n, hn, hk, hnr⟩ := hr
 unfold MetaS.free
 split
 case isFalse => rfl
 show (rowN (relR m.rows (m.own[b / g.P]?.getD 0 - 1)) r).1 = _
 have hgo := h.gr hg b hb hbit
 have hp := hg.p1
 have hkG : b / g.P < g.G := by
  rw [Nat.div_lt_iff_lt_mul (by omega)]
  exact hb
 have hkl : b / g.P < m.own.length := by rw [h.ok.ownl]; exact hkG
 rw [List.getElem?_eq_getElem hkl] at hgo ⊢
 have ho : m.own[b / g.P] ∈ m.own := List.getElem_mem hkl
 have h16 := h.ok.own16 _ ho
 generalize m.own[b / g.P] = ow at ho h16 hgo
 have hgo : 0 < ow := hgo
 show (rowN (relR m.rows (ow - 1)) r).1 = _
 unfold relR
 rw [rowN_set (by rw [h.ok.rows.len]; omega)]
 by_cases e : r = ow - 1
 ·rw [if_pos e]
  have h1 := h.refs (ow - 1) (by omega)
  unfold MetaS.cnt at h1
  have h2 : 0 < m.own.countP (ownP (ow - 1)) := List.countP_pos_iff.2 ⟨ow, ho, by simp [ownP]; omega⟩
  have h3 : 0 < m.ino.countP (inoP (ow - 1)) := List.countP_pos_iff.2 ⟨n, hn, by simp [inoP]; omega⟩
  rw [if_neg (by omega), e]
 ·rw [if_neg e]
theorem FS.free (h : FS g V T P) (hg : g.ok) (hz : T i s ≠ 0) (hk : dep s ≠ 0 → ∀ j, j < 32 → P' i (kid s j) = 0) (e : ∀ j t, t < 76 → (dep s ≠ 0 → j = i → ∀ k, k < 32 → t ≠ kid s k ∨ t = 75) → P' j t = P j t) : FS g (V.free g (T i s - 1)) (put T i s 0) P' := by
 have hb := h.le i s
 have hu := h.ok.inv.ok.usedl
 have hgp := hg.gp
 have hB : g.B = g.G * g.P := rfl
 have hbit := h.used i s hz
 have hne : ∀ j t, ¬ (j = i ∧ t = s) → T j t ≠ 0 → T j t - 1 ≠ T i s - 1 := fun j t hjt h0 e => hjt (h.inj j t i s h0 (by omega))
 have eu : (V.free g (T i s - 1)).n.m.used = setBit V.n.m.used (T i s - 1) false := free_used g _ _
 have er : ∀ c : Nat, (V.free g (T i s - 1)).readB g c = if c = T i s - 1 then zeros64 else V.readB g c := fun c => readB_write _ _ _
 have ere : ∀ c : Nat, c < g.B → (V.free g (T i s - 1)).readE g c = 0 := fun c hc => readE_write _ _ _ hc (h.ok.re c hc)
 refine ⟨⟨free_inv hg h.ok.inv (by omega) hbit, ere, fun c hc hcb => ?_⟩, fun j t => ?_, fun j t ht => ?_, fun j t j' t' h0 e' => ?_, fun j t h0 => ?_, fun j t hd => ?_, fun c hc => ?_, fun j => (e j 75 (by omega) fun _ _ _ _ => .inr rfl).trans (h.pout j)⟩
 ·rw [er]
  by_cases e1 : c = T i s - 1
  ·rw [if_pos e1]
  ·rw [if_neg e1]
   rw [eu, getBit_set (by omega), if_neg e1] at hcb
   exact h.ok.zero c hc hcb
 ·unfold put
  split
  ·omega
  ·exact h.le j t
 ·unfold put
  split
  ·rfl
  ·exact h.out j t ht
 ·unfold put at h0 e'
  split at e'
  ·rename_i n1
   rw [if_pos n1] at h0
   exact absurd rfl h0
  ·split at e'
   ·rename_i n1 _
    rw [if_neg n1] at h0
    exact absurd e' h0
   ·rename_i n1 _
    rw [if_neg n1] at h0
    exact h.inj _ _ _ _ h0 e'
 ·unfold put at h0 ⊢
  split at h0
  ·exact absurd rfl h0
  ·rename_i n1
   rw [if_neg n1, eu, getBit_set (by omega), if_neg (hne j t n1 h0)]
   exact h.used j t h0
 ·have e1 : ¬ (j = i ∧ t = s) → kids (P' j) t = kids (P j) t := fun hjt => kids_eq fun k hk => e _ _ (kid_lt t hk) fun hds ej k' hk' => by
   apply Decidable.byContradiction
   intro c
   rw [not_or] at c
   obtain ⟨c1, c2⟩ := c
   have c1 := Decidable.not_not.1 c1
   have hlt := kid_lt t hk
   exact hjt ⟨ej, (kid_inj hd hds hk hk' (by omega) c1).1⟩
  unfold put
  by_cases hjt : j = i ∧ t = s
  ·rw [if_pos hjt]
   obtain ⟨rfl, rfl⟩ := hjt
   have e2 : kids (P' j) t = List.replicate 32 0 := by
    apply List.ext_getElem?
    intro k
    by_cases hk' : k < 32
    ·rw [kids_get _ _ hk', hk hd k hk', List.getElem?_replicate, if_pos hk']
    ·rw [List.getElem?_eq_none (by rw [kids_len]; omega), List.getElem?_eq_none (by rw [List.length_replicate]; omega)]
   rw [e2]
   exact ⟨⟨rfl, fun p hp => by rw [List.eq_of_mem_replicate hp]; omega⟩, by rw [if_pos rfl]⟩
  ·rw [if_neg hjt, e1 hjt]
   refine isTab_congr (h.tab j t hd) fun h0 => ?_
   have hle := h.le j t
   refine ⟨?_, ?_⟩
   ·rw [ere _ (by omega), h.ok.re _ (by omega)]
   ·rw [er, if_neg (hne j t hjt h0)]
 ·rw [er]
  split
  ·rfl
  ·exact h.l64 c hc
theorem bk_free (h : FS g V T P) (hz : T i s ≠ 0) {j t : Nat} (hjt : ¬ (j = i ∧ t = s)) : bk g (V.free g (T i s - 1)) (T j t) = bk g V (T j t) := by
 have e : V.free g (T i s - 1) = (V.write g (T i s - 1) zeros64).wM (V.n.m.free g (T i s - 1)) := rfl
 rw [e, bk_wM, bk_write h hz, if_neg hjt]
theorem keeps_free (V : VolS) (g : Geo) (b : Nat) : Keeps V (V.free g b) := ⟨rfl, rfl, rfl, rfl, rfl⟩
def fst' (c : Nat) : Nat := if c < 8 then c else if c = 8 then 8 else if c ≤ 40 then c - 1 else if c ≤ 42 then 40 else c - 3
def each (c : Nat) : Nat := if 1 < dep c then 32 else 1
theorem fst_kid {j : Nat} (hd : dep c ≠ 0) (hj : j < 32) (hk : kid c j < 75) : fst' (kid c j) = fst' c + j * each c := by
 rcases dep_cases hd with rfl | rfl | rfl
 ·rw [show kid 8 j = 9 + j from rfl, show each 8 = 1 from rfl, show fst' 8 = 8 from rfl]
  unfold fst'
  rw [if_neg (by omega), if_neg (by omega), if_pos (by omega)]
  omega
 ·have : j = 0 := by
   apply Decidable.byContradiction
   intro h0
   unfold kid at hk
   rw [if_neg (by decide), if_pos rfl, if_neg h0] at hk
   omega
  subst this
  rfl
 ·rw [show kid 42 j = 43 + j from rfl, show each 42 = 1 from rfl, show fst' 42 = 40 from rfl]
  unfold fst'
  rw [if_neg (by omega), if_neg (by omega), if_neg (by omega), if_neg (by omega)]
  omega
theorem fst_lf (k : Nat) (hk : k < 60) : fst' (lf k) = k := by
 unfold fst' lf
 repeat' split
 all_goals omega
abbrev under (c s : Nat) : Prop := s = c ∨ below c s
theorem under_kids (hd : dep c ≠ 0) (hs : s < 75) : below c s ↔ ∃ k, k < 32 ∧ under (kid c k) s := by
 rcases dep_cases hd with rfl | rfl | rfl
 ·constructor
  ·intro h
   exact ⟨s - 9, by simp [below] at h; omega, .inl (by simp [below] at h; simp [kid]; omega)⟩
  ·rintro ⟨k, hk, h⟩
   simp [under, below, kid] at h ⊢
   omega
 ·constructor
  ·intro h
   refine ⟨0, by omega, ?_⟩
   simp [under, below, kid] at h ⊢
   omega
  ·rintro ⟨k, hk, h⟩
   simp [under, below, kid] at h ⊢
   split at h <;> omega
 ·constructor
  ·intro h
   exact ⟨s - 43, by simp [below] at h; omega, .inl (by simp [below] at h; simp [kid]; omega)⟩
  ·rintro ⟨k, hk, h⟩
   simp [under, below, kid] at h ⊢
   omega
theorem under_one {k k' : Nat} (hd : dep c ≠ 0) (hk : k < 32) (hk' : k' < 32) (hs : s < 75) (h : under (kid c k) s) (h' : under (kid c k') s) : k = k' := by
 rcases dep_cases hd with rfl | rfl | rfl <;> simp [under, below, kid] at h h' <;> (repeat' split at h) <;> (repeat' split at h') <;> omega
structure Trim (g : Geo) (V : VolS) (T P : Tree) (ii c from' : Nat) (V' : VolS) (T' P' : Tree) : Prop where
 fs : FS g V' T' P'
 p : ∀ j s, s < 76 → P' j s = if j = ii ∧ below c s then T' j s else P j s
 same : ∀ j s, ¬ (j = ii ∧ under c s) → T' j s = T j s
 leaf : ∀ s, under c s → dep s = 0 → T' ii s = if from' ≤ fst' s then 0 else T ii s
 some : ∀ s, under c s → dep s ≠ 0 → (∃ j, j < 32 ∧ T' ii (kid s j) ≠ 0) → T' ii s = T ii s
 none : ∀ s, under c s → dep s ≠ 0 → (∀ j, j < 32 → T' ii (kid s j) = 0) → T' ii s = 0
 bk : ∀ j s, dep s = 0 → T' j s ≠ 0 → bk g V' (T' j s) = bk g V (T j s)
 lab : Lab V.n.m V'.n.m
 kp : Keeps V V'
structure TLoop (g : Geo) (V : VolS) (T P : Tree) (ii c from' k : Nat) (V' : VolS) (T' P' : Tree) : Prop where
 fs : FS g V' T' P'
 p : ∀ j s, s < 76 → P' j s = if j = ii ∧ (∃ i, i < k ∧ below (kid c i) s) then T' j s else P j s
 same : ∀ j s, ¬ (j = ii ∧ ∃ i, i < k ∧ under (kid c i) s) → T' j s = T j s
 leaf : ∀ s, s < 75 → (∃ i, i < k ∧ under (kid c i) s) → dep s = 0 → T' ii s = if from' ≤ fst' s then 0 else T ii s
 some : ∀ s, s < 75 → (∃ i, i < k ∧ under (kid c i) s) → dep s ≠ 0 → (∃ j, j < 32 ∧ T' ii (kid s j) ≠ 0) → T' ii s = T ii s
 none : ∀ s, s < 75 → (∃ i, i < k ∧ under (kid c i) s) → dep s ≠ 0 → (∀ j, j < 32 → T' ii (kid s j) = 0) → T' ii s = 0
 bk : ∀ j s, dep s = 0 → T' j s ≠ 0 → bk g V' (T' j s) = bk g V (T j s)
 lab : Lab V.n.m V'.n.m
 kp : Keeps V V'
end
end Go.Moat

/- Layer 16: a table is trimmed, in plain words. -/
namespace Go.Moat
open Go.Mini
section
variable {g : Geo} {V V1 V2 : VolS} {T T1 T2 P P1 P2 : Tree} {ii c i s k from' : Nat}
theorem under_kid {a j : Nat} (h : under a s) (hd : dep s ≠ 0) (hj : j < 32) (hk : kid s j < 75) : below a (kid s j) := by
 rcases h with rfl | h
 ·exact kid_below hd hj hk
 ·rcases dep_cases hd with rfl | rfl | rfl
  ·simp [below] at h
  ·simp [below] at h
  ·have ha : a = 41 := by simp [below] at h; omega
   subst ha
   have := kid_below hd hj hk
   simp [below] at this ⊢
   omega
theorem not_under {j : Nat} (hd : dep c ≠ 0) (hj : j < 32) (hc : c < 75) : ¬ under (kid c j) c := by
 intro h
 rcases dep_cases hd with rfl | rfl | rfl <;> simp [under, below, kid] at h <;> (try split at h) <;> omega
theorem zero_kids (fs : FS g V T P) (hP : ∀ s, under c s → P ii s = T ii s) (hd : dep c ≠ 0) (hz : T ii c = 0) {j : Nat} (hj : j < 32) (hk : kid c j < 75) : T ii (kid c j) = 0 := by
 rw [← hP _ (.inr (kid_below hd hj hk))]
 exact fs.kid0 hd hz hj
theorem under_trans {j : Nat} (hd : dep c ≠ 0) (hj : j < 32) (hk : kid c j < 75) (h : under (kid c j) s) : under c s := by
 rcases h with rfl | h
 ·exact .inr (kid_below hd hj hk)
 ·exact .inr (below_trans hd hj h)
theorem zero_under (fs : FS g V T P) (hz : T ii c = 0) (hP : ∀ s, under c s → P ii s = T ii s) : ∀ s, under c s → T ii s = 0 := by
 have nodep : ∀ a t, dep a = 0 → below a t → False := fun a t h hb => by
  simp [below] at hb
  rcases hb with ⟨rfl, _⟩ | ⟨rfl, _⟩ | ⟨rfl, _⟩ <;> simp [dep] at h
 intro s hs
 rcases hs with rfl | hs
 ·exact hz
 ·have hd : dep c ≠ 0 := fun h => nodep c s h hs
  have hs75 := below_lt hs
  obtain ⟨k, hk, hu⟩ := (under_kids hd hs75).1 hs
  have hk75 : kid c k < 75 := by
   rcases hu with rfl | hu
   ·exact hs75
   ·simp [below] at hu; omega
  have z1 := zero_kids fs hP hd hz hk hk75
  rcases hu with rfl | hu
  ·exact z1
  ·have hd2 : dep (kid c k) ≠ 0 := fun h => nodep _ s h hu
   obtain ⟨k2, hk2, hu2⟩ := (under_kids hd2 hs75).1 hu
   have hk75' : kid (kid c k) k2 < 75 := by
    rcases hu2 with rfl | hu2
    ·exact hs75
    ·simp [below] at hu2; omega
   have z2 := zero_kids fs (fun s hs => hP s (under_trans hd hk hk75 hs)) hd2 z1 hk2 hk75'
   rcases hu2 with rfl | hu2
   ·exact z2
   ·have e1 := kid_dep hd hk hk75
    have e2 := kid_dep hd2 hk2 hk75'
    have : dep c ≤ 2 := by rcases dep_cases hd with rfl | rfl | rfl <;> decide
    exact absurd hu2 fun h => nodep _ s (by omega) h
theorem trim_zero (fs : FS g V T P) (hP : ∀ s, under c s → P ii s = T ii s) (hz : T ii c = 0) : Trim g V T P ii c from' V T P := by
 have z := zero_under fs hz hP
 refine ⟨fs, fun j s _ => ?_, fun _ _ _ => rfl, fun s hs _ => ?_, fun s _ _ _ => rfl, fun s hs _ _ => z s hs, fun _ _ _ _ => rfl, Lab.rfl' _, keeps_rfl V⟩
 ·split
  ·rename_i h
   obtain ⟨rfl, h⟩ := h
   exact hP s (.inr h)
  ·rfl
 ·rw [z s hs]
  split <;> rfl
theorem Trim.nz (h : Trim g V T P ii c from' V1 T1 P1) (j s : Nat) (hd : dep s = 0) (hz : T1 j s ≠ 0) : T1 j s = T j s := by
 by_cases e : j = ii ∧ under c s
 ·obtain ⟨rfl, e⟩ := e
  have := h.leaf s e hd
  rw [this] at hz ⊢
  split
  ·rename_i h1; rw [if_pos h1] at hz; exact absurd rfl hz
  ·rfl
 ·exact h.same j s e
theorem tloop_start (fs : FS g V T P) : TLoop g V T P ii c from' 0 V T P := by
 refine ⟨fs, fun j s _ => ?_, fun _ _ _ => rfl, fun s _ h => ?_, fun s _ h => ?_, fun s _ h => ?_, fun _ _ _ _ => rfl, Lab.rfl' _, keeps_rfl V⟩
 ·rw [if_neg]
  rintro ⟨_, i, hi, _⟩
  omega
 all_goals
  obtain ⟨i, hi, _⟩ := h
  omega
theorem tloop_skip (h : TLoop g V T P ii c from' k V1 T1 P1) (hk : ¬ kid c k < 75) : TLoop g V T P ii c from' (k + 1) V1 T1 P1 := by
 have nb : ∀ s, ¬ below (kid c k) s := fun s hb => by simp [below] at hb; omega
 have e1 : ∀ s, (∃ i, i < k + 1 ∧ below (kid c i) s) ↔ ∃ i, i < k ∧ below (kid c i) s := fun s => by
  constructor
  ·rintro ⟨i, hi, hb⟩
   exact ⟨i, by
    rcases Nat.lt_or_eq_of_le (Nat.lt_succ_iff.1 hi) with h | rfl
    ·exact h
    ·exact absurd hb (nb s), hb⟩
  ·rintro ⟨i, hi, hb⟩
   exact ⟨i, by omega, hb⟩
 have e2 : ∀ s, s < 75 → (∃ i, i < k + 1 ∧ under (kid c i) s) → ∃ i, i < k ∧ under (kid c i) s := fun s hs => by
  rintro ⟨i, hi, hb⟩
  refine ⟨i, ?_, hb⟩
  rcases Nat.lt_or_eq_of_le (Nat.lt_succ_iff.1 hi) with h | rfl
  ·exact h
  ·rcases hb with rfl | hb
   ·omega
   ·exact absurd hb (nb s)
 refine ⟨h.fs, fun j s hs => ?_, fun j s hs => ?_, fun s hs hu => h.leaf s hs (e2 s hs hu), fun s hs hu => h.some s hs (e2 s hs hu), fun s hs hu => h.none s hs (e2 s hs hu), h.bk, h.lab, h.kp⟩
 ·rw [h.p j s hs]
  simp only [e1 s]
 ·exact h.same j s fun x => hs ⟨x.1, by
   obtain ⟨i, hi, hb⟩ := x.2
   exact ⟨i, by omega, hb⟩⟩
theorem tloop_step (h : TLoop g V T P ii c from' k V1 T1 P1) (hd : dep c ≠ 0) (hk : k < 32) (hk75 : kid c k < 75) (R : Trim g V1 T1 P1 ii (kid c k) from' V2 T2 P2) : TLoop g V T P ii c from' (k + 1) V2 T2 P2 := by
 have cs : ∀ {φ : Nat → Prop}, (∃ i, i < k + 1 ∧ φ i) → φ k ∨ ∃ i, i < k ∧ φ i := by
  rintro φ ⟨i, hi, hφ⟩
  rcases Nat.lt_or_eq_of_le (Nat.lt_succ_iff.1 hi) with h1 | rfl
  ·exact .inr ⟨i, h1, hφ⟩
  ·exact .inl hφ
 have old : ∀ s, s < 75 → under (kid c k) s → ¬ ∃ i, i < k ∧ under (kid c i) s := by
  rintro s hs hu ⟨i, hi, hu'⟩
  have := under_one hd hk (by omega) hs hu hu'
  omega
 have oldB : ∀ s, under (kid c k) s → T1 ii s = T ii s := fun s hu => h.same ii s fun x => old s (by
  rcases hu with rfl | hu
  ·exact hk75
  ·exact below_lt hu) hu x.2
 have new : ∀ s, s < 75 → (∃ i, i < k ∧ under (kid c i) s) → T2 ii s = T1 ii s := fun s hs hu => R.same ii s fun x => old s hs x.2 hu
 have newK : ∀ s, s < 75 → (∃ i, i < k ∧ under (kid c i) s) → dep s ≠ 0 → ∀ j, j < 32 → T2 ii (kid s j) = T1 ii (kid s j) := fun s hs hu hds j hj => by
  by_cases h75 : kid s j < 75
  ·obtain ⟨i, hi, hu⟩ := hu
   exact new _ h75 ⟨i, hi, .inr (under_kid hu hds hj h75)⟩
  ·rw [R.fs.out _ _ (by omega), h.fs.out _ _ (by omega)]
 refine ⟨R.fs, fun j s hs => ?_, fun j s hs => ?_, fun s hs hu hds => ?_, fun s hs hu hds hx => ?_, fun s hs hu hds hx => ?_, fun j s hds hz => ?_, h.lab.trans R.lab, h.kp.trans R.kp⟩
 ·rw [R.p j s hs]
  by_cases e : j = ii ∧ below (kid c k) s
  ·rw [if_pos e, if_pos ⟨e.1, k, by omega, e.2⟩]
  ·rw [if_neg e, h.p j s hs]
   by_cases e2 : j = ii ∧ ∃ i, i < k ∧ below (kid c i) s
   ·obtain ⟨rfl, i, hi, hb⟩ := e2
    rw [if_pos ⟨rfl, i, hi, hb⟩, if_pos ⟨rfl, i, by omega, hb⟩]
    exact (new s (below_lt hb) ⟨i, hi, .inr hb⟩).symm
   ·rw [if_neg e2, if_neg]
    rintro ⟨h1, h2⟩
    rcases cs h2 with h3 | h3
    ·exact e ⟨h1, h3⟩
    ·exact e2 ⟨h1, h3⟩
 ·rw [R.same j s fun x => hs ⟨x.1, k, by omega, x.2⟩]
  exact h.same j s fun x => hs ⟨x.1, by
   obtain ⟨i, hi, hb⟩ := x.2
   exact ⟨i, by omega, hb⟩⟩
 ·rcases cs hu with hu | hu
  ·rw [R.leaf s hu hds, oldB s hu]
  ·rw [new s hs hu]
   exact h.leaf s hs hu hds
 ·rcases cs hu with hu | hu
  ·rw [R.some s hu hds hx, oldB s hu]
  ·rw [new s hs hu]
   refine h.some s hs hu hds ?_
   obtain ⟨j, hj, hx⟩ := hx
   exact ⟨j, hj, by rwa [newK s hs hu hds j hj] at hx⟩
 ·rcases cs hu with hu | hu
  ·exact R.none s hu hds hx
  ·rw [new s hs hu]
   exact h.none s hs hu hds fun j hj => by rw [← newK s hs hu hds j hj]; exact hx j hj
 ·rw [R.bk j s hds hz]
  have := R.nz j s hds hz
  exact h.bk j s hds (by rw [← this]; exact hz)
section
variable (h : TLoop g V T P ii c from' 32 V2 T2 P2) (hd : dep c ≠ 0) (hc : c < 75)
include h hd hc
theorem tl_self : T2 ii c = T ii c := h.same ii c fun x => by
 obtain ⟨i, hi, hu⟩ := x.2
 exact not_under hd hi hc hu
theorem tl_p (j t : Nat) (ht : t < 76) (e : j = ii → ∀ k, k < 32 → t ≠ kid c k ∨ t = 75) : pnext P T2 ii c j t = P2 j t := by
 have _ := hc
 rw [h.p j t ht]
 unfold pnext
 by_cases hb : j = ii ∧ below c t
 ·obtain ⟨rfl, hb⟩ := hb
  have h75 := below_lt hb
  obtain ⟨k, hk, hu⟩ := (under_kids hd h75).1 hb
  have : below (kid c k) t := by
   rcases hu with hu | hu
   ·rcases e rfl k hk with h1 | h1
    ·exact absurd hu h1
    ·omega
   ·exact hu
  rw [if_pos ⟨rfl, hb⟩, if_pos ⟨rfl, k, hk, this⟩]
 ·rw [if_neg hb, if_neg]
  rintro ⟨h1, k, hk, h2⟩
  exact hb ⟨h1, below_trans hd hk h2⟩
theorem tl_kid (hp : P ii 75 = 0) {j : Nat} (hj : j < 32) : pnext P T2 ii c ii (kid c j) = T2 ii (kid c j) := by
 have _ := hc
 unfold pnext
 by_cases h75 : kid c j < 75
 ·rw [if_pos ⟨rfl, kid_below hd hj h75⟩]
 ·have e : kid c j = 75 := by have := kid_lt c hj; omega
  rw [e, if_neg (by simp [below]), hp, h.fs.out ii 75 (by omega)]
theorem tl_same (fs : FS g V T P) (j s : Nat) (hs : ¬ (j = ii ∧ under c s)) : T2 j s = T j s := by
 have _ := hc
 by_cases h75 : s < 75
 ·refine h.same j s fun x => hs ⟨x.1, ?_⟩
  obtain ⟨i, hi, hu⟩ := x.2
  have hk : kid c i < 75 := by
   rcases hu with rfl | hu
   ·exact h75
   ·simp [below] at hu; omega
  exact under_trans hd hi hk hu
 ·rw [h.fs.out _ _ (by omega), fs.out _ _ (by omega)]
theorem tl_below (s : Nat) (hs : below c s) : ∃ i, i < 32 ∧ under (kid c i) s := by
 have _ := h
 have _ := hc
 exact (under_kids hd (below_lt hs)).1 hs
theorem trim_keep (fs : FS g V T P) {V3 : VolS} (fs3 : FS g V3 T2 (pnext P T2 ii c)) (hx : ∃ j, j < 32 ∧ T2 ii (kid c j) ≠ 0) (hbk : ∀ j s, dep s = 0 → bk g V3 (T2 j s) = bk g V2 (T2 j s)) (hlab : Lab V2.n.m V3.n.m) (hkp : Keeps V2 V3) : Trim g V T P ii c from' V3 T2 (pnext P T2 ii c) := by
 refine ⟨fs3, fun j s _ => rfl, tl_same h hd hc fs, fun s hu hds => ?_, fun s hu hds hx => ?_, fun s hu hds hx' => ?_, fun j s hds hz => ?_, h.lab.trans hlab, h.kp.trans hkp⟩
 ·rcases hu with rfl | hu
  ·exact absurd hds hd
  ·exact h.leaf s (below_lt hu) (tl_below h hd hc s hu) hds
 ·rcases hu with rfl | hu
  ·exact tl_self h hd hc
  ·exact h.some s (below_lt hu) (tl_below h hd hc s hu) hds hx
 ·rcases hu with rfl | hu
  ·obtain ⟨j, hj, hx⟩ := hx
   exact absurd (hx' j hj) hx
  ·exact h.none s (below_lt hu) (tl_below h hd hc s hu) hds hx'
 ·rw [hbk j s hds]
  exact h.bk j s hds hz
theorem trim_same (fs : FS g V T P) (hx : ∃ j, j < 32 ∧ T2 ii (kid c j) ≠ 0) (heq : ∀ j, j < 32 → T2 ii (kid c j) = P ii (kid c j)) : Trim g V T P ii c from' V2 T2 (pnext P T2 ii c) := by
 refine trim_keep h hd hc fs (h.fs.congr fun i s hds j hj => ?_) hx (fun _ _ _ => rfl) (Lab.rfl' _) (keeps_rfl _)
 by_cases e : i = ii ∧ s = c
 ·obtain ⟨rfl, rfl⟩ := e
  rw [tl_kid h hd hc (fs.pout i) hj, heq j hj, h.p _ _ (kid_lt _ hj), if_neg]
  rintro ⟨_, i', hi', hb⟩
  exact below_sib hd hi' hj hb
 ·refine tl_p h hd hc i _ (kid_lt _ hj) fun ei k hk => ?_
  apply Decidable.byContradiction
  intro hn
  rw [not_or] at hn
  have h1 := Decidable.not_not.1 hn.1
  have h2 := kid_lt s hj
  exact e ⟨ei, (kid_inj hds hd hj hk (by omega) h1).1⟩
theorem trim_write (hg : g.ok) (fs : FS g V T P) (hz : T ii c ≠ 0) (hx : ∃ j, j < 32 ∧ T2 ii (kid c j) ≠ 0) : Trim g V T P ii c from' (V2.write g (T ii c - 1) (tabB (kids (T2 ii) c))) T2 (pnext P T2 ii c) := by
 have e1 := tl_self h hd hc
 have hz2 : T2 ii c ≠ 0 := by rw [e1]; exact hz
 have ek : kids (T2 ii) c = kids (pnext P T2 ii c ii) c := kids_eq fun j hj => (tl_kid h hd hc (fs.pout ii) hj).symm
 rw [← e1, ek]
 refine trim_keep h hd hc fs (h.fs.wtab hg hd hz2 (fun k hk => ?_) fun j t ht e => tl_p h hd hc j t ht e) hx (fun j s hds => ?_) (Lab.rfl' _) (keeps_write _ _ _)
 ·rw [tl_kid h hd hc (fs.pout ii) hk]
  exact h.fs.num hg _ _
 ·rw [bk_write h.fs hz2, if_neg]
  rintro ⟨_, rfl⟩
  exact hd hds
theorem trim_free (hg : g.ok) (fs : FS g V T P) (hz : T ii c ≠ 0) (hx : ∀ j, j < 32 → T2 ii (kid c j) = 0) : Trim g V T P ii c from' (V2.free g (T ii c - 1)) (put T2 ii c 0) (pnext P T2 ii c) := by
 have e1 := tl_self h hd hc
 have hz2 : T2 ii c ≠ 0 := by rw [e1]; exact hz
 rw [← e1]
 have f3 := h.fs.free hg hz2 (P' := pnext P T2 ii c) (fun _ j hj => by rw [tl_kid h hd hc (fs.pout ii) hj]; exact hx j hj) fun j t ht e => tl_p h hd hc j t ht fun ej => e hd ej
 have pne : ∀ j s, ¬ (j = ii ∧ s = c) → put T2 ii c 0 j s = T2 j s := fun j s hs => by unfold put; rw [if_neg hs]
 have pkid : ∀ s j, under c s → dep s ≠ 0 → j < 32 → put T2 ii c 0 ii (kid s j) = T2 ii (kid s j) := fun s j hu hds hj => pne _ _ fun x => by
  have hk : kid s j = c := x.2
  by_cases h75 : kid s j < 75
  ·have := under_kid hu hds hj h75
   rw [hk] at this
   exact below_self _ this
  ·omega
 refine ⟨f3, fun j s hs => ?_, fun j s hs => ?_, fun s hu hds => ?_, fun s hu hds hx' => ?_, fun s hu hds hx' => ?_, fun j s hds hz' => ?_, ?_, h.kp.trans (keeps_free _ _ _)⟩
 ·unfold pnext
  split
  ·rename_i hb
   obtain ⟨rfl, hb⟩ := hb
   rw [pne]
   rintro ⟨_, rfl⟩
   exact below_self _ hb
  ·rfl
 ·rw [pne _ _ fun x => hs ⟨x.1, .inl x.2⟩]
  exact tl_same h hd hc fs j s hs
 ·rcases hu with rfl | hu
  ·exact absurd hds hd
  ·rw [pne _ _ (by rintro ⟨_, rfl⟩; exact below_self _ hu)]
   exact h.leaf s (below_lt hu) (tl_below h hd hc s hu) hds
 ·obtain ⟨j, hj, hx'⟩ := hx'
  rw [pkid s j hu hds hj] at hx'
  rcases hu with rfl | hu
  ·exact absurd (hx j hj) hx'
  ·rw [pne _ _ (by rintro ⟨_, rfl⟩; exact below_self _ hu)]
   exact h.some s (below_lt hu) (tl_below h hd hc s hu) hds ⟨j, hj, hx'⟩
 ·rcases hu with rfl | hu
  ·unfold put
   rw [if_pos ⟨rfl, rfl⟩]
  ·rw [pne _ _ (by rintro ⟨_, rfl⟩; exact below_self _ hu)]
   exact h.none s (below_lt hu) (tl_below h hd hc s hu) hds fun j hj => by rw [← pkid s j (.inr hu) hds hj]; exact hx' j hj
 ·have hne : ¬ (j = ii ∧ s = c) := by
   rintro ⟨_, rfl⟩
   exact hd hds
  rw [pne _ _ hne] at hz' ⊢
  rw [bk_free h.fs hz2 hne]
  exact h.bk j s hds hz'
 ·have hb := h.fs.le ii c
  exact h.lab.trans (free_lab hg h.fs.ok.inv (by omega) (h.fs.used ii c hz2))
end
theorem trim_leaf (hg : g.ok) (fs : FS g V T P) (hd : dep c = 0) (hz : T ii c ≠ 0) (hf : from' ≤ fst' c) : Trim g V T P ii c from' (V.free g (T ii c - 1)) (put T ii c 0) P := by
 have nb : ∀ s, ¬ below c s := fun s hb => by
  simp [below] at hb
  rcases hb with ⟨rfl, _⟩ | ⟨rfl, _⟩ | ⟨rfl, _⟩ <;> simp [dep] at hd
 have pne : ∀ j s, ¬ (j = ii ∧ s = c) → put T ii c 0 j s = T j s := fun j s hs => by unfold put; rw [if_neg hs]
 refine ⟨fs.free hg hz (fun h => absurd hd h) fun _ _ _ _ => rfl, fun j s _ => ?_, fun j s hs => pne j s fun x => hs ⟨x.1, .inl x.2⟩, fun s hu _ => ?_, fun s hu hds => ?_, fun s hu hds => ?_, fun j s hds hz' => ?_, ?_, keeps_free _ _ _⟩
 ·rw [if_neg fun x => nb s x.2]
 ·rcases hu with rfl | hu
  ·rw [if_pos hf]
   unfold put
   rw [if_pos ⟨rfl, rfl⟩]
  ·exact absurd hu (nb s)
 ·rcases hu with rfl | hu
  ·exact absurd hd hds
  ·exact absurd hu (nb s)
 ·rcases hu with rfl | hu
  ·exact absurd hd hds
  ·exact absurd hu (nb s)
 ·by_cases e : j = ii ∧ s = c
  ·obtain ⟨rfl, rfl⟩ := e
   unfold put at hz'
   rw [if_pos ⟨rfl, rfl⟩] at hz'
   exact absurd rfl hz'
  ·rw [pne j s e, bk_free fs hz e]
 ·have hb := fs.le ii c
  exact free_lab hg fs.ok.inv (by omega) (fs.used ii c hz)
theorem trim_stay (fs : FS g V T P) (hP : ∀ s, under c s → P ii s = T ii s) (hd : dep c = 0) (hf : fst' c < from') : Trim g V T P ii c from' V T P := by
 have nb : ∀ s, ¬ below c s := fun s hb => by
  simp [below] at hb
  rcases hb with ⟨rfl, _⟩ | ⟨rfl, _⟩ | ⟨rfl, _⟩ <;> simp [dep] at hd
 refine ⟨fs, fun j s _ => ?_, fun _ _ _ => rfl, fun s hu _ => ?_, fun s hu hds => ?_, fun s hu hds => ?_, fun _ _ _ _ => rfl, Lab.rfl' _, keeps_rfl V⟩
 ·rw [if_neg fun x => nb s x.2]
 ·rcases hu with rfl | hu
  ·rw [if_neg (by omega)]
  ·exact absurd hu (nb s)
 ·rcases hu with rfl | hu
  ·exact absurd hd hds
  ·exact absurd hu (nb s)
 ·rcases hu with rfl | hu
  ·exact absurd hd hds
  ·exact absurd hu (nb s)
end
end Go.Moat

/- Layer 16: blocks are let go. -/
namespace Go.Moat
open Go.Mini
section
variable {N : Nat} {β : Type} {l : List HA} {S : β → HA} {v d o : Nat} {g : Geo} {V : VolS} {T P : Tree} {ii c a from' : Nat} {n : Ino} {s t : Sl} {i : Int} {A B : HA} {xs ys : List Nat}
theorem ownC_get {xs : List Nat} {j : Nat} (h : j < xs.length) : (ownC xs)[j]? = some (.int .i64 (xs[j] : Nat)) := by simp [i64s, h]
theorem contains_spec (hr : RdC A s 1 (ownC xs)) (h64 : xs.length ≤ 64) (hN : 100 < N) : Tri (stars [A]) (F_2r N s ()) fun r => pu ((r = true → ∃ j, j < xs.length ∧ xs[j]?.getD 0 ≠ 0) ∧ (r = false → ∀ j, j < xs.length → xs[j]?.getD 0 = 0)) (stars [A]) := by
 have hlen : s.len = xs.length := by have := hr.1; rw [ownC_len] at this; omega
 have loop : ∀ (K k : Nat), xs.length - k < K → k ≤ xs.length → (∀ j, j < k → xs[j]?.getD 0 = 0) → Tri (stars [A]) (iter K (F_30 N s) (k : Int)) fun r => pu (match r with
   | .inl _ => ∀ j, j < xs.length → xs[j]?.getD 0 = 0
   | .inr x => 0 ≤ x ∧ ∃ j, j < xs.length ∧ xs[j]?.getD 0 ≠ 0) (stars [A]) := by
  intro K
  induction K with
  | zero => intro k h; omega
  | succ K ih =>
   intro k h hk hz
   rw [iter_S]
   generalize iter K (F_30 N s) = go at ih ⊢
   unfold F_30
   by_cases hkl : k < xs.length
   ·refine tri_t (by simp [hlen]; omega) ?_
    refine tri_rI 0 rfl hr (i := k) (k := .i64) (v := (xs[k] : Nat)) (ownC_get hkl) ?_
    unfold F_3f
    refine tri_bdret ?_
    by_cases h0 : xs[k] = 0
    ·refine tri_f (by simp [h0]) ?_
     rw [wr64 (by omega) (by omega)]
     refine ih (k + 1) (by omega) (by omega) fun j hj => ?_
     by_cases e : j = k
     ·subst e; rw [List.getElem?_eq_getElem hkl]; exact h0
     ·exact hz j (by omega)
    ·refine tri_t (by simp; omega) (tri_end [0] fun q hq => ⟨⟨by omega, k, hkl, ?_⟩, hq⟩)
     rw [List.getElem?_eq_getElem hkl]
     exact h0
   ·obtain rfl : k = xs.length := by omega
    exact tri_f (by simp [hlen]) (tri_end [0] fun q hq => ⟨hz, hq⟩)
 unfold F_2r F_3g
 refine tri_call [0] (Q := fun r : Int => pu ((0 ≤ r → ∃ j, j < xs.length ∧ xs[j]?.getD 0 ≠ 0) ∧ (r < 0 → ∀ j, j < xs.length → xs[j]?.getD 0 = 0)) (stars [A])) ?_ fun r3 => tri_pu fun h3 => tri_flat ?_
 ·refine tri_call [0] (loop N 0 (by omega) (by omega) fun j hj => by omega) fun r => tri_pu fun hr => tri_flat ?_
  cases r with
  | inl _ => exact tri_end [0] fun q hq => ⟨⟨fun h => absurd h (by decide), fun _ => hr⟩, hq⟩
  | inr x => exact tri_end [0] fun q hq => ⟨⟨fun _ => hr.2, fun h => absurd hr.1 (by omega)⟩, hq⟩
 ·refine tri_end [0] fun q hq => ⟨⟨fun h => h3.1 (by simpa using h), fun h => h3.2 (by simpa using h)⟩, hq⟩
theorem equal_spec (hr : RdC A s 1 (ownC xs)) (ht : RdC B t 1 (ownC ys)) (hxy : xs.length = ys.length) (h64 : xs.length ≤ 64) (hN : 100 < N) : Tri (stars [A, B]) (F_2s N s t) fun r => pu (r = true → ∀ j, j < xs.length → xs[j]?.getD 0 = ys[j]?.getD 0) (stars [A, B]) := by
 have hlen : s.len = xs.length := by have := hr.1; rw [ownC_len] at this; omega
 have hlen2 : t.len = ys.length := by have := ht.1; rw [ownC_len] at this; omega
 have loop : ∀ (K k : Nat), xs.length - k < K → k ≤ xs.length → (∀ j, j < k → xs[j]?.getD 0 = ys[j]?.getD 0) → Tri (stars [A, B]) (iter K (F_31 N s t) (k : Int)) fun r => pu (match r with
   | .inl _ => ∀ j, j < xs.length → xs[j]?.getD 0 = ys[j]?.getD 0
   | .inr x => x = false) (stars [A, B]) := by
  intro K
  induction K with
  | zero => intro k h; omega
  | succ K ih =>
   intro k h hk hz
   rw [iter_S]
   generalize iter K (F_31 N s t) = go at ih ⊢
   unfold F_31
   by_cases hkl : k < xs.length
   ·have hkl2 : k < ys.length := by omega
    refine tri_t (by simp [hlen]; omega) ?_
    refine tri_rI 0 rfl hr (i := k) (k := .i64) (v := (xs[k] : Nat)) (ownC_get hkl) ?_
    refine tri_rI 1 rfl ht (i := k) (k := .i64) (v := (ys[k] : Nat)) (ownC_get hkl2) ?_
    by_cases h0 : xs[k] = ys[k]
    ·refine tri_f (by simp [h0]) ?_
     rw [wr64 (by omega) (by omega)]
     refine ih (k + 1) (by omega) (by omega) fun j hj => ?_
     by_cases e : j = k
     ·subst e; rw [List.getElem?_eq_getElem hkl, List.getElem?_eq_getElem hkl2]; exact h0
     ·exact hz j (by omega)
    ·exact tri_t (by simp; omega) (tri_end [0, 0] fun q hq => ⟨rfl, hq⟩)
   ·obtain rfl : k = xs.length := by omega
    exact tri_f (by simp [hlen]) (tri_end [0, 0] fun q hq => ⟨hz, hq⟩)
 unfold F_2s
 refine tri_f (by simp; omega) ?_
 refine tri_call [0, 0] (loop N 0 (by omega) (by omega) fun j hj => by omega) fun r => tri_pu fun hr => tri_flat ?_
 cases r with
 | inl _ => exact tri_end [0, 0] fun q hq => ⟨fun _ => hr, hq⟩
 | inr x => exact tri_end [0, 0] fun q hq => ⟨fun h => absurd (Eq.trans (show x = false from hr).symm h) (by decide), hq⟩
def tnum (T0 T1 : Tree) (ii c k : Nat) : List Nat := (List.range 32).map fun j => if j < k then T1 ii (kid c j) else T0 ii (kid c j)
theorem tnum_len (T0 T1 : Tree) (ii c k : Nat) : (tnum T0 T1 ii c k).length = 32 := by simp [tnum]
theorem tnum_get (T0 T1 : Tree) (ii c k : Nat) {j : Nat} (h : j < 32) : (tnum T0 T1 ii c k)[j]? = some (if j < k then T1 ii (kid c j) else T0 ii (kid c j)) := by simp [tnum, h]
theorem tnum_all (T0 T1 : Tree) (ii c : Nat) : tnum T0 T1 ii c 32 = kids (T1 ii) c := List.map_congr_left fun j hj => by rw [if_pos (List.mem_range.1 hj)]
theorem tnum_set {T0 T1 T2 : Tree} {k : Nat} (hk : k < 32) (h : ∀ j, j < k → T2 ii (kid c j) = T1 ii (kid c j)) : (tnum T0 T1 ii c k).set k (T2 ii (kid c k)) = tnum T0 T2 ii c (k + 1) := by
 apply List.ext_getElem?
 intro j
 rw [List.getElem?_set]
 by_cases hj : j < 32
 ·rw [tnum_get _ _ _ _ _ hj, tnum_get _ _ _ _ _ hj]
  by_cases e : k = j
  ·subst e
   rw [if_pos rfl, if_pos (by rw [tnum_len]; exact hj), if_pos (by omega)]
  ·rw [if_neg e]
   by_cases h1 : j < k
   ·rw [if_pos h1, if_pos (by omega), h j h1]
   ·rw [if_neg h1, if_neg (by omega)]
 ·rw [List.getElem?_eq_none (by rw [tnum_len]; omega), List.getElem?_eq_none (by rw [tnum_len]; omega), if_neg (by omega)]
abbrev trimF (N : Nat) := fun (self : (Option MA × Int × Int × Int × Int) → M (Int × Int)) (v : Option MA × Int × Int × Int × Int) => F_0z N self v.1 v.2.1 v.2.2.1 v.2.2.2.1 v.2.2.2.2
theorem trim_self0 (K : Nat) (p : Option MA) (a b e : Int) : iter (K + 1) (trimF N) (p, 0, a, b, e) = ret (0, 0) := by
 rw [iter_S]
 unfold trimF F_0z
 rw [if_pos (by simp)]
theorem trim_loop (hg : g.ok) (hN : 5000 < N) {c : Nat} (hd : dep c ≠ 0) (hc : c < 75) (fs : FS g V T P) (hP : ∀ s, under c s → P ii s = T ii s) {self : (Option MA × Int × Int × Int × Int) → M (Int × Int)} {r : Sl × Int} {Tw : HA}
  (h0 : ∀ p a b e, self (p, 0, a, b, e) = ret (0, 0))
  (hs : ∀ (c' : Nat) (V : VolS) (T P : Tree), dep c' + 1 = dep c → FS g V T P → (∀ s, under c' s → P ii s = T ii s) → T ii c' ≠ 0 → Tri (stars [VolA v d g V, pts o (.cells (openC v i n a) false)]) (self (some ⟨o, 0⟩, (T ii c' : Int), (dep c' : Int), (fst' c' : Int), (from' : Int))) fun r => exA fun x : VolS × Tree × Tree => pu (r = (((x.2.1 ii c' : Nat) : Int), (0 : Int)) ∧ Trim g V T P ii c' from' x.1 x.2.1 x.2.2) (stars [VolA v d g x.1, pts o (.cells (openC v i n a) false)])) :
  ∀ (K k : Nat) (V1 : VolS) (T1 P1 : Tree), 32 - k < K → k ≤ 32 → TLoop g V T P ii c from' k V1 T1 P1 →
  Tri (stars [OwnA r.1 1 (ownC (tnum T T1 ii c k)), VolA v d g V1, pts o (.cells (openC v i n a) false), Tw]) (iter K (F_32 N (some ⟨o, 0⟩) (dep c : Int) (fst' c : Int) (from' : Int) self r (each c : Int)) (k : Int)) fun r' => exA fun x : VolS × Tree × Tree => pu (r' = .inl () ∧ TLoop g V T P ii c from' 32 x.1 x.2.1 x.2.2) (stars [OwnA r.1 1 (ownC (kids (x.2.1 ii) c)), VolA v d g x.1, pts o (.cells (openC v i n a) false), Tw]) := by
 intro K
 induction K with
 | zero => intro k V1 T1 P1 h; omega
 | succ K ih =>
  intro k V1 T1 P1 h hk hL
  rw [iter_S]
  generalize iter K (F_32 N (some ⟨o, 0⟩) (dep c : Int) (fst' c : Int) (from' : Int) self r (each c : Int)) = go at ih ⊢
  unfold F_32
  refine own_ln 0 rfl fun lr => ?_
  rw [ownC_len, tnum_len] at lr
  by_cases hkl : k < 32
  case neg =>
   obtain rfl : k = 32 := by omega
   rw [tnum_all]
   exact tri_f (by simp; omega) (tri_end [0, 0, 0, 0] fun q hq => ⟨(V1, T1, P1), ⟨rfl, hL⟩, hq⟩)
  refine tri_t (by simp; omega) ?_
  have hgt : (ownC (tnum T T1 ii c k))[k]? = some (.int .i64 (T ii (kid c k) : Nat)) := by
   have := tnum_get T T1 ii c k hkl
   rw [if_neg (by omega)] at this
   simp only [i64s, List.getElem?_map, this]
   rfl
  refine tri_rI 0 rfl (rd_own (by rw [ownC_len, tnum_len]; exact lr)) (i := k) (k := .i64) hgt ?_
  have e75 := kid_lt c hkl
  by_cases hz : T ii (kid c k) = 0
  ·have e0 : ((0 : Nat) : Int) = 0 := rfl
   rw [hz, e0, h0]
   refine tri_bdret ?_
   refine tri_sOwn 0 rfl (k := k) (x := 0) (by rw [tnum_len]; exact hkl) ?_
   refine tri_f (by simp) ?_
   rw [wr64 (by omega) (by omega)]
   have hT1 : T1 ii (kid c k) = 0 := by
    by_cases h75 : kid c k < 75
    ·rw [hL.same ii _ fun x => by
      obtain ⟨i, hi, hu⟩ := x.2
      have := under_one hd hkl (by omega) h75 (.inl rfl) hu
      omega]
     exact hz
    ·exact hL.fs.out _ _ (by omega)
   have hL' : TLoop g V T P ii c from' (k + 1) V1 T1 P1 := by
    by_cases h75 : kid c k < 75
    ·refine tloop_step hL hd hkl h75 (trim_zero hL.fs (fun s hu => ?_) hT1)
     have hs75 : s < 75 := by
      rcases hu with rfl | hu
      ·exact h75
      ·exact below_lt hu
     have hno : ¬ ∃ i, i < k ∧ under (kid c i) s := by
      rintro ⟨i, hi, hu'⟩
      have := under_one hd hkl (by omega) hs75 hu hu'
      omega
     rw [hL.p ii s (by omega), if_neg, hL.same ii s fun x => hno x.2]
     ·exact hP s (under_trans hd hkl h75 hu)
     ·rintro ⟨_, i, hi, hb⟩
      exact hno ⟨i, hi, .inr hb⟩
    ·exact tloop_skip hL h75
   have el := tnum_set (T0 := T) (T1 := T1) (T2 := T1) (ii := ii) (c := c) hkl fun _ _ => rfl
   rw [hT1] at el
   rw [el]
   exact tri_last [0, 0, 0, 0] (ih (k + 1) V1 T1 P1 (by omega) (by omega) hL')
  ·have h75 : kid c k < 75 := fs.pos hz
   have hold : ∀ s, under (kid c k) s → T1 ii s = T ii s ∧ P1 ii s = P ii s := fun s hu => by
    have hs75 : s < 75 := by
     rcases hu with rfl | hu
     ·exact h75
     ·exact below_lt hu
    have hno : ¬ ∃ i, i < k ∧ under (kid c i) s := by
     rintro ⟨i, hi, hu'⟩
     have := under_one hd hkl (by omega) hs75 hu hu'
     omega
    refine ⟨hL.same ii s fun x => hno x.2, ?_⟩
    rw [hL.p ii s (by omega), if_neg]
    rintro ⟨_, i, hi, hb⟩
    exact hno ⟨i, hi, .inr hb⟩
   have hT1 := (hold _ (.inl rfl)).1
   have ed := kid_dep hd hkl h75
   have ef := fst_kid hd hkl h75
   have ex : each c ≤ 32 := by unfold each; split <;> omega
   have hf : fst' c ≤ 75 := by unfold fst'; (repeat' split) <;> omega
   have hd2 : dep c ≤ 2 := by rcases dep_cases hd with rfl | rfl | rfl <;> decide
   have hmul : k * each c ≤ 31 * 32 := Nat.mul_le_mul (by omega) ex
   have a1 : wr .i64 ((dep c : Int) - 1) = ((dep (kid c k) : Nat) : Int) := by rw [wr64 (by omega) (by omega)]; omega
   have a2 : wr .i64 ((k : Int) * (each c : Int)) = ((k * each c : Nat) : Int) := by
    rw [show (k : Int) * (each c : Int) = ((k * each c : Nat) : Int) by simp, wr64 (by omega) (by omega)]
   have a3 : wr .i64 ((fst' c : Int) + ((k * each c : Nat) : Int)) = ((fst' (kid c k) : Nat) : Int) := by
    rw [ef, wr64 (by omega) (by omega)]
    omega
   rw [a1, a2, a3, ← hT1]
   refine tri_call [1, 1] (hs (kid c k) V1 T1 P1 (by omega) hL.fs (fun s hu => by
    obtain ⟨e1, e2⟩ := hold s hu
    rw [e1, e2]
    exact hP s (under_trans hd hkl h75 hu)) (by rw [hT1]; exact hz)) fun r17 => tri_ex fun x => tri_pu fun h17 => tri_flat ?_
   obtain ⟨V2, T2, P2⟩ := x
   obtain ⟨h17, R⟩ := h17
   have R : Trim g V1 T1 P1 ii (kid c k) from' V2 T2 P2 := R
   subst h17
   dsimp only [sel, rem, nth, del, cat, upd]
   refine tri_sOwn 2 rfl (k := k) (x := T2 ii (kid c k)) (by rw [tnum_len]; exact hkl) ?_
   refine tri_f (by simp) ?_
   rw [wr64 (by omega) (by omega)]
   have el := tnum_set (T0 := T) (T1 := T1) (T2 := T2) (ii := ii) (c := c) hkl fun j hj => by
    by_cases h75' : kid c j < 75
    ·refine R.same ii _ fun x => ?_
     have := under_one hd (k' := k) (by omega) hkl h75' (.inl rfl) x.2
     omega
    ·have := kid_lt c (show j < 32 by omega)
     rw [R.fs.out _ _ (by omega), hL.fs.out _ _ (by omega)]
   rw [el]
   exact tri_last [2, 0, 0, 0] (ih (k + 1) V2 T2 P2 (by omega) (by omega) (tloop_step hL hd hkl h75 R))
end
end Go.Moat
