/- Layer 16: which blocks are taken, one behind the other. -/
import Derived.Test.YtfieiaijdalkbaaGreatP16zd
namespace Go.Moat
open Go.Mini
def gg (G : Nat) : Geo := ⟨140, 4, G, 8⟩
theorem gg_ok {G : Nat} (h1 : 1 ≤ G) (h2 : G ≤ 20) : (gg G).ok := by
 refine ⟨show 3 ≤ 140 by omega, show 140 ≤ 1000 by omega, show 2 ≤ 4 by omega, show 4 ≤ 64 by omega, show 4 % 2 = 0 by omega, h1, show G ≤ 64 by omega, show 1 ≤ 8 by omega, ?_⟩
 show 8 ≤ 512 / G
 rw [Nat.le_div_iff_mul_le (by omega)]
 omega
theorem gg_roomy (G : Nat) : (gg G).roomy := by
 show needN ((gg G).M + 80) ≤ 140 - 1
 have : (gg G).M = 5 := by
  show 3 + 4 / 2 = 5
  omega
 rw [this]
 decide
structure AllocSt (G : Nat) (m : MetaS) (r1 r2 n1 n2 : Nat) : Prop where
 bits : ∀ b, b < 8 * G → getBit m.used b = decide (b < n1 ∨ (8 * ((n1 + 7) / 8) ≤ b ∧ b < 8 * ((n1 + 7) / 8) + n2))
 own : ∀ k, k < G → m.own[k]?.getD 0 = if k < (n1 + 7) / 8 then r1 + 1 else if k < (n1 + 7) / 8 + (n2 + 7) / 8 then r2 + 1 else 0
 ne : r1 ≠ r2
section
variable {G : Nat} {m : MetaS} {r1 r2 n1 n2 a : Nat}
theorem rowsOk_row {rs : List Row} (ok : RowsOk rs) {r : Nat} (hr : r < 16) (h0 : 0 < (rowN rs r).2) (hl : (rowN rs r).1 = a) : rs.findIdx? (isRow a) = some r := by
 have hlen : r < rs.length := by rw [ok.len]; exact hr
 have e : rowN rs r = rs[r] := by unfold rowN; rw [List.getElem?_eq_getElem hlen]; rfl
 rw [e] at h0 hl
 refine List.findIdx?_eq_some_iff_getElem.2 ⟨hlen, by unfold isRow; simp [h0, hl], fun j hj => ?_⟩
 unfold isRow
 simp only [Bool.and_eq_true, decide_eq_true_eq, not_and]
 intro hj0 hja
 have := ok.dist j r (by omega) hlen hj0 h0 (by rw [hja, hl])
 omega
theorem retN_row {rs : List Row} (h : rs.findIdx? (isRow a) = some r2) : retN rs a = some r2 := by
 unfold retN
 rw [h]
theorem alloc_step (h1 : 1 ≤ G) (h2 : G ≤ 20) (inv : Inv (gg G) m) (A : AllocSt G m r1 r2 n1 n2) (hr : m.rows.findIdx? (isRow a) = some r2) (ha : a < 65536) (hroom : 8 * ((n1 + 7) / 8) + n2 < 8 * G) :
  (m.alloc (gg G) a).1.2 = 0 ∧ AllocSt G (m.alloc (gg G) a).2 r1 r2 n1 (n2 + 1) ∧ (m.alloc (gg G) a).2.rows.findIdx? (isRow a) = some r2 := by
 have hB : (gg G).B = G * 8 := rfl
 have hP : (gg G).P = 8 := rfl
 have hul := inv.ok.usedl
 have hol : m.own.length = G := inv.ok.ownl
 have hr16 : r2 < m.rows.length := (List.findIdx?_eq_some_iff_getElem.1 hr).1
 have hrl := inv.ok.rows.len
 have og : ∀ k, k < G → m.own[k]? = some (m.own[k]?.getD 0) := fun k hk => by
  rw [List.getElem?_eq_getElem (by omega)]
  rfl
 have isAt : ∀ b, b < 8 * G → m.isAt (gg G) r2 b = decide ((8 * ((n1 + 7) / 8) ≤ b ∧ b < 8 * ((n1 + 7) / 8 + (n2 + 7) / 8)) ∧ ¬ b < 8 * ((n1 + 7) / 8) + n2) := fun b hb => by
  unfold MetaS.isAt
  rw [hP, og (b / 8) (by omega), A.own (b / 8) (by omega), A.bits b hb]
  have hne := A.ne
  by_cases c1 : b / 8 < (n1 + 7) / 8
  ·rw [if_pos c1]
   have e1 : (decide (some (r1 + 1) = some (r2 + 1))) = false := decide_eq_false (by simpa using hne)
   rw [e1, Bool.false_and]
   exact (decide_eq_false (by omega)).symm
  ·rw [if_neg c1]
   by_cases c2 : b / 8 < (n1 + 7) / 8 + (n2 + 7) / 8
   ·rw [if_pos c2]
    have e1 : (decide (some (r2 + 1) = some (r2 + 1))) = true := decide_eq_true rfl
    rw [e1, Bool.true_and]
    by_cases c3 : b < 8 * ((n1 + 7) / 8) + n2
    ·rw [decide_eq_true (by omega), decide_eq_false (by omega)]
     rfl
    ·rw [decide_eq_false (by omega), decide_eq_true (by omega)]
     rfl
   ·rw [if_neg c2]
    have e1 : (decide (some 0 = some (r2 + 1))) = false := decide_eq_false (by simp)
    rw [e1, Bool.false_and]
    exact (decide_eq_false (by omega)).symm
 by_cases h8 : n2 % 8 = 0
 ·have hat : m.atB (gg G) a = none := by
   unfold MetaS.atB
   rw [hr]
   dsimp only
   rw [List.find?_eq_none]
   intro b hb
   have := List.mem_range'_1.1 hb
   rw [hB] at this
   rw [isAt b (by omega)]
   simp only [decide_eq_true_eq]
   omega
  have hk0 : (n1 + 7) / 8 + n2 / 8 < G := by omega
  have hfr : m.own.findIdx? isNone0 = some ((n1 + 7) / 8 + n2 / 8) := by
   have oe : ∀ k (hk : k < m.own.length), m.own[k] = m.own[k]?.getD 0 := fun k hk => by rw [List.getElem?_eq_getElem hk]; rfl
   refine List.findIdx?_eq_some_iff_getElem.2 ⟨by omega, ?_, fun j hj => ?_⟩
   ·unfold isNone0
    rw [oe, A.own _ hk0, if_neg (by omega), if_neg (by omega)]
    rfl
   ·unfold isNone0
    rw [oe, A.own j (by omega)]
    by_cases c1 : j < (n1 + 7) / 8
    ·rw [if_pos c1]; simp
    ·rw [if_neg c1, if_pos (by omega)]; simp
  have hrn := retN_row hr
  have hcnt := cnt_le (gg_ok h1 h2) inv.ok r2
  have href := inv.refs r2 (by omega)
  have hE : retE m.rows a = 0 := by
   unfold retE
   rw [hrn]
   dsimp only
   rw [if_neg (by omega)]
  have hI : retI m.rows a = r2 := by unfold retI; rw [hrn]; rfl
  have e : m.alloc (gg G) a = ((((((n1 + 7) / 8 + n2 / 8) * 8 : Nat) : Int), 0), { m with rows := retR m.rows a, own := m.own.set ((n1 + 7) / 8 + n2 / 8) (r2 + 1), used := setBit m.used (((n1 + 7) / 8 + n2 / 8) * 8) true }) := by
   unfold MetaS.alloc
   rw [hat]
   dsimp only
   rw [hfr]
   dsimp only
   rw [if_pos hE, hI, hP]
  have hok := retR_ok inv.ok.rows ha hE
  rw [e]
  refine ⟨rfl, ⟨fun b hb => ?_, fun k hk => ?_, A.ne⟩, ?_⟩
  ·show getBit (setBit m.used (((n1 + 7) / 8 + n2 / 8) * 8) true) b = _
   rw [getBit_set (by omega), A.bits b hb]
   split
   ·exact (decide_eq_true (by omega)).symm
   ·exact decide_eq_decide.2 (by omega)
  ·show (m.own.set ((n1 + 7) / 8 + n2 / 8) (r2 + 1))[k]?.getD 0 = _
   rw [getD_set (by omega), A.own k hk]
   by_cases c : k = (n1 + 7) / 8 + n2 / 8
   ·rw [if_pos c, if_neg (by omega), if_pos (by omega)]
   ·rw [if_neg c]
    by_cases c1 : k < (n1 + 7) / 8
    ·rw [if_pos c1, if_pos c1]
    ·rw [if_neg c1, if_neg c1]
     by_cases c2 : k < (n1 + 7) / 8 + (n2 + 7) / 8
     ·rw [if_pos c2, if_pos (by omega)]
     ·rw [if_neg c2, if_neg (by omega)]
  ·refine rowsOk_row hok.1 (by omega) ?_ ?_
   ·rw [hok.2.2 r2, if_pos hI.symm]
    omega
   ·show (rowN (retR m.rows a) r2).1 = a
    unfold retR
    rw [hI, rowN_set hr16, if_pos rfl]
 ·have hat : m.atB (gg G) a = some (8 * ((n1 + 7) / 8) + n2) := by
   unfold MetaS.atB
   rw [hr]
   dsimp only
   rw [List.find?_range'_eq_some, hB]
   refine ⟨?_, List.mem_range'_1.2 (by omega), fun j hj hj2 => ?_⟩
   ·rw [isAt _ (by omega)]
    exact decide_eq_true (by omega)
   ·rw [isAt j (by omega), Bool.not_eq_true']
    exact decide_eq_false (by omega)
  have e : m.alloc (gg G) a = ((((8 * ((n1 + 7) / 8) + n2 : Nat) : Int), 0), { m with used := setBit m.used (8 * ((n1 + 7) / 8) + n2) true }) := by
   unfold MetaS.alloc
   rw [hat]
  rw [e]
  refine ⟨rfl, ⟨fun b hb => ?_, fun k hk => ?_, A.ne⟩, hr⟩
  ·show getBit (setBit m.used (8 * ((n1 + 7) / 8) + n2) true) b = _
   rw [getBit_set (by omega), A.bits b hb]
   split
   ·exact (decide_eq_true (by omega)).symm
   ·exact decide_eq_decide.2 (by omega)
  ·show m.own[k]?.getD 0 = _
   rw [A.own k hk, show (n2 + 1 + 7) / 8 = (n2 + 7) / 8 by omega]
theorem allocN_st (h1 : 1 ≤ G) (h2 : G ≤ 20) (ha : a < 65536) : ∀ (k n2 : Nat) (m : MetaS), Inv (gg G) m → AllocSt G m r1 r2 n1 n2 → m.rows.findIdx? (isRow a) = some r2 → 8 * ((n1 + 7) / 8) + n2 + k ≤ 8 * G → AllocSt G (allocN (gg G) a k m) r1 r2 n1 (n2 + k) ∧ Room (gg G) a k m
 | 0, n2, m, inv, A, hr, hk => ⟨A, fun j hj => by omega⟩
 | k + 1, n2, m, inv, A, hr, hk => by
  obtain ⟨e1, A1, hr1⟩ := alloc_step h1 h2 inv A hr ha (by omega)
  obtain ⟨A2, R2⟩ := allocN_st h1 h2 ha k (n2 + 1) _ (alloc_inv (gg_ok h1 h2) inv ha) A1 hr1 (by omega)
  refine ⟨by rw [show n2 + (k + 1) = n2 + 1 + k by omega]; exact A2, fun j hj => ?_⟩
  match j with
  | 0 => exact e1
  | j + 1 => exact R2 j (by omega)
theorem AllocSt.set (A : AllocSt G m r1 r2 n1 n2) (i : Nat) (x : Ino) : AllocSt G (m.set i x) r1 r2 n1 n2 := ⟨A.bits, A.own, A.ne⟩
theorem AllocSt.turn (A : AllocSt G m r1 r2 0 n2) {r3 : Nat} (h : r2 ≠ r3) : AllocSt G m r2 r3 n2 0 := by
 refine ⟨fun b hb => ?_, fun k hk => ?_, h⟩
 ·rw [A.bits b hb]
  exact decide_eq_decide.2 (by omega)
 ·rw [A.own k hk, if_neg (by omega), show (0 + 7) / 8 = 0 by decide, Nat.zero_add, Nat.add_zero]
  by_cases c : k < (n2 + 7) / 8
  ·rw [if_pos c, if_pos c]
  ·rw [if_neg c, if_neg c, if_neg (by omega)]
theorem alloc_row {g : Geo} (hg : g.ok) (inv : Inv g m) (ha : a < 65536) {r : Nat} (h : 0 < (rowN m.rows r).2) : (rowN (m.alloc g a).2.rows r).1 = (rowN m.rows r).1 ∧ 0 < (rowN (m.alloc g a).2.rows r).2 := by
 unfold MetaS.alloc
 split
 ·exact ⟨rfl, h⟩
 ·split
  ·exact ⟨rfl, h⟩
  ·split
   ·rename_i hE
    obtain ⟨i, h1, h2, h3⟩ := retE_zero hE
    have hok := retR_ok inv.ok.rows ha hE
    have hi := retN_some h1
    refine ⟨?_, ?_⟩
    ·show (rowN (retR m.rows a) r).1 = _
     unfold retR
     rw [h2, rowN_set hi.1]
     by_cases e : r = i
     ·subst e
      rw [if_pos rfl]
      rcases hi.2 with ⟨_, h5⟩ | ⟨h5, _⟩
      ·exact h5.symm
      ·omega
     ·rw [if_neg e]
    ·show 0 < (rowN (retR m.rows a) r).2
     rw [hok.2.2 r]
     omega
   ·exact ⟨rfl, h⟩
theorem allocN_row {g : Geo} (hg : g.ok) (ha : a < 65536) {r : Nat} : ∀ (k : Nat) (m : MetaS), Inv g m → 0 < (rowN m.rows r).2 → (rowN (allocN g a k m).rows r).1 = (rowN m.rows r).1 ∧ 0 < (rowN (allocN g a k m).rows r).2
 | 0, m, _, h => ⟨rfl, h⟩
 | k + 1, m, inv, h => by
  obtain ⟨e1, h1⟩ := alloc_row hg inv ha h
  obtain ⟨e2, h2⟩ := allocN_row hg ha k _ (alloc_inv hg inv ha) h1
  exact ⟨e2.trans e1, h2⟩
end
end Go.Moat

/- Layer 16: a volume with three files. -/
namespace Go.Moat
open Go.Mini
def ms (G : Nat) : Nat → MetaS
 | 0 => newM (gg G)
 | k + 1 => ((ms G k).make 1 (1 + k % 2)).2
def m3 (G : Nat) : MetaS := ⟨[(1, 2), (2, 1), (0, 0), (0, 0), (0, 0), (0, 0), (0, 0), (0, 0), (0, 0), (0, 0), (0, 0), (0, 0), (0, 0), (0, 0), (0, 0), (0, 0)], List.replicate G 0, zeros64, [mkIno 1 0, mkIno 1 1, mkIno 1 0, Ino.z]⟩
theorem ms3 (G : Nat) : ms G 3 = m3 G := rfl
theorem ms_num (G : Nat) {k : Nat} (h : k < 3) : ((ms G k).make 1 (1 + k % 2)).1 = ((k : Int), 0) := by
 match k with
 | 0 => rfl
 | 1 => rfl
 | 2 => rfl
 | k + 3 => omega
theorem ms_inv {G : Nat} (h1 : 1 ≤ G) (h2 : G ≤ 20) : ∀ k, Inv (gg G) (ms G k)
 | 0 => newM_inv (gg G)
 | k + 1 => make_inv (gg_ok h1 h2) (ms_inv h1 h2 k) (by omega)
section
variable {N : Nat} {β : Type} {l : List HA} {S : β → HA} {v d o : Nat} {G : Nat} {V : VolS} {T : Tree}
theorem built_loop (h1 : 1 ≤ G) (h2 : G ≤ 20) (hN : 5000 < N) : ∀ (K k : Nat), 3 - k < K → k ≤ 3 →
  Tri (stars [VolA v d (gg G) ((newV (gg G)).wM (ms G k))]) (iter K (F_2v N (some ⟨v, 0⟩, 0)) (k : Int)) fun r => pu (r = .inl ()) (stars [VolA v d (gg G) ((newV (gg G)).wM (ms G 3))]) := by
 intro K
 induction K with
 | zero => intro k h; omega
 | succ K ih =>
  intro k h hk
  rw [iter_S]
  generalize iter K (F_2v N (some ⟨v, 0⟩, 0)) = go at ih ⊢
  unfold F_2v
  by_cases hk3 : k < 3
  case neg =>
   obtain rfl : k = 3 := by omega
   exact tri_f (by simp) (tri_end [0] fun q hq => ⟨rfl, hq⟩)
  refine tri_t (by simp; omega) ?_
  have el : wr .u16 (wr .i64 ((1 : Int) + ((k : Int).tmod (2 : Int)))) = ((1 + k % 2 : Nat) : Int) := by
   match k, hk3 with
   | 0, _ => rfl
   | 1, _ => rfl
   | 2, _ => rfl
  dsimp only
  rw [el]
  refine tri_call [0] (vmake_spec (V := (newV (gg G)).wM (ms G k)) (kind := 1) (gg_ok h1 h2) (ms_inv h1 h2 k).ok (by omega) (by omega) hN) fun r8 => tri_pu fun h8 => tri_flat ?_
  have e8 : r8 = ((k : Int), 0) := h8.trans (ms_num G hk3)
  subst e8
  dsimp only [sel, rem, nth, del, cat, upd]
  refine tri_f (by simp) ?_
  rw [wr64 (by omega) (by omega)]
  exact tri_last [0] (ih (k + 1) (by omega) (by omega))
theorem built16_spec (h1 : 1 ≤ G) (h2 : G ≤ 20) (hN : 5000 < N) :
  Tri (stars []) (F_1i N (G : Int)) fun r => exA fun x : Nat × Nat => pu (r = (some ⟨x.2, 0⟩, true)) (stars [VolA x.2 x.1 (gg G) ((newV (gg G)).wM (m3 G))]) := by
 have hg := gg_ok h1 h2
 have hall := hg.all_le
 have inv := newM_inv (gg G)
 unfold F_1i
 refine tri_call [] (show Tri _ (F_0f N (gg G).t) _ from plan_spec hg) fun r2 => tri_pu fun h2 => tri_flat ?_
 subst h2
 dsimp only [sel, rem, nth, del, cat, upd]
 have e : ((gg G).lay).2.2.2.2.2.2 = ((gg G).all : Int) := rfl
 rw [e]
 refine tri_call [] (disk_new hall) fun r3 => tri_ex fun d => tri_pu fun h3 => tri_flat ?_
 subst h3
 dsimp only [sel, rem, nth, del, cat, upd]
 refine tri_call [0] (show Tri _ (F_19 N (some ⟨d, 0⟩) (gg G).t) _ from format_spec (d := d) hg (gg_roomy G) hN) fun r4 => tri_pu fun h4 => tri_flat ?_
 subst h4
 dsimp only [sel, rem, nth, del, cat, upd]
 refine tri_f (by simp) ?_
 refine tri_call [0] (mount_spec hg (gg_roomy G) inv.ok inv.rf (inv.gr hg) (clean0 hg) hN) fun r5 => tri_ex fun v => tri_pu fun h5 => tri_flat ?_
 subst h5
 dsimp only [sel, rem, nth, del, cat, upd]
 refine tri_f (by simp) ?_
 refine tri_call [0] (built_loop (v := v) (d := d) h1 ‹G ≤ 20› hN N 0 (by omega) (by omega)) fun j9 => tri_pu fun hj => tri_flat ?_
 subst hj
 dsimp only [sel, rem, nth, del, cat, upd]
 exact tri_end [0] fun q hq => ⟨(d, v), rfl, hq⟩
structure LS (G : Nat) (V : VolS) (T : Tree) (r1 r2 n1 n2 : Nat) : Prop where
 fv : FV (gg G) V T
 zero : Zero (gg G) V T
 al : AllocSt G V.n.m r1 r2 n1 n2
 len : V.n.m.ino.length = 4
 ino : ∀ j, (inoN V.n.m.ino j).k = (if j < 3 then 1 else 0) ∧ (inoN V.n.m.ino j).r = if j = 1 then 1 else 0
 row0 : (rowN V.n.m.rows 0).1 = 1 ∧ 0 < (rowN V.n.m.rows 0).2
 row1 : (rowN V.n.m.rows 1).1 = 2 ∧ 0 < (rowN V.n.m.rows 1).2
def T0 : Tree := fun _ _ => 0
theorem m3_inos (G : Nat) (j : Nat) : inoN (m3 G).ino j = if j = 0 then mkIno 1 0 else if j = 1 then mkIno 1 1 else if j = 2 then mkIno 1 0 else Ino.z := by
 match j with
 | 0 => rfl
 | 1 => rfl
 | 2 => rfl
 | 3 => rfl
 | j + 4 =>
  rw [if_neg (by omega), if_neg (by omega), if_neg (by omega)]
  unfold inoN m3
  rw [List.getElem?_eq_none (by simp)]
  rfl
theorem zat (n : Ino) (h : n.xs.1 = List.replicate 12 0) (j : Nat) : n.at j = 0 := by
 unfold Ino.at
 rw [h, List.getElem?_replicate]
 split <;> rfl
theorem m3_at (G : Nat) (i j : Nat) : (inoN (m3 G).ino i).at j = 0 := by
 rw [m3_inos]
 split
 ·exact zat _ rfl j
 ·split
  ·exact zat _ rfl j
  ·split
   ·exact zat _ rfl j
   ·exact zat _ rfl j
theorem ls_start (h1 : 1 ≤ G) (h2 : G ≤ 20) {r1 r2 : Nat} (hne : r1 ≠ r2) : LS G ((newV (gg G)).wM (m3 G)) T0 r1 r2 0 0 := by
 have hg := gg_ok h1 h2
 have inv := ms_inv h1 h2 3
 rw [ms3] at inv
 have nok := newV_ok hg
 have ok : VOk (gg G) ((newV (gg G)).wM (m3 G)) := nok.wM inv fun b _ _ => zeros_bit b
 have fs : FS (gg G) ((newV (gg G)).wM (m3 G)) T0 T0 := by
  refine ⟨ok, fun _ _ => Nat.zero_le _, fun _ _ _ => rfl, fun _ _ _ _ h => absurd rfl h, fun _ _ h => absurd rfl h, fun i s hd => ?_, fun b hb => ?_, fun _ => rfl⟩
  ·have e : kids (T0 i) s = List.replicate 32 0 := by
    apply List.ext_getElem?
    intro j
    by_cases hj : j < 32
    ·rw [kids_get _ _ hj, List.getElem?_replicate, if_pos hj]; rfl
    ·rw [List.getElem?_eq_none (by rw [kids_len]; omega), List.getElem?_eq_none (by rw [List.length_replicate]; omega)]
   rw [e]
   refine ⟨⟨rfl, fun p hp => by rw [List.eq_of_mem_replicate hp]; omega⟩, ?_⟩
   rw [if_pos (show T0 i s = 0 from rfl)]
  ·have := nok.zero b hb (zeros_bit b)
   show ((newV (gg G)).readB (gg G) b).length = 64
   rw [this]
   rfl
 refine ⟨⟨fs, fun i k hk => m3_at G i _⟩, fun i x _ _ => fb_none rfl, ⟨fun b hb => ?_, fun k hk => ?_, hne⟩, rfl, fun j => ?_, ⟨rfl, show 0 < 2 by omega⟩, ⟨rfl, show 0 < 1 by omega⟩⟩
 ·rw [show getBit ((newV (gg G)).wM (m3 G)).n.m.used b = false from zeros_bit b]
  exact (decide_eq_false (by omega)).symm
 ·show (List.replicate G 0)[k]?.getD 0 = _
  rw [List.getElem?_replicate, if_pos hk]
  rfl
 ·show (inoN (m3 G).ino j).k = _ ∧ (inoN (m3 G).ino j).r = _
  rw [m3_inos]
  by_cases c0 : j = 0
  ·subst c0; exact ⟨rfl, rfl⟩
  ·by_cases c1 : j = 1
   ·subst c1; exact ⟨rfl, rfl⟩
   ·by_cases c2 : j = 2
    ·subst c2; exact ⟨rfl, rfl⟩
    ·rw [if_neg c0, if_neg c1, if_neg c2, if_neg (by omega), if_neg c1]
     exact ⟨rfl, rfl⟩
section
variable {r1 r2 n1 n2 ii at' : Nat} {bs : List UInt8} {Tb : HA} {s : Sl}
theorem LS.hasE (L : LS G V T r1 r2 n1 n2) (i : Int) : V.n.m.hasE i = if 0 ≤ i ∧ i < 3 then 0 else if i = 3 then 2 else 1 := by
 unfold MetaS.hasE
 rw [L.len, (L.ino i.toNat).1]
 by_cases c : 0 ≤ i ∧ i < 3
 ·rw [if_pos c, if_pos (by omega), if_pos (show i.toNat < 3 by omega), if_neg (by decide)]
 ·rw [if_neg c]
  by_cases c3 : i = 3
  ·subst c3
   rfl
  ·rw [if_neg c3, if_neg (by omega)]
theorem LS.hasN (L : LS G V T r1 r2 n1 n2) {ii : Nat} (h : ii < 3) : V.n.m.hasE (ii : Int) = 0 := by
 rw [L.hasE, if_pos (by omega)]
structure WEff (g : Geo) (V : VolS) (T : Tree) (ii at' : Nat) (bs : List UInt8) (V' : VolS) (T' : Tree) : Prop where
 fb : ∀ j x, fb g V' T' j x = if j = ii ∧ at' ≤ x ∧ x < at' + bs.length then bs[x - at']?.getD 0 else fb g V T j x
 nz : ∀ j s, T' j s ≠ 0 ↔ T j s ≠ 0 ∨ (j = ii ∧ ∃ k, at' / 64 ≤ k ∧ 64 * k < at' + bs.length ∧ 0 < bs.length ∧ s ∈ chainK k)
 size : ∀ j, sizeN V'.n.m j = if j = ii ∧ bs ≠ [] then max (sizeN V.n.m j) (at' + bs.length) else sizeN V.n.m j
theorem write_ls (h1 : 1 ≤ G) (h2 : G ≤ 20) (hN : 5000 < N) (L : LS G V T r1 r2 n1 n2) (hii : ii < 3) (hr2 : (if ii = 1 then 1 else 0) = r2) (hmax : at' + bs.length ≤ 3840) (hroom : 8 * ((n1 + 7) / 8) + n2 + 3 * ((at' % 64 + bs.length + 63) / 64) ≤ 8 * G) (hr : RdC Tb s 1 (bytesOf bs)) :
  Tri (stars [VolA v d (gg G) V, Tb]) (F_00 N (some ⟨v, 0⟩) (ii : Int) (at' : Int) s) fun r => exA fun x : VolS × Tree × Nat => pu (r = 0 ∧ LS G x.1 x.2.1 r1 r2 n1 x.2.2 ∧ x.2.2 ≤ n2 + 3 * ((at' % 64 + bs.length + 63) / 64) ∧ WEff (gg G) V T ii at' bs x.1 x.2.1) (stars [VolA v d (gg G) x.1, Tb]) := by
 have hg := gg_ok h1 h2
 have hE := L.hasN hii
 have hin := L.ino ii
 rw [hr2] at hin
 have hinv := L.fv.fs.ok.inv
 by_cases hb : bs = []
 ·subst hb
  have hw : wE V.n.m (ii : Int) (at' : Int) ([] : List UInt8).length = 0 := by
   unfold wE
   rw [if_neg fun c => c hE, if_neg (by omega), if_neg (by simp; simp at hmax; omega)]
  have e0 : ∀ m : M Int, bd m ret = m := fun m => by
   funext h
   unfold bd
   cases m h <;> rfl
  rw [← e0 (F_00 N _ _ _ _)]
  refine tri_call [0] (fwrite_none (bs := []) hg hinv.ok (i := (ii : Int)) (at' := (at' : Int)) (by simp at hmax; omega) (bl_len hr) (.inr rfl)) fun r => tri_pu fun h => tri_flat ?_
  rw [hw] at h
  subst h
  refine tri_end [0, 0] fun q hq => ⟨(V, T, n2), ⟨rfl, L, Nat.le_add_right _ _, ⟨fun j x => ?_, fun j s => ?_, fun j => ?_⟩⟩, hq⟩
  ·rw [if_neg]
   rintro ⟨_, h3, h4⟩
   simp at h4
   omega
  ·constructor
   ·exact .inl
   ·rintro (h | ⟨_, k, _, _, h, _⟩)
    ·exact h
    ·simp at h
  ·rw [if_neg fun x => x.2 rfl]
 ·have elb : V.n.m.inodeL (ii : Int) = (rowN V.n.m.rows r2).1 := by
   unfold MetaS.inodeL
   rw [if_pos hE, Int.toNat_natCast, hin.2]
  have hrow : 0 < (rowN V.n.m.rows r2).2 ∧ r2 < 16 ∧ (rowN V.n.m.rows r2).1 < 65536 := by
   rw [← hr2]
   split
   ·rw [L.row1.1]; exact ⟨L.row1.2, by omega, by omega⟩
   ·rw [L.row0.1]; exact ⟨L.row0.2, by omega, by omega⟩
  have hrow2 := rowsOk_row (a := V.n.m.inodeL (ii : Int)) hinv.ok.rows hrow.2.1 hrow.1 elb.symm
  have hlab : V.n.m.inodeL (ii : Int) < 65536 := by rw [elb]; exact hrow.2.2
  have hst := allocN_st h1 h2 hlab (3 * ((at' % 64 + bs.length + 63) / 64)) n2 V.n.m hinv L.al hrow2 hroom
  refine (fwrite_spec hg hN L.fv hE hmax hb hr hlab hst.2).post fun r q hq => ?_
  obtain ⟨x, ⟨hr0, W⟩, hq⟩ := hq
  obtain ⟨V', T'⟩ := x
  have W : Wrote (gg G) V T ii at' bs V' T' := W
  obtain ⟨u, n', hu, em, k1, k2, k3, k4⟩ := W.al
  have hst2 := allocN_st h1 h2 hlab u n2 V.n.m hinv L.al hrow2 (by omega)
  have eino : V'.n.m.ino = V.n.m.ino.set ii n' := by rw [em]; show (allocN _ _ _ _).ino.set ii n' = _; rw [allocN_ino]
  have hlen : ii < V.n.m.ino.length := by rw [L.len]; omega
  have esz : ∀ j, sizeN V'.n.m j = if j = ii ∧ bs ≠ [] then max (sizeN V.n.m j) (at' + bs.length) else sizeN V.n.m j := fun j => by
   unfold sizeN
   rw [eino, inoN_set hlen]
   by_cases e : j = ii
   ·subst e
    rw [if_pos rfl, if_pos ⟨rfl, hb⟩, k4]
    omega
   ·rw [if_neg e, if_neg fun x => e x.1]
  refine ⟨(V', T', n2 + u), ⟨hr0, ⟨W.fv, fun i x hx hx2 => ?_, ?_, ?_, fun j => ?_, ?_, ?_⟩, ?_, ⟨W.fb, fun j s => ?_, esz⟩⟩, hq⟩
  ·show fb (gg G) V' T' i x = 0
   rw [esz] at hx
   rw [W.fb, if_neg]
   ·refine L.zero i x ?_ hx2
    split at hx <;> omega
   ·rintro ⟨rfl, h3, h4⟩
    rw [if_pos ⟨rfl, hb⟩] at hx
    omega
  ·show AllocSt G V'.n.m r1 r2 n1 (n2 + u)
   rw [em]
   exact hst2.1.set ii n'
  ·show V'.n.m.ino.length = 4
   rw [eino, List.length_set, L.len]
  ·show (inoN V'.n.m.ino j).k = _ ∧ (inoN V'.n.m.ino j).r = _
   rw [eino, inoN_set hlen]
   split
   ·rename_i e
    subst e
    rw [k1, k2]
    exact L.ino j
   ·exact L.ino j
  ·show (rowN V'.n.m.rows 0).1 = 1 ∧ _
   rw [em]
   have := allocN_row hg hlab (r := 0) u V.n.m hinv L.row0.2
   exact ⟨this.1.trans L.row0.1, this.2⟩
  ·show (rowN V'.n.m.rows 1).1 = 2 ∧ _
   rw [em]
   have := allocN_row hg hlab (r := 1) u V.n.m hinv L.row1.2
   exact ⟨this.1.trans L.row1.1, this.2⟩
  ·show n2 + u ≤ _
   omega
  ·show T' j s ≠ 0 ↔ _
   by_cases e : j = ii
   ·subst e
    rw [W.nz]
    constructor
    ·rintro (h | h)
     ·exact .inl h
     ·exact .inr ⟨rfl, h⟩
    ·rintro (h | h)
     ·exact .inl h
     ·exact .inr h.2
   ·rw [W.same j s e]
    constructor
    ·exact .inl
    ·rintro (h | h)
     ·exact h
     ·exact absurd h.1 e
def rd16 (g : Geo) (V : VolS) (T : Tree) (i at' n : Nat) : List UInt8 := readL (fb g V T i) at' (min n (sizeN V.n.m i - at'))
theorem read_ls (hg : (gg G).ok) (hN : 5000 < N) (F : FV (gg G) V T) (hE : V.n.m.hasE (ii : Int) = 0) {n : Nat} {x y : Int} (hx : x = at') (hy : y = n) (hat : at' < 2 ^ 63) :
  Tri (stars [VolA v d (gg G) V]) (F_0n N (some ⟨v, 0⟩) (ii : Int) x y) fun r => pu (r.2 = 0 ∧ r.1.len = (rd16 (gg G) V T ii at' n).length) (stars [OwnA r.1 1 (bytesOf (rd16 (gg G) V T ii at' n)), VolA v d (gg G) V]) := by
 subst hx hy
 refine (fread_spec hg hN F (i := (ii : Int)) (at' := (at' : Int)) (n := (n : Int)) (by omega)).post fun r q hq => ?_
 have er : rE V.n.m (ii : Int) (at' : Int) (n : Int) = 0 := by
  unfold rE
  rw [if_neg fun c => c hE, if_neg (by omega)]
 have en : rN V.n.m (ii : Int) (at' : Int) (n : Int) = min n (sizeN V.n.m ii - at') := by
  unfold rN
  rw [er, if_pos rfl]
  rfl
 rw [er, en, Int.toNat_natCast, Int.toNat_natCast] at hq
 obtain ⟨h1, hq⟩ := hq
 refine ⟨⟨h1, ?_⟩, hq⟩
 obtain ⟨q1, q2, h3, _⟩ := hq
 have := h3.len
 rw [bytes_len] at this
 show r.1.len = (rd16 (gg G) V T ii at' n).length
 unfold rd16
 omega
structure CS (G : Nat) (V : VolS) (T : Tree) : Prop where
 fv : FV (gg G) V T
 zero : Zero (gg G) V T
theorem cut_cs (hg : (gg G).ok) (hN : 5000 < N) (C : CS G V T) (hE : V.n.m.hasE (ii : Int) = 0) {size : Nat} {x : Int} (hx : x = size) (hsz : size ≤ 3840) :
  Tri (stars [VolA v d (gg G) V]) (F_01 N (some ⟨v, 0⟩) (ii : Int) x) fun r => exA fun x : VolS × Tree => pu (r = 0 ∧ CS G x.1 x.2 ∧ (∀ j x', x' < 3840 → fb (gg G) x.1 x.2 j x' = if j = ii ∧ size ≤ x' then 0 else fb (gg G) V T j x') ∧ (∀ j, sizeN x.1.n.m j = if j = ii then size else sizeN V.n.m j) ∧ (∀ i, x.1.n.m.hasE i = V.n.m.hasE i)) (stars [VolA v d (gg G) x.1]) := by
 subst hx
 refine (cut_spec hg hN C.fv C.zero hE hsz).post fun r q hq => ?_
 obtain ⟨x, ⟨hr0, P⟩, hq⟩ := hq
 obtain ⟨V', T'⟩ := x
 have P : CutP (gg G) V T ii size V' T' := P
 obtain ⟨n', eino, k1, k2, k3, k4⟩ := P.ino
 have hlt := hasE_lt hE
 have esz : ∀ j, sizeN V'.n.m j = if j = ii then size else sizeN V.n.m j := fun j => by
  unfold sizeN
  rw [eino, inoN_set hlt.1]
  by_cases e : j = ii
  ·rw [if_pos e, if_pos e, k4]
   exact Int.toNat_natCast _
  ·rw [if_neg e, if_neg e]
 refine ⟨(V', T'), ⟨hr0, ⟨P.fv, fun i x hx hx2 => ?_⟩, P.fb, esz, fun i => ?_⟩, hq⟩
 ·show fb (gg G) V' T' i x = 0
  rw [esz] at hx
  rw [P.fb i x hx2]
  split
  ·rfl
  ·rename_i hn
   refine C.zero i x ?_ hx2
   by_cases e : i = ii
   ·rw [if_pos e] at hx; exact absurd ⟨e, hx⟩ hn
   ·rw [if_neg e] at hx; exact hx
 ·show V'.n.m.hasE i = _
  unfold MetaS.hasE
  rw [eino, List.length_set, inoN_set hlt.1]
  by_cases e : i.toNat = ii
  ·rw [if_pos e, e, k1]
  ·rw [if_neg e]
end
end
end Go.Moat

/- Layer 16: what is at the head of all its statements. -/
namespace Go.Moat
open Go.Mini
section
variable {N : Nat} {β : Type} {l : List HA} {S : β → HA} {v d o : Nat} {G : Nat} {V : VolS} {T : Tree}
theorem shown16_spec (hN : 5000 < N) : Tri (stars []) (F_2u N) fun r => pu (r = true) (stars []) := by
 have hg : (gg 2).ok := gg_ok (by omega) (by omega)
 unfold F_2u
 refine tri_call [] (built16_spec (N := N) (G := 2) (by omega) (by omega) hN) fun r1 => tri_ex fun x => tri_pu fun h1 => tri_flat ?_
 obtain ⟨d, v⟩ := x
 subst h1
 dsimp only [sel, rem, nth, del, cat, upd]
 refine tri_f (by simp) ?_
 have L0 := ls_start (G := 2) (by omega) (by omega) (show 1 ≠ 0 by omega)
 have fb0 : ∀ j x, fb (gg 2) ((newV (gg 2)).wM (m3 2)) T0 j x = 0 := fun j x => fb_none rfl
 have sz0 : sizeN ((newV (gg 2)).wM (m3 2)).n.m 0 = 0 := rfl
 have nz0 : ∀ s, T0 0 s = 0 := fun _ => rfl
 generalize ((newV (gg 2)).wM (m3 2)) = V0 at L0 fb0 sz0 ⊢
 generalize T0 = TT at L0 fb0 nz0
 refine tri_alloc fun b => ?_
 refine tri_markB 0 rfl (by omega) ?_
 refine tri_call [1, 0] (write_ls (bs := [97, 98]) (ii := 0) (at' := 100) (Tb := pts b (.cells (bytesOf [97, 98]) false)) (by omega) (by omega) hN L0 (by omega) rfl (by simp) (by simp) (rd_pts0 (by simp [bytesOf]))) fun r4 => tri_ex fun x => tri_pu fun h4 => tri_flat ?_
 obtain ⟨V1, T1, n2⟩ := x
 obtain ⟨h4, L1, _, W⟩ := h4
 have L1 : LS 2 V1 T1 1 0 0 n2 := L1
 have W : WEff (gg 2) V0 TT 0 100 [97, 98] V1 T1 := W
 subst h4
 have sz1 : sizeN V1.n.m 0 = 102 := by rw [W.size, sz0]; rfl
 have hE1 := L1.hasN (ii := 0) (by omega)
 dsimp only [sel, rem, nth, del, cat, upd]
 refine tri_call [0] (vinode_spec hg L1.fv.fs.ok.inv.ok ((0 : Nat) : Int)) fun r5 => tri_pu fun h5 => tri_flat ?_
 rw [inodeN_at hE1] at h5
 subst h5
 dsimp only [sel, rem, nth, del, cat, upd]
 rw [zino_c]
 refine ino_copy1 ?_
 rw [over_ino]
 refine tri_call [0] (read_ls (ii := 0) (at' := 98) (n := 9) hg hN L1.fv hE1 rfl rfl (by omega)) fun r6 => tri_pu fun h6 => tri_flat ?_
 dsimp only [sel, rem, nth, del, cat, upd]
 refine tri_call [1] (blocks_spec hg hN L1.fv ((0 : Nat) : Int)) fun r7 => tri_pu fun h7 => tri_flat ?_
 rw [hE1] at h7
 simp only [if_pos hE1]
 dsimp only [sel, rem, nth, del, cat, upd]
 have C1 : CS 2 V1 T1 := ⟨L1.fv, L1.zero⟩
 refine tri_call [1] (cut_cs (ii := 0) (size := 101) hg hN C1 hE1 rfl (by omega)) fun r8 => tri_ex fun x => tri_pu fun h8 => tri_flat ?_
 obtain ⟨V2, T2⟩ := x
 obtain ⟨h8, C2, fb2, sz2, e2⟩ := h8
 have C2 : CS 2 V2 T2 := C2
 have fb2 : ∀ j x', x' < 3840 → fb (gg 2) V2 T2 j x' = if j = 0 ∧ 101 ≤ x' then 0 else fb (gg 2) V1 T1 j x' := fb2
 have e2 : ∀ i, V2.n.m.hasE i = V1.n.m.hasE i := e2
 subst h8
 dsimp only [sel, rem, nth, del, cat, upd]
 refine tri_call [0] (cut_cs (ii := 0) (size := 102) hg hN C2 (by rw [e2]; exact hE1) rfl (by omega)) fun r9 => tri_ex fun x => tri_pu fun h9 => tri_flat ?_
 obtain ⟨V3, T3⟩ := x
 obtain ⟨h9, C3, fb3, sz3, e3⟩ := h9
 have C3 : CS 2 V3 T3 := C3
 have fb3 : ∀ j x', x' < 3840 → fb (gg 2) V3 T3 j x' = if j = 0 ∧ 102 ≤ x' then 0 else fb (gg 2) V2 T2 j x' := fb3
 have e3 : ∀ i, V3.n.m.hasE i = V2.n.m.hasE i := e3
 have sz3 : sizeN V3.n.m 0 = 102 := by
  have := sz3 0
  rwa [if_pos rfl] at this
 subst h9
 dsimp only [sel, rem, nth, del, cat, upd]
 refine tri_call [0] (read_ls (ii := 0) (at' := 100) (n := 9) hg hN C3.fv (by rw [e3, e2]; exact hE1) rfl rfl (by omega)) fun r10 => tri_pu fun h10 => tri_flat ?_
 dsimp only [sel, rem, nth, del, cat, upd]
 have b1 : rd16 (gg 2) V1 T1 0 98 9 = [0, 0, 97, 98] := by
  unfold rd16
  rw [sz1]
  show [fb (gg 2) V1 T1 0 98, fb (gg 2) V1 T1 0 99, fb (gg 2) V1 T1 0 100, fb (gg 2) V1 T1 0 101] = _
  rw [W.fb, W.fb, W.fb, W.fb, if_neg (by simp), if_neg (by simp), if_pos (by simp), if_pos (by simp), fb0, fb0]
  rfl
 have b3 : rd16 (gg 2) V3 T3 0 100 9 = [97, 0] := by
  unfold rd16
  rw [sz3]
  show [fb (gg 2) V3 T3 0 100, fb (gg 2) V3 T3 0 101] = _
  rw [fb3 _ _ (by omega), fb3 _ _ (by omega), if_neg (by simp), if_neg (by simp), fb2 _ _ (by omega), fb2 _ _ (by omega), if_neg (by simp), if_pos (by simp), W.fb, if_pos (by simp)]
  rfl
 have bl : (blocksL (T1 0)).length = 1 := by
  have : (blocksL (T1 0)).length = (blocksL fun s => if s = 1 then 1 else 0).length := blocksL_same fun s => by
   rw [W.nz, nz0]
   constructor
   ·rintro (h | ⟨_, k, h1, h2, _, h4⟩)
    ·exact absurd rfl h
    ·obtain rfl : k = 1 := by simp at h2; omega
     have : s = 1 := by simpa [chainK, chainOf, rs, wayP] using h4
     rw [if_pos this]
     decide
   ·intro h
    refine .inr ⟨rfl, 1, by omega, by simp, by simp, ?_⟩
    have : s = 1 := by
     apply Decidable.byContradiction
     intro c
     rw [if_neg c] at h
     exact h rfl
    subst this
    simp [chainK, chainOf, rs, wayP]
  rw [this]
  decide
 rw [b1, b3] at *
 refine own_ln 2 rfl fun l7 => ?_
 rw [ownC_len, Int.toNat_natCast, bl] at l7
 have at1 : (inoN V1.n.m.ino 0).at 1 = 102 := by
  have h0 := (inoN_ok L1.fv.fs.ok.inv.ok hE1).s0
  unfold sizeN at sz1
  omega
 refine tri_call [0, 0, 0, 0] (Q := fun c => pu (c = true) (stars [OwnA r10.1 1 (bytesOf [97, 0]), VolA v d (gg 2) V3, OwnA r7.1 1 (ownC (blocksL (T1 (Int.toNat ((0 : Nat) : Int))))), OwnA r6.1 1 (bytesOf [0, 0, 97, 98])])) ?_ fun c13 => tri_pu fun h13 => tri_flat ?_
 ·refine tri_t (by simp) ?_
  rw [inoC_at _ (i := 1) (by omega), at1]
  refine tri_some (tri_dI (tri_end [0, 0, 0, 0] fun q hq => ⟨by simp, hq⟩))
 subst h13
 dsimp only [sel, rem, nth, del, cat, upd]
 refine tri_call [0, 0, 0, 0] (Q := fun c => pu (c = true) (stars [OwnA r10.1 1 (bytesOf [97, 0]), VolA v d (gg 2) V3, OwnA r7.1 1 (ownC (blocksL (T1 (Int.toNat ((0 : Nat) : Int)))))])) ?_ fun c15 => tri_pu fun h15 => tri_flat ?_
 ·refine tri_t rfl ?_
  refine own_ln 3 rfl fun l6 => ?_
  refine tri_rStr 3 rfl (bs := [0, 0, 97, 98]) (rd_own l6) ?_
  exact tri_end [0, 0, 0] fun q hq => ⟨by simp, hq⟩
 subst h15
 dsimp only [sel, rem, nth, del, cat, upd]
 refine tri_call [0] (Q := fun c => pu (c = true) (stars [])) ?_ fun c17 => tri_pu fun h17 => tri_flat ?_
 ·refine tri_t (by simp [h6.1, h7]; omega) ?_
  refine own_ln 0 rfl fun l10 => ?_
  refine tri_rStr 0 rfl (bs := [97, 0]) (rd_own l10) ?_
  exact tri_end [] fun q hq => ⟨by simp, hq⟩
 subst h17
 dsimp only [sel, rem, nth, del, cat, upd]
 exact tri_end [] fun q hq => ⟨by simp [h10.1], hq⟩
end
end Go.Moat

/- Layer 16: what was written is read. -/
namespace Go.Moat
open Go.Mini
section
variable {N : Nat} {β : Type} {l : List HA} {S : β → HA} {v d o : Nat} {G : Nat} {V V' : VolS} {T T' : Tree} {A : HA} {Tb : HA} {s t : Sl} {bs : List UInt8}
theorem tri_min {K : Nat} {k : Int} (hk : k = K) (hr : RdC Tb s 1 (bytesOf bs)) {f : Sl → M β} (kk : ∀ s' : Sl, RdC Tb s' 1 (bytesOf (bs.take K)) → s'.len = (bs.take K).length → Tri A (f s') S) : Tri A (bd (slc 1 s 0 (if k < (s.len : Int) then k else (s.len : Int))) f) S := by
 subst hk
 have hl := bl_len hr
 have e : (if (K : Int) < (s.len : Int) then (K : Int) else (s.len : Int)) = ((min K bs.length : Nat) : Int) := by
  split <;> omega
 rw [e]
 refine tri_slc (by omega) (by omega) (by omega) ?_
 rw [Int.toNat_natCast]
 have := rd_subB hr (lo := 0) (hi := min K bs.length) (by omega) (by omega)
 rw [List.drop_zero, Nat.sub_zero] at this
 have e2 : bs.take (min K bs.length) = bs.take K := by
  by_cases h : K ≤ bs.length
  ·rw [Nat.min_eq_left h]
  ·rw [Nat.min_eq_right (by omega), List.take_of_length_le (Nat.le_refl _), List.take_of_length_le (by omega)]
 rw [e2] at this
 exact kk _ this (by simp [subS])
end
end Go.Moat

/- Layer 16: what is cut off is gone. -/
namespace Go.Moat
open Go.Mini
section
variable {N : Nat} {β : Type} {l : List HA} {S : β → HA} {v d o : Nat} {G : Nat} {V V' : VolS} {T T' : Tree} {A B : HA} {Tb : HA} {s t : Sl} {bs as' cs : List UInt8}
end
end Go.Moat

/- Layer 16: in two parts as in one. -/
namespace Go.Moat
open Go.Mini
section
variable {N : Nat} {β : Type} {l : List HA} {S : β → HA} {v d o : Nat} {G : Nat} {V V' : VolS} {T T' : Tree} {A B : HA} {Tb : HA} {s t : Sl} {bs as' cs : List UInt8}
theorem LS.turn {n2 : Nat} (L : LS G V T 1 0 0 n2) : LS G V T 0 1 n2 0 := ⟨L.fv, L.zero, L.al.turn (by omega), L.len, L.ino, L.row0, L.row1⟩
end
end Go.Moat

/- Layer 16: of an inode that is not there nothing is told. -/
namespace Go.Moat
open Go.Mini
section
variable {N : Nat} {β : Type} {l : List HA} {S : β → HA} {v d o : Nat} {G : Nat} {V V' : VolS} {T T' : Tree} {A B : HA} {Tb : HA} {s t : Sl} {bs as' cs : List UInt8}
theorem write_nil (i at' : Int) : Tri (stars []) (F_00 N none i at' s) fun r => pu (r = 2) (stars []) := by
 unfold F_00
 refine tri_call [] (Q := fun r => pu (r = (none, 2)) (stars [])) ?_ fun r5 => tri_pu fun h5 => tri_flat ?_
 ·unfold F_0b
  refine tri_call [] (Q := fun r => pu (r = (inoC Ino.z, 0, 2)) (stars [])) ?_ fun r3 => tri_pu fun h3 => tri_flat ?_
  ·unfold F_0k F_0j
   rw [zino_c]
   rw [if_pos (by rfl)]
   refine tri_bdret (tri_t (by simp) (ino_copy ?_))
   exact tri_end [] fun q hq => ⟨rfl, hq⟩
  subst h3
  dsimp only [sel, rem, nth, del, cat, upd]
  rw [zino_c]
  refine ino_copy1 (tri_t (by simp) ?_)
  exact tri_end [] fun q hq => ⟨rfl, hq⟩
 subst h5
 dsimp only [sel, rem, nth, del, cat, upd]
 exact tri_t (by simp) (tri_end [] fun q hq => ⟨rfl, hq⟩)
theorem wE_1 {m : MetaS} {i at' : Int} {k : Nat} (h : m.hasE i = 0) : wE m i at' k = if at' < 0 then 1 else if 3840 < at' ∨ 3840 - at' < (k : Int) then 4 else 0 := by
 unfold wE
 rw [if_neg fun c => c h]
theorem write_any (hN : 5000 < N) {r1 r2 : Nat} (L : LS 2 V T r1 r2 0 0) {i at' : Int} (hr2 : (if i = 1 then 1 else 0) = r2) (hE : V.n.m.hasE i = 0) (hat : at' < 2 ^ 63) (hb : bs.length ≤ 100) (hr : RdC Tb s 1 (bytesOf bs)) :
  Tri (stars [VolA v d (gg 2) V, Tb]) (F_00 N (some ⟨v, 0⟩) i at' s) fun r => exA fun x : VolS × Tree => pu (r = wE V.n.m i at' bs.length ∧ CS 2 x.1 x.2 ∧ ∀ i, x.1.n.m.hasE i = V.n.m.hasE i) (stars [VolA v d (gg 2) x.1, Tb]) := by
 have hg : (gg 2).ok := gg_ok (by omega) (by omega)
 have e0 : ∀ m : M Int, bd m ret = m := fun m => by
  funext h
  unfold bd
  cases m h <;> rfl
 by_cases hw : wE V.n.m i at' bs.length = 0
 ·have hw' := hw
  rw [wE_1 hE] at hw'
  split at hw'
  ·cases hw'
  ·split at hw'
   ·cases hw'
   ·rename_i h1 h2
    obtain ⟨x, rfl⟩ : ∃ x : Nat, at' = x := ⟨at'.toNat, by omega⟩
    have hi : 0 ≤ i ∧ i < 3 := by
     rw [L.hasE] at hE
     apply Decidable.byContradiction
     intro c
     rw [if_neg c] at hE
     split at hE <;> cases hE
    obtain ⟨ii, rfl⟩ : ∃ ii : Nat, i = ii := ⟨i.toNat, by omega⟩
    rw [← e0 (F_00 N _ _ _ _)]
    refine tri_call [0, 0] (write_ls (ii := ii) (at' := x) (by omega) (by omega) hN L (by omega) (by rw [← hr2]; by_cases c : ii = 1 <;> simp [c]; omega) (by omega) (by omega) hr) fun r => tri_ex fun x => tri_pu fun h => tri_flat ?_
    obtain ⟨V1, T1, k1⟩ := x
    obtain ⟨h, L1, _, W⟩ := h
    have L1 : LS 2 V1 T1 r1 r2 0 k1 := L1
    subst h
    exact tri_end [0, 0] fun q hq => ⟨(V1, T1), ⟨hw.symm, ⟨L1.fv, L1.zero⟩, fun i => by show V1.n.m.hasE i = _; rw [L1.hasE, L.hasE]⟩, hq⟩
 ·rw [← e0 (F_00 N _ _ _ _)]
  refine tri_call [0] (fwrite_none hg L.fv.fs.ok.inv.ok (i := i) (at' := at') hat (bl_len hr) (.inl hw)) fun r => tri_pu fun h => tri_flat ?_
  exact tri_end [0, 0] fun q hq => ⟨(V, T), ⟨h, ⟨L.fv, L.zero⟩, fun _ => rfl⟩, hq⟩
theorem cE_1 {m : MetaS} {i size : Int} (h : m.hasE i = 0) : cE m i size = if size < 0 ∨ 3840 < size then 1 else 0 := by
 unfold cE
 rw [if_neg fun c => c h]
theorem rE_1 {m : MetaS} {i at' n : Int} (h : m.hasE i = 0) : rE m i at' n = if at' < 0 ∨ n < 0 then 1 else 0 := by
 unfold rE
 rw [if_neg fun c => c h]
theorem cut_any (hN : 5000 < N) (C : CS 2 V T) {i size : Int} (hE : V.n.m.hasE i = 0) :
  Tri (stars [VolA v d (gg 2) V]) (F_01 N (some ⟨v, 0⟩) i size) fun r => pu (r = cE V.n.m i size) (stars []) := by
 have hg : (gg 2).ok := gg_ok (by omega) (by omega)
 have e0 : ∀ m : M Int, bd m ret = m := fun m => by
  funext h
  unfold bd
  cases m h <;> rfl
 rw [← e0 (F_01 N _ _ _)]
 by_cases hc : cE V.n.m i size = 0
 ·have hc' := hc
  rw [cE_1 hE] at hc'
  split at hc'
  ·cases hc'
  ·rename_i h1
   obtain ⟨ii, hlt, rfl, _⟩ := hasE_zero hE
   obtain ⟨x, rfl⟩ : ∃ x : Nat, size = x := ⟨size.toNat, by omega⟩
   refine tri_call [0] (cut_cs (ii := ii) (size := x) hg hN C hE rfl (by omega)) fun r => tri_ex fun x => tri_pu fun h => tri_flat ?_
   exact tri_end [] fun q hq => ⟨by rw [hc]; exact h.1, hq⟩
 ·refine tri_call [0] (cut_none hg C.fv.fs.ok.inv.ok hc) fun r => tri_pu fun h => tri_flat ?_
  exact tri_end [] fun q hq => ⟨h, hq⟩
theorem none_law (hN : 5000 < N) {i at' n : Int} {A : List UInt8} (hi : -9223372036854775808 ≤ i ∧ i < 9223372036854775808) (hat : -9223372036854775808 ≤ at' ∧ at' < 9223372036854775808) (hs : RdC Tb s 1 (bytesOf A)) :
  Tri (stars [Tb]) (F_3i N i at' n s) fun r => pu (r = true) emp := by
 have hg : (gg 2).ok := gg_ok (by omega) (by omega)
 unfold F_3i
 refine tri_call [] (shown16_spec hN) fun r5 => tri_pu fun h5 => tri_flat ?_
 subst h5
 dsimp only [sel, rem, nth, del, cat, upd]
 refine tri_call [] (built16_spec (N := N) (G := 2) (by omega) (by omega) hN) fun r6 => tri_ex fun x => tri_pu fun h6 => tri_flat ?_
 obtain ⟨d, v⟩ := x
 subst h6
 dsimp only [sel, rem, nth, del, cat, upd]
 refine tri_f (by simp) ?_
 obtain ⟨r1, r2, hr2, hne⟩ : ∃ r1 r2 : Nat, (if i = 1 then 1 else 0) = r2 ∧ r1 ≠ r2 := by
  by_cases c : i = 1
  ·exact ⟨0, 1, by rw [if_pos c], by omega⟩
  ·exact ⟨1, 0, by rw [if_neg c], by omega⟩
 have L0 := ls_start (G := 2) (by omega) (by omega) hne
 generalize ((newV (gg 2)).wM (m3 2)) = V0 at L0 ⊢
 generalize T0 = TT at L0
 refine tri_min (K := 100) rfl hs fun l7 r7 n7 => ?_
 have hX : (A.take 100).length ≤ 100 := by rw [List.length_take]; omega
 generalize A.take 100 = X at r7 n7 hX
 have ok0 := L0.fv.fs.ok.inv.ok
 refine tri_call [0] (vinode_spec hg ok0 i) fun r8 => tri_pu fun h8 => tri_flat ?_
 subst h8
 dsimp only [sel, rem, nth, del, cat, upd]
 rw [zino_c]
 refine ino_copy1 ?_
 refine tri_call [0] (fread_spec hg hN L0.fv (i := i) (at' := at') (n := n) (by omega)) fun r9 => tri_pu fun h9 => tri_flat ?_
 dsimp only [sel, rem, nth, del, cat, upd]
 refine tri_call [1] (blocks_spec hg hN L0.fv i) fun r10 => tri_pu fun h10 => tri_flat ?_
 dsimp only [sel, rem, nth, del, cat, upd]
 refine own_ln 0 rfl fun l10 => ?_
 refine own_ln 2 rfl fun l9 => ?_
 rw [bytes_len, readL_len] at l9
 rw [ownC_len] at l10
 by_cases hE : V0.n.m.hasE i = 0
 ·refine tri_call [1, 2] (write_any hN L0 hr2 hE (by omega) hX r7) fun r11 => tri_ex fun x => tri_pu fun h11 => tri_flat ?_
  obtain ⟨V1, T1⟩ := x
  obtain ⟨h11, C1, e1⟩ := h11
  have C1 : CS 2 V1 T1 := C1
  have e1 : ∀ i, V1.n.m.hasE i = V0.n.m.hasE i := e1
  dsimp only [sel, rem, nth, del, cat, upd]
  refine tri_call [0] (cut_any hN C1 (i := i) (size := n) (by rw [e1]; exact hE)) fun r12 => tri_pu fun h12 => tri_flat ?_
  dsimp only [sel, rem, nth, del, cat, upd]
  rw [rE_1 hE] at h9
  rw [wE_1 hE] at h11
  rw [cE_1 (by rw [e1]; exact hE)] at h12
  refine tri_f (by simpa using hE) (tri_end [] fun q hq => ⟨?_, hq⟩)
  rw [n7]
  have hw : at' ≤ 3840 → 0 ≤ at' → wr .i64 (at' + (X.length : Int)) = at' + X.length := fun h1 h2 => wr64 (by omega) (by omega)
  rw [h9, h11, h12]
  by_cases a1 : at' < 0
  ·rw [if_pos a1, if_pos (.inl a1)]
   have a2 : ¬ (0 ≤ at') := by omega
   by_cases n1 : n < 0 ∨ 3840 < n
   ·rw [if_pos n1]; simp [a1, a2, n1]
   ·rw [if_neg n1]; simp [a1, a2]; omega
  ·rw [if_neg a1]
   have a2 : 0 ≤ at' := by omega
   have k1 : (decide ((if at' < 0 ∨ n < 0 then (1 : Int) else 0) = 1) == (decide (at' < 0) || decide (n < 0))) = true := by
    by_cases c : n < 0
    ·rw [if_pos (.inr c)]; simp [c]
    ·rw [if_neg (by omega)]; simp [c, a1]
   have k2 : (decide ((if 3840 < at' ∨ 3840 - at' < (X.length : Int) then (4 : Int) else 0) = 1) == decide (at' < 0)) = true := by
    split <;> simp [a1] <;> omega
   have k3 : (decide ((if 3840 < at' ∨ 3840 - at' < (X.length : Int) then (4 : Int) else 0) = 4) == (decide (0 ≤ at') && (decide (3840 < at') || decide (3840 < wr .i64 (at' + (X.length : Int)))))) = true := by
    by_cases c : 3840 < at'
    ·rw [if_pos (.inl c)]; simp [c, a2]
    ·rw [hw (by omega) a2]
     by_cases c2 : 3840 - at' < (X.length : Int)
     ·rw [if_pos (.inr c2)]
      have : (3840 : Int) < at' + X.length := by omega
      simp [a2, this]
     ·rw [if_neg (by omega)]
      have : ¬ (3840 : Int) < at' + X.length := by omega
      simp [c, this]
   have k4 : (decide ((if n < 0 ∨ 3840 < n then (1 : Int) else 0) = 1) == (decide (n < 0) || decide (3840 < n))) = true := by
    by_cases c : n < 0 ∨ 3840 < n
    ·rw [if_pos c]; simp [c]
    ·rw [if_neg c]; simp; omega
   rw [k1, k2, k3, k4]
   rfl
 ·have hw0 : wE V0.n.m i at' X.length = V0.n.m.hasE i := by unfold wE; rw [if_pos hE]
  have hc0 : ∀ z, cE V0.n.m i z = V0.n.m.hasE i := fun z => by unfold cE; rw [if_pos hE]
  have hr0 : rE V0.n.m i at' n = V0.n.m.hasE i := by unfold rE; rw [if_pos hE]
  have hn0 : rN V0.n.m i at' n = 0 := by unfold rN; rw [hr0, if_neg hE]
  rw [if_neg hE] at l10
  rw [hn0] at l9
  rw [hr0] at h9
  refine tri_call [1] (fwrite_none hg ok0 (i := i) (at' := at') (by omega) (bl_len r7) (.inl (by rw [hw0]; exact hE))) fun r11 => tri_pu fun h11 => tri_flat ?_
  dsimp only [sel, rem, nth, del, cat, upd]
  rw [hw0] at h11
  refine tri_call [0] (cut_none hg ok0 (i := i) (size := n) (by rw [hc0]; exact hE)) fun r12 => tri_pu fun h12 => tri_flat ?_
  dsimp only [sel, rem, nth, del, cat, upd]
  rw [hc0] at h12
  refine tri_t (by simpa using hE) ?_
  refine tri_call [0] (Q := fun r => pu (r = V0.n.m.hasE i) (stars [])) ?_ fun r13 => tri_pu fun h13 => tri_flat ?_
  ·unfold F_3h
   refine tri_call [0] (cut_none hg ok0 (i := i) (size := 0) (by rw [hc0]; exact hE)) fun r3 => tri_pu fun h3 => tri_flat ?_
   rw [hc0] at h3
   subst h3
   exact tri_t (by simpa using hE) (tri_end [] fun q hq => ⟨rfl, hq⟩)
  dsimp only [sel, rem, nth, del, cat, upd]
  have z9 : r9.1.len = 0 := by omega
  have z10 : r10.1.len = 0 := by simp at l10; omega
  refine tri_call [] (Q := fun c => pu (c = true) (stars [])) ?_ fun c15 => tri_pu fun h15 => tri_flat (tri_end [] fun q hq => ⟨h15, hq⟩)
  refine tri_t (by simp [h9, h10, h11, h12, h13, z9, z10]) ?_
  refine tri_call [] (write_nil i at') fun r14 => tri_pu fun h14 => tri_flat ?_
  subst h14
  exact tri_end [] fun q hq => ⟨by simp, hq⟩
end
end Go.Moat
