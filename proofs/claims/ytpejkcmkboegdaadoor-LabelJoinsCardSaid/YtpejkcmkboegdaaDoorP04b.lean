/- Layer 4: label.Parse, and the document's examples. -/
import Derived.Test.YtpejkcmkboegdaaDoorP04
import Derived.Lib.SplitLaws
namespace Go.Moat
open Go.Mini

section
variable {N : Nat} {β : Type} {l : List HA} {S : β → HA}

/-- The variables of packages. -/
structure Glob where
  e0 : MV
  e1 : MV
  m : Int
  h0 : isErr e0 = true
  h1 : isErr e1 = true
def GlA (g : Glob) : HA := stars [pts 0 (.cells [g.e0] true), pts 1 (.cells [g.e1] true), pts 2 (.cells [.int .i64 g.m] true)]

theorem gl_get {g : Glob} {h : Hp} {q : PH} (hq : GlA g q) (hh : Has h q) : h.get 0 = .cells [g.e0] true ∧ h.get 1 = .cells [g.e1] true ∧ h.get 2 = .cells [.int .i64 g.m] true := by
  obtain ⟨q1, q2, a1, a2, d1, rfl⟩ := hq
  obtain ⟨q3, q4, a3, a4, d2, rfl⟩ := a2
  obtain ⟨q5, q6, a5, a6, d3, rfl⟩ := a4
  have k1 := (has_un d1).1 hh
  have k2 := (has_un d2).1 k1.2
  have k3 := (has_un d3).1 k2.2
  exact ⟨(pts_get a1 k1.1).2, (pts_get a3 k2.1).2, (pts_get a5 k3.1).2⟩

/-- A step that reads the variables, and lays a block. -/
theorem tri_glnew {α : Type} {g : Glob} {m : M α} {f : α → M β} {x : Blk} {r : Nat → α} (n : Nat) (hl : l[n]? = some (GlA g))
    (e : ∀ h : Hp, h.get 0 = .cells [g.e0] true → h.get 1 = .cells [g.e1] true → h.get 2 = .cells [.int .i64 g.m] true → m h = some (r h.size, h.push x)) (k : ∀ b, Tri (stars (pts b x :: l)) (f (r b)) S) : Tri (stars l) (bd m f) S := by
  rintro h q hq hh
  have hq2 := hq
  rw [stars_pick n l hl] at hq2
  obtain ⟨q1, q2, h1, h2, d, rfl⟩ := hq2
  obtain ⟨k0, k1, k2⟩ := gl_get h1 ((has_un d).1 hh).1
  have he := e h k0 k1 k2
  have := tri_new (l := l) (f := f) (S := S) (m := fun h' : Hp => some (r h'.size, h'.push x)) (x := x) (g := r) (fun _ => rfl) k h _ hq hh
  obtain ⟨a, h', q', j1, j2⟩ := this
  refine ⟨a, h', q', ?_, j2⟩
  simp only [bd] at j1 ⊢
  rw [he]
  exact j1

theorem tri_atoi {g : Glob} {s : List UInt8} (hs : s.length ≤ 1000) : Tri (stars [GlA g]) (F_strconv_Atoi N s) fun r => pu ((∃ v, Lib.atoiAll s = .ok v ∧ r = (v, MV.nilIface)) ∨ ((∀ v, Lib.atoiAll s ≠ .ok v) ∧ ∃ n t x, r = (n, MV.iface t x))) (stars [GlA g]) := by
  have err : ∀ (i : Nat) (e : MV) (n : Int), isErr e = true → (∀ h : Hp, h.get 0 = .cells [g.e0] true → h.get 1 = .cells [g.e1] true → h.get i = .cells [e] true) → (∀ v, Lib.atoiAll s ≠ .ok v) →
      Tri (stars [GlA g]) (bd (atoiE 68 i n s) ret) fun r => pu ((∃ v, Lib.atoiAll s = .ok v ∧ r = (v, MV.nilIface)) ∨ ((∀ v, Lib.atoiAll s ≠ .ok v) ∧ ∃ n t x, r = (n, MV.iface t x))) (stars [GlA g]) := by
    intro i e n he hg hne
    refine tri_glnew 0 rfl (r := fun b => (n, MV.iface 68 (.ptr (some ⟨b, 0⟩)))) (x := .cells [.str [65, 116, 111, 105], .str s, e] false) (fun h k0 k1 _ => ?_) fun b => tri_end [1] fun q hq => ⟨.inr ⟨hne, _, _, _, rfl⟩, hq⟩
    unfold atoiE
    rw [hg h k0 k1]
    dsimp only
    rw [if_pos ⟨he, by omega⟩]
  have hbd : ∀ {m : M (Int × MV)}, bd m ret = m := fun {m} => by
    funext h
    simp only [bd, ret]
    cases m h <;> rfl
  unfold F_strconv_Atoi atoiS
  cases hu : Lib.atoiAll s with
  | ok v =>
    dsimp only
    rw [if_pos (by omega)]
    exact tri_ret fun q hq => ⟨.inl ⟨v, rfl, rfl⟩, hq⟩
  | range =>
    dsimp only
    have := err 1 g.e1 (Lib.atoiSat s) g.h1 (fun h _ k1 => k1) (fun v c => by rw [hu] at c; cases c)
    rw [hbd, hu] at this
    exact this
  | _ =>
    dsimp only
    have := err 0 g.e0 0 g.h0 (fun h k0 _ => k0) (fun v c => by rw [hu] at c; cases c)
    rw [hbd, hu] at this
    exact this

theorem split_len {s : List UInt8} : (Lib.split s [44]).length ≤ s.length + 1 := by
  have h1 := Lib.splitB_data ⟨#[44]⟩ 0 (Lib.count s [44]) ⟨s.toArray⟩
  have h2 := Lib.splitB_length_le ⟨#[44]⟩ 0 (Lib.count s [44]) ⟨s.toArray⟩
  have h3 := congrArg List.length h1
  rw [List.length_map] at h3
  have h4 : Lib.count s [44] ≤ s.length := by rw [Lib.count_one]; exact List.count_le_length
  have h5 : (Lib.splitK (⟨#[44]⟩ : ByteArray).data.toList 0 (Lib.count s [44]) (⟨s.toArray⟩ : ByteArray).data.toList) = Lib.split s [44] := by
    unfold Lib.split
    simp
  rw [h5] at h3
  omega

theorem tri_split {g : Glob} {s : List UInt8} (hs : s.length ≤ 1000) : Tri (stars [GlA g]) (F_strings_Split N s [44]) fun r => stars [OwnA r 1 (strs (Lib.split s [44])), GlA g] := by
  have hbd : ∀ {m : M Sl}, bd m ret = m := fun {m} => by
    funext h
    simp only [bd, ret]
    cases m h <;> rfl
  have : Tri (stars [GlA g]) (bd (splitS s [44]) ret) fun r => stars [OwnA r 1 (strs (Lib.split s [44])), GlA g] := by
    refine tri_glnew 0 rfl (r := fun b => (⟨some ⟨b, 0⟩, (Lib.split s [44]).length⟩ : Sl)) (x := .cells (strs (Lib.split s [44])) false) (fun h _ _ k2 => ?_) fun b => tri_end [0, 0] fun q hq => ?_
    · unfold splitS
      rw [k2]
      dsimp only
      rw [if_pos ⟨by omega, by decide⟩]
      rfl
    · exact ent_head (fun q h => .mk (by rw [strs_len, Nat.mul_one]) h) hq
  rwa [hbd] at this

/-- What stands between the brackets. -/
def innerN (s : List UInt8) : List UInt8 := (s.drop 1).take (s.length - 2)
def numsN : List (List UInt8) → Option (List Int)
  | [] => some []
  | p :: r => match Lib.atoiAll p with
    | .ok v => (numsN r).map (v :: ·)
    | _ => none
def piecesN (s : List UInt8) : List (List UInt8) := if innerN s = [] then [] else Lib.split (innerN s) [44]
def bad4 (s : List UInt8) : Prop := s.length < 2 ∨ s[0]? ≠ some 91 ∨ s[s.length - 1]? ≠ some 93
def restN (s : List UInt8) (ks : Option (List Int)) : Int × Int := match ks with
  | none => (0, 40)
  | some ks => match ofN 0 ks with
    | none => (0, 40)
    | some a => if textN a = s then ((a : Int), 0) else (0, 40)
open Classical in
noncomputable def parseN (s : List UInt8) : Int × Int := if bad4 s then (0, 40) else restN s (numsN (piecesN s))

theorem u8_eq {c d : UInt8} : (decide ((c.toNat : Int) = (d.toNat : Int))) = decide (c = d) := by
  congr 1
  refine propext ⟨fun h => ?_, fun h => by rw [h]⟩
  exact UInt8.toNat_inj.1 (by omega)

theorem idxS_op {s : List UInt8} {i : Nat} (hi : i < s.length) (h : Hp) : idxS s (i : Int) h = some ((s[i].toNat : Int), h) := by
  unfold idxS
  rw [if_pos (by omega), Int.toNat_natCast, List.getElem?_eq_getElem hi]
  rfl

theorem numsN_len : ∀ (ps : List (List UInt8)) (ks : List Int), numsN ps = some ks → ks.length = ps.length
  | [], ks, e => by cases e; rfl
  | p :: r, ks, e => by
    unfold numsN at e
    split at e
    · rw [Option.map_eq_some_iff] at e
      obtain ⟨ys, h1, rfl⟩ := e
      simp [numsN_len r ys h1]
    · cases e

/-- The loop over the pieces. -/
def piecesM (N : Nat) (r_7 : Sl) : M (Sl ⊕ (Int × Int)) := bd (show M (Sl ⊕ (Int × Int)) from iter N (fun go_9 (v_8 : Sl × Int) => if (decide (v_8.2 < (r_7.len : Int))) = true then (bd (idx 1 r_7 v_8.2) fun q_10 => bd (ldS q_10) fun (y_11 : List UInt8) => bd (F_strconv_Atoi N y_11) fun r_12 => bd (isNilI r_12.2) fun z_13 => if (!z_13) = true then (ret ((Sum.inr (((0 : Int), (40 : Int)))))) else (bd (alloc [MV.int .i64 r_12.1]) fun q_14 => bd (app 1 8 v_8.1 (⟨q_14, 1⟩)) fun l_15 => go_9 ((l_15, wr .i64 (v_8.2 + (1 : Int)))))) else (ret (Sum.inl v_8.1))) ((⟨(none : Option MA), 0⟩, (0 : Int)))) fun j_16 => (match j_16 with | Sum.inl j_17 => ret (Sum.inl j_17) | Sum.inr j_18 => ret ((Sum.inr (j_18.1, j_18.2))))

def finM (N : Nat) (vs_1 : List UInt8) (j_19 : Sl ⊕ (Int × Int)) : M (Int × Int) := (match j_19 with | Sum.inl j_20 => bd (F_label_Of N j_20) fun r_22 => bd (if (!decide (r_22.2 = (0 : Int))) = false then (bd (F_label_Text N r_22.1) fun r_23 => ret ((!(decide (r_23 = vs_1))))) else ret true) fun c_24 => if c_24 = true then (ret (((0 : Int), (40 : Int)))) else (ret ((r_22.1, (0 : Int)))) | Sum.inr j_21 => ret (j_21.1, j_21.2))

theorem parse_eq (N : Nat) (vs_1 : List UInt8) : F_label_Parse N vs_1 = bd (if (decide ((vs_1.length : Int) < (2 : Int))) = false then (bd (idxS vs_1 (0 : Int)) fun c_2 => ret ((!decide (c_2 = (91 : Int))))) else ret true) fun c_3 => bd (if c_3 = false then (bd (idxS vs_1 (wr .i64 ((vs_1.length : Int) - (1 : Int)))) fun c_4 => ret ((!decide (c_4 = (93 : Int))))) else ret true) fun c_5 => if c_5 = true then (ret (((0 : Int), (40 : Int)))) else (bd (slcS vs_1 (1 : Int) (wr .i64 ((vs_1.length : Int) - (1 : Int)))) fun l_6 => bd (show M (Sl ⊕ (Int × Int)) from if (!(decide (l_6 = ([] : List UInt8)))) = true then (bd (F_strings_Split N l_6 ([44] : List UInt8)) fun r_7 => piecesM N r_7) else (ret ((Sum.inl (⟨(none : Option MA), 0⟩))))) (finM N vs_1)) := rfl

theorem pieces_spec {g : Glob} {r : Sl} {ps : List (List UInt8)} (hp : ps.length ≤ 1000) (hps : ∀ p ∈ ps, p.length ≤ 1000) (hN : 1010 < N) :
    Tri (stars [OwnA r 1 (strs ps), GlA g]) (piecesM N r) fun x => match x with | .inl s => exA fun ks => pu (numsN ps = some ks) (stars [OwnA s 1 (ints ks), GlA g]) | .inr y => pu (numsN ps = none ∧ y = ((0 : Int), (40 : Int))) (stars [GlA g]) := by
  unfold piecesM
  refine own_len 0 rfl fun hl => ?_
  rw [strs_len, Nat.mul_one] at hl
  have loop : ∀ (K : Nat) (j : Nat) (s : Sl) (vs : List Int), ps.length - j < K → j ≤ ps.length → vs.length = j → numsN ps = (numsN (ps.drop j)).map (vs ++ ·) → Tri (stars [OwnA s 1 (ints vs), OwnA r 1 (strs ps), GlA g]) (iter K (fun go_9 (v_8 : Sl × Int) => if (decide (v_8.2 < (r.len : Int))) = true then (bd (idx 1 r v_8.2) fun q_10 => bd (ldS q_10) fun (y_11 : List UInt8) => bd (F_strconv_Atoi N y_11) fun r_12 => bd (isNilI r_12.2) fun z_13 => if (!z_13) = true then (ret ((Sum.inr (((0 : Int), (40 : Int)))))) else (bd (alloc [MV.int .i64 r_12.1]) fun q_14 => bd (app 1 8 v_8.1 (⟨q_14, 1⟩)) fun l_15 => go_9 ((l_15, wr .i64 (v_8.2 + (1 : Int)))))) else (ret (Sum.inl v_8.1))) (s, (j : Int)))
      fun x => match x with | .inl s => exA fun ks => pu (numsN ps = some ks) (stars [OwnA s 1 (ints ks), GlA g]) | .inr y => pu (numsN ps = none ∧ y = ((0 : Int), (40 : Int))) (stars [GlA g]) := by
    intro K
    induction K with
    | zero => intro j s vs hj; omega
    | succ K ih =>
      intro j s vs hj h1 hv e
      show Tri _ (if _ then _ else _) _
      by_cases hj2 : j < ps.length
      · refine tri_t (by simp [← hl]; omega) (tri_own_T 1 rfl hj2 ?_)
        rw [List.drop_eq_getElem_cons hj2] at e
        refine tri_call [2] (tri_atoi (hps _ (List.getElem_mem hj2))) fun x => tri_pu fun hx => tri_flat ?_
        rcases hx with ⟨v, hv1, rfl⟩ | ⟨hne, n, t, y, rfl⟩
        · have e2 : numsN (ps[j] :: ps.drop (j + 1)) = (numsN (ps.drop (j + 1))).map (v :: ·) := by
            show (match Lib.atoiAll ps[j] with | .ok v => _ | _ => none) = _
            rw [hv1]
          rw [e2, Option.map_map] at e
          refine tri_op (a := true) (fun h => rfl) (tri_f (by simp) (tri_alloc fun b => ?_))
          refine own_lenI 2 rfl fun hs => ?_
          rw [wr64 (by omega) (by omega)]
          refine tri_call [2, 0] (pts_app (by omega) (by simp) (by simp [isCell]) (by unfold most; omega)) fun s' => tri_flat ?_
          refine tri_last [0, 2, 1] ((ih (j + 1) s' (vs ++ [v]) (by omega) (by omega) (by simp [hv]) (e.trans (by congr 1; funext z; simp))).pre fun q hq => ?_)
          have e3 : ints (vs ++ [v]) = ints vs ++ [MV.int .i64 v].take (1 * 1) := by simp [ints]
          rw [e3]
          exact hq
        · have e2 : numsN (ps[j] :: ps.drop (j + 1)) = none := by
            show (match Lib.atoiAll ps[j] with | .ok v => _ | _ => none) = _
            cases hu : Lib.atoiAll ps[j] with
            | ok v => exact absurd hu (hne v)
            | _ => rfl
          rw [e2] at e
          exact tri_op (a := false) (fun h => rfl) (tri_t rfl (tri_end [0] fun q hq => ⟨⟨e, rfl⟩, hq⟩))
      · obtain rfl : j = ps.length := by omega
        rw [List.drop_length] at e
        refine tri_f (by simp [← hl]) (tri_end [0, 1] fun q hq => ⟨vs, ?_, hq⟩)
        rw [e]
        simp [numsN]
  refine tri_call [0, 0] ((loop N 0 ⟨none, 0⟩ [] (by omega) (by omega) rfl (by simp)).pre fun q hq => ?_) fun x => ?_
  · exact ent_emp (fun q h => .nil _ h) hq
  · cases x with
    | inl s => exact tri_end [0] fun q hq => cast (congrFun (stars_one _) q) hq
    | inr y => exact tri_end [0] fun q hq => cast (congrFun (stars_one _) q) hq

theorem split_pieces {s p : List UInt8} (h : p ∈ Lib.split s [44]) : p.length ≤ s.length := by
  unfold Lib.split at h
  generalize Lib.count s [44] = k at h
  induction k generalizing s with
  | zero =>
    rw [show Lib.splitK [44] 0 0 s = [s] from rfl, List.mem_singleton] at h
    rw [h]
    exact Nat.le_refl _
  | succ k ih =>
    unfold Lib.splitK at h
    split at h
    · rw [List.mem_singleton] at h
      rw [h]
      exact Nat.le_refl _
    · rw [List.mem_cons] at h
      rcases h with rfl | h
      · rw [List.length_take]; omega
      · have := ih h
        rw [List.length_drop] at this
        omega

theorem fin_none {g : Glob} {s : List UInt8} {y : Int × Int} : Tri (stars [GlA g]) (finM N s (.inr y)) fun r => pu (r = y) (stars [GlA g]) := tri_ret fun q hq => ⟨rfl, hq⟩

theorem rest_none {s : List UInt8} {ks : List Int} (h : ofN 0 ks = none) : restN s (some ks) = (0, 40) := by unfold restN; dsimp only; rw [h]
theorem rest_some {s : List UInt8} {ks : List Int} {a : Nat} (h : ofN 0 ks = some a) : restN s (some ks) = if textN a = s then ((a : Int), 0) else (0, 40) := by unfold restN; dsimp only; rw [h]

theorem fin_some {g : Glob} {s : List UInt8} {p : Sl} {ks : List Int} (hk : ks.length ≤ 1001) (hN : 1010 < N) : Tri (stars [OwnA p 1 (ints ks), GlA g]) (finM N s (.inl p)) fun r => pu (r = restN s (some ks)) (stars [GlA g]) := by
  show Tri _ (bd _ _) _
  refine tri_call [0] (of_spec rd_own (by omega) (by omega)) fun r => tri_pu fun hr => tri_flat ?_
  subst hr
  cases hf : ofN 0 ks with
  | none =>
    rw [rest_none hf]
    refine tri_bdret ?_
    exact tri_t (by simp [ofR]) (tri_end [1] fun q hq => ⟨rfl, hq⟩)
  | some a =>
    have ha := ofN_lt ks 0 a (by omega) hf
    rw [rest_some hf]
    refine Tri.bd (Q := fun r : Bool => pu (r = !decide (textN a = s)) (stars [GlA g])) ?_ fun r => tri_p fun hr => ?_
    · refine tri_t (by simp [ofR]) ?_
      refine tri_call [] (text_spec (a := (a : Int)) (by omega) (by omega) (by omega)) fun r => tri_pu fun hr => tri_flat ?_
      subst hr
      rw [Int.toNat_natCast]
      exact tri_end [1] fun q hq => ⟨rfl, hq⟩
    · subst hr
      by_cases he : textN a = s
      · rw [if_pos he]
        exact tri_f (by simp [he]) (tri_ret fun q hq => ⟨rfl, hq⟩)
      · rw [if_neg he]
        exact tri_t (by simp [he]) (tri_ret fun q hq => ⟨rfl, hq⟩)

/-- label.Parse -/
theorem parse_spec {g : Glob} {s : List UInt8} (hs : s.length ≤ 900) (hN : 1010 < N) : Tri (stars [GlA g]) (F_label_Parse N s) fun r => pu (r = parseN s) (stars [GlA g]) := by
  rw [parse_eq]
  refine Tri.bd (Q := fun r : Bool => pu (r = decide (s.length < 2 ∨ s[0]? ≠ some 91)) (stars [GlA g])) ?_ fun r => tri_p fun hr => ?_
  · by_cases h2 : s.length < 2
    · exact tri_f (by simp; omega) (tri_ret fun q hq => ⟨by simp [h2], hq⟩)
    · refine tri_t (by simp; omega) (tri_op (a := (s[0].toNat : Int)) (fun h => idxS_op (i := 0) (by omega) h) (tri_ret fun q hq => ⟨?_, hq⟩))
      rw [show (91 : Int) = ((91 : UInt8).toNat : Int) from rfl, u8_eq, List.getElem?_eq_getElem (by omega)]
      simp [h2]
  subst hr
  refine Tri.bd (Q := fun r : Bool => pu ((r = true ↔ bad4 s)) (stars [GlA g])) ?_ fun r => tri_p fun hr => ?_
  · by_cases h1 : s.length < 2 ∨ s[0]? ≠ some 91
    · refine tri_f (by simp [h1]) (tri_ret fun q hq => ⟨⟨fun _ => ?_, fun _ => rfl⟩, hq⟩)
      exact h1.elim .inl fun h => .inr (.inl h)
    · have h2 : ¬ s.length < 2 := fun c => h1 (.inl c)
      rw [wr64 (by omega) (by omega), show (s.length : Int) - 1 = ((s.length - 1 : Nat) : Int) by omega]
      refine tri_t (by simp [h1]) (tri_op (a := (s[s.length - 1].toNat : Int)) (fun h => idxS_op (by omega) h) (tri_ret fun q hq => ⟨?_, hq⟩))
      rw [show (93 : Int) = ((93 : UInt8).toNat : Int) from rfl, u8_eq]
      unfold bad4
      rw [List.getElem?_eq_getElem (i := s.length - 1) (by omega)]
      have h3 : ¬ s[0]? ≠ some 91 := fun c => h1 (.inr c)
      simp [h2] at h3 ⊢
      simp [h3]
  unfold parseN
  by_cases hb : bad4 s
  · rw [if_pos hb]
    exact tri_t (hr.2 hb) (tri_ret fun q hq => ⟨rfl, hq⟩)
  · rw [if_neg hb]
    have h2 : ¬ s.length < 2 := fun c => hb (.inl c)
    refine tri_f (fun c => hb (hr.1 c)) ?_
    refine tri_op (a := innerN s) (fun h => ?_) ?_
    · rw [wr64 (by omega) (by omega)]
      unfold slcS
      rw [if_pos (by omega)]
      unfold innerN
      rw [show ((s.length : Int) - 1 - 1).toNat = s.length - 2 by omega]
      rfl
    have hil : (innerN s).length ≤ 900 := by unfold innerN; rw [List.length_take, List.length_drop]; omega
    refine Tri.bd (Q := fun x : Sl ⊕ (Int × Int) => match x with | .inl p => exA fun ks => pu (numsN (piecesN s) = some ks) (stars [OwnA p 1 (ints ks), GlA g]) | .inr y => pu (numsN (piecesN s) = none ∧ y = ((0 : Int), (40 : Int))) (stars [GlA g])) ?_ fun x => ?_
    · unfold piecesN
      by_cases he : innerN s = []
      · rw [if_pos he]
        refine tri_f (by simp [he]) (tri_ret fun q hq => ⟨[], rfl, ent_emp (fun q h => .nil _ h) hq⟩)
      · rw [if_neg he]
        refine tri_t (by simp [he]) (tri_call [0] (tri_split (by omega)) fun r => tri_flat ?_)
        refine tri_last [0, 0] (pieces_spec ?_ ?_ hN)
        · have := split_len (s := innerN s); omega
        · intro p hp; have := split_pieces hp; omega
    · cases x with
      | inr y =>
        refine tri_p fun hy => ?_
        rw [hy.1]
        refine (fin_none (N := N) (s := s)).post fun r q hq => ⟨?_, hq.2⟩
        rw [hq.1, hy.2]
        rfl
      | inl p =>
        refine tri_x fun ks => tri_p fun hk => ?_
        rw [hk]
        refine fin_some ?_ hN
        rw [numsN_len _ _ hk]
        unfold piecesN
        split
        · simp
        · have := split_len (s := innerN s); omega

theorem text10 : textN 10 = [91, 49, 44, 51, 93] := by
  have e : cats 10 = [1, 3] := by decide
  unfold textN
  rw [e]
  simp [Lib.decDigits_one, Lib.join, List.intercalate]
theorem text0 : textN 0 = [91, 93] := by
  have e : cats 0 = [] := by decide
  unfold textN
  rw [e]
  rfl
theorem parse31 : (parseN [91, 51, 44, 49, 93]).2 = 40 := by
  have h1 : ¬ bad4 [91, 51, 44, 49, 93] := by unfold bad4; simp
  have h2 : numsN (piecesN [91, 51, 44, 49, 93]) = some [3, 1] := by decide +kernel
  unfold parseN
  rw [if_neg h1, h2, rest_some (a := 10) (by decide), text10, if_neg (by decide)]

/-- The document's examples. -/
theorem shown_spec {g : Glob} (hN : 1010 < N) : Tri (stars [GlA g]) (F_moatlaw04_shown N) fun r => pu (r = true) (stars [GlA g]) := by
  unfold F_moatlaw04_shown
  refine tri_alloc fun b => ?_
  refine tri_call [0] (of_spec (ks := [3, 1, 3]) (rd_pts (o := 0) rfl rfl (by decide)) (by simp; omega) (by simp)) fun r => tri_pu fun hr => tri_flat ?_
  subst hr
  have e : ofR (ofN 0 [3, 1, 3]) = (10, 0) := by decide
  rw [e]
  refine tri_call [1] (parse_spec (by simp) hN) fun r => tri_pu fun hr => tri_flat ?_
  subst hr
  refine tri_last [0] ?_
  refine tri_call [] (Q := fun r => pu (r = true) (stars [])) ?_ ?_
  · refine tri_t (by decide) (tri_call [] (text_spec (a := (10 : Int)) (by omega) (by omega) (by omega)) fun r => tri_pu fun hr => tri_flat (tri_end [] fun q hq => ⟨?_, hq⟩))
    rw [hr, show ((10 : Int)).toNat = 10 from rfl, text10]
    rfl
  intro c; refine tri_pu fun hc => tri_flat ?_
  subst hc
  refine tri_op (a := true) (fun h => ?_) ?_
  · rw [if_pos rfl]; rfl
  refine tri_op (a := true) (fun h => ?_) ?_
  · rw [if_pos rfl]; rfl
  refine tri_op (a := true) (fun h => ?_) ?_
  · rw [if_pos rfl]; rfl
  refine tri_call [] (Q := fun r => pu (r = true) (stars [])) ?_ ?_
  · refine tri_t rfl (tri_call [] (text_spec (a := (0 : Int)) (by omega) (by omega) (by omega)) fun r => tri_pu fun hr => tri_flat (tri_end [] fun q hq => ⟨?_, hq⟩))
    rw [hr, show ((0 : Int)).toNat = 0 from rfl, text0]
    rfl
  intro c; refine tri_pu fun hc => tri_flat ?_
  subst hc
  refine tri_end [0] fun q hq => ⟨?_, hq⟩
  rw [parse31]
  rfl
end
end Go.Moat

