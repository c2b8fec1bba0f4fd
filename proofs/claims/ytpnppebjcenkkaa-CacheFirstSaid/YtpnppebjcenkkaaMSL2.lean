/- The laws' own toolkit: fields of structs, rows, maps and slices that are one's own. -/
import Derived.Test.YtpnppebjcenkkaaMSL
namespace Go.Mini

section
variable {α β : Type} {A : HA} {l : List HA} {f : Option MA → M β} {S : β → HA} {b o : Nat} {cs : List MV} {ro : Bool}

theorem tri_nn {p : MA} (k : Tri A (f (some p)) S) : Tri A (bd (nonNil (some p)) f) S := k
theorem tri_fl {n : Nat} (k : Tri A (f (some ⟨b, o + n⟩)) S) : Tri A (bd (fld (some ⟨b, o⟩) n) f) S := k

/-- A field of a struct is read. -/
theorem tri_gI (n : Nat) (hl : l[n]? = some (pts b (.cells cs ro))) {k : IntKind} {v : Int} (hv : cs[o]? = some (.int k v)) {f : Int → M β} (kk : Tri (stars l) (f v) S) : Tri (stars l) (bd (nonNil (some ⟨b, 0⟩)) fun q => bd (fld q o) fun q => bd (ldI k q) f) S :=
  tri_nn (tri_fl (tri_read n hl (fun _ hg => ldI_eq hg (by rw [Nat.zero_add]; exact hv)) kk))
theorem tri_gB (n : Nat) (hl : l[n]? = some (pts b (.cells cs ro))) {v : Bool} (hv : cs[o]? = some (.bool v)) {f : Bool → M β} (kk : Tri (stars l) (f v) S) : Tri (stars l) (bd (nonNil (some ⟨b, 0⟩)) fun q => bd (fld q o) fun q => bd (ldB q) f) S :=
  tri_nn (tri_fl (tri_read n hl (fun _ hg => ldB_eq hg (by rw [Nat.zero_add]; exact hv)) kk))
theorem tri_gP (n : Nat) (hl : l[n]? = some (pts b (.cells cs ro))) {v : Option MA} (hv : cs[o]? = some (.ptr v)) {f : Option MA → M β} (kk : Tri (stars l) (f v) S) : Tri (stars l) (bd (nonNil (some ⟨b, 0⟩)) fun q => bd (fld q o) fun q => bd (ldP q) f) S :=
  tri_nn (tri_fl (tri_read n hl (fun _ hg => ldP_eq hg (by rw [Nat.zero_add]; exact hv)) kk))
theorem tri_gM (n : Nat) (hl : l[n]? = some (pts b (.cells cs ro))) {v : Option Nat} (hv : cs[o]? = some (.map v)) {f : Option Nat → M β} (kk : Tri (stars l) (f v) S) : Tri (stars l) (bd (nonNil (some ⟨b, 0⟩)) fun q => bd (fld q o) fun q => bd (ldM q) f) S :=
  tri_nn (tri_fl (tri_read n hl (fun _ hg => ldM_eq hg (by rw [Nat.zero_add]; exact hv)) kk))
theorem tri_gS (n : Nat) (hl : l[n]? = some (pts b (.cells cs ro))) {v : List UInt8} (hv : cs[o]? = some (.str v)) {f : List UInt8 → M β} (kk : Tri (stars l) (f v) S) : Tri (stars l) (bd (nonNil (some ⟨b, 0⟩)) fun q => bd (fld q o) fun q => bd (ldS q) f) S :=
  tri_nn (tri_fl (tri_read n hl (fun _ hg => ldS_eq hg (by rw [Nat.zero_add]; exact hv)) kk))
theorem tri_gL (n : Nat) (hl : l[n]? = some (pts b (.cells cs ro))) {e ln : Nat} {p : Option MA} (hv : cs[o]? = some (.sl p ln e)) {f : Sl → M β} (kk : Tri (stars l) (f ⟨p, ln⟩) S) : Tri (stars l) (bd (nonNil (some ⟨b, 0⟩)) fun q => bd (fld q o) fun q => bd (ldL e q) f) S :=
  tri_nn (tri_fl (tri_read n hl (fun _ hg => ldL_eq hg (by rw [Nat.zero_add]; exact hv)) kk))
/-- A field of a struct is written. -/
theorem tri_sF (n : Nat) (hl : l[n]? = some (pts b (.cells cs false))) {v : MV} {f : Unit → M β} (kk : Tri (stars (upd l n (pts b (.cells (cs.set o v) false)))) (f ()) S) (ho : o < cs.length := by exact Nat.le_of_ble_eq_true rfl) (hc : isCell v = true := by rfl) : Tri (stars l) (bd (nonNil (some ⟨b, 0⟩)) fun q => bd (fld q o) fun q => bd (stc q v) f) S :=
  tri_nn (tri_fl (tri_write n hl (fun _ hg => by rw [Nat.zero_add]; exact stc_eq hg ho hc) kk))

/-- A struct is made. -/
theorem tri_alloc {f : Option MA → M β} (kk : ∀ b, Tri (stars (pts b (.cells cs false) :: l)) (f (some ⟨b, 0⟩)) S) : Tri (stars l) (bd (alloc cs) f) S :=
  tri_new (g := fun b => some ⟨b, 0⟩) (fun _ => rfl) kk

/-- Some cells of a row are read. -/
theorem tri_ldn (n : Nat) (hl : l[n]? = some (pts b (.cells cs ro))) {m : Nat} (hm : o + m ≤ cs.length) {f : List MV → M β} (kk : Tri (stars l) (f ((cs.drop o).take m)) S) : Tri (stars l) (bd (ldn m (some ⟨b, o⟩)) f) S :=
  tri_read n hl (fun _ hg => ldn_eq hg hm) kk
theorem tri_stn (n : Nat) (hl : l[n]? = some (pts b (.cells cs false))) {m : Nat} {vs : List MV} (hn : vs.length = m) (hm : o + vs.length ≤ cs.length) (hc : vs.all isCell = true) {f : Unit → M β} (kk : Tri (stars (upd l n (pts b (.cells (over cs o vs) false)))) (f ()) S) : Tri (stars l) (bd (stn m (some ⟨b, o⟩) vs) f) S :=
  tri_write n hl (fun _ hg => stn_eq hg hn hm hc) kk
theorem tri_ldI (n : Nat) (hl : l[n]? = some (pts b (.cells cs ro))) {k : IntKind} {v : Int} (hv : cs[o]? = some (.int k v)) {f : Int → M β} (kk : Tri (stars l) (f v) S) : Tri (stars l) (bd (ldI k (some ⟨b, o⟩)) f) S :=
  tri_read n hl (fun _ hg => ldI_eq hg hv) kk
theorem tri_ldP (n : Nat) (hl : l[n]? = some (pts b (.cells cs ro))) {v : Option MA} (hv : cs[o]? = some (.ptr v)) {f : Option MA → M β} (kk : Tri (stars l) (f v) S) : Tri (stars l) (bd (ldP (some ⟨b, o⟩)) f) S :=
  tri_read n hl (fun _ hg => ldP_eq hg hv) kk
theorem tri_ldB (n : Nat) (hl : l[n]? = some (pts b (.cells cs ro))) {v : Bool} (hv : cs[o]? = some (.bool v)) {f : Bool → M β} (kk : Tri (stars l) (f v) S) : Tri (stars l) (bd (ldB (some ⟨b, o⟩)) f) S :=
  tri_read n hl (fun _ hg => ldB_eq hg hv) kk
theorem tri_ldS (n : Nat) (hl : l[n]? = some (pts b (.cells cs ro))) {v : List UInt8} (hv : cs[o]? = some (.str v)) {f : List UInt8 → M β} (kk : Tri (stars l) (f v) S) : Tri (stars l) (bd (ldS (some ⟨b, o⟩)) f) S :=
  tri_read n hl (fun _ hg => ldS_eq hg hv) kk
theorem tri_ldL (n : Nat) (hl : l[n]? = some (pts b (.cells cs ro))) {e ln : Nat} {p : Option MA} (hv : cs[o]? = some (.sl p ln e)) {f : Sl → M β} (kk : Tri (stars l) (f ⟨p, ln⟩) S) : Tri (stars l) (bd (ldL e (some ⟨b, o⟩)) f) S :=
  tri_read n hl (fun _ hg => ldL_eq hg hv) kk
theorem tri_stc (n : Nat) (hl : l[n]? = some (pts b (.cells cs false))) {v : MV} (ho : o < cs.length) (hc : isCell v = true) {f : Unit → M β} (kk : Tri (stars (upd l n (pts b (.cells (cs.set o v) false)))) (f ()) S) : Tri (stars l) (bd (stc (some ⟨b, o⟩) v) f) S :=
  tri_write n hl (fun _ hg => stc_eq hg ho hc) kk
theorem tri_idx {e ln : Nat} {i : Nat} (hi : i < ln) {f : Option MA → M β} (kk : Tri A (f (some ⟨b, o + i * e⟩)) S) : Tri A (bd (idx e ⟨some ⟨b, o⟩, ln⟩ (i : Int)) f) S :=
  tri_op (fun _ => idx_nat hi) kk
theorem tri_ok {a : α} {f : α → M β} (kk : Tri A (f a) S) : Tri A (okOf (some a) f) S := kk
theorem tri_some {a : α} {f : α → M β} (kk : Tri A (f a) S) : Tri A (bd (someOr (some a)) f) S := kk
end

/-- A slice of one's own: nil, or all of a block. -/
def OwnA (s : Sl) (e : Nat) (cs : List MV) : HA := fun q => (s = ⟨none, 0⟩ ∧ cs = [] ∧ emp q) ∨ ∃ b, s.p = some ⟨b, 0⟩ ∧ cs.length = s.len * e ∧ pts b (.cells cs false) q

theorem OwnA.nil (e : Nat) {q : PH} (h : emp q) : OwnA ⟨none, 0⟩ e [] q := .inl ⟨rfl, rfl, h⟩
theorem OwnA.mk {b ln e : Nat} {cs : List MV} {q : PH} (hl : cs.length = ln * e) (h : pts b (.cells cs false) q) : OwnA ⟨some ⟨b, 0⟩, ln⟩ e cs q := .inr ⟨b, rfl, hl, h⟩
theorem OwnA.len {s : Sl} {e : Nat} {cs : List MV} {q : PH} (h : OwnA s e cs q) : cs.length = s.len * e := by
  rcases h with ⟨rfl, rfl, _⟩ | ⟨_, _, h, _⟩
  · simp
  · exact h

theorem exact_own {s : Sl} {e : Nat} {cs : List MV} : Exact (OwnA s e cs) := by
  rintro q1 q2 (⟨rfl, _, h1⟩ | ⟨b, h1, _, h2⟩) (⟨h3, _, h4⟩ | ⟨b', h3, _, h4⟩)
  · exact exact_emp _ _ h1 h4
  · cases h3
  · rw [h3] at h1; cases h1
  · rw [h1] at h3
    cases h3
    exact exact_pts _ _ _ _ h2 h4

/-- One assertion of a list for another one, of the same blocks. -/
theorem stars_set_imp (n : Nat) {l : List HA} {A B : HA} (hl : l[n]? = some A) (h : ∀ q, A q → B q) : ∀ q, stars l q → stars (upd l n B) q := by
  intro q hq
  rw [stars_pick n l hl] at hq
  rw [upd_eq, star_set n l hl]
  obtain ⟨q1, q2, h1, h2, d, e⟩ := hq
  exact ⟨q1, q2, h q1 h1, h2, d, e⟩

inductive Imps : List HA → List HA → Prop
  | nil : Imps [] []
  | cons {A B : HA} {l m : List HA} (h : ∀ q, A q → B q) (t : Imps l m) : Imps (A :: l) (B :: m)
theorem stars_imp {l m : List HA} (h : Imps l m) : ∀ q, stars l q → stars m q := by
  induction h with
  | nil => exact fun q k => k
  | cons h _ ih =>
    rintro q ⟨q1, q2, h1, h2, d, e⟩
    exact ⟨q1, q2, h q1 h1, ih q2 h2, d, e⟩
theorem Imps.refl : ∀ (l : List HA), Imps l l
  | [] => .nil
  | _ :: l => .cons (fun _ k => k) (Imps.refl l)

/-- The first ones of a list are put under one assertion. -/
theorem ent_fold (l1 : List HA) {l : List HA} {A : HA} (h : ∀ q, stars l1 q → A q) {q : PH} (k : stars (cat l1 l) q) : stars (A :: l) q := by
  rw [cat_eq, stars_append] at k
  obtain ⟨q1, q2, h1, h2, r⟩ := k
  exact ⟨q1, q2, h q1 h1, h2, r⟩
/-- In another order. -/
theorem ent_sel (is : List Nat) {l : List HA} {q : PH} (h : stars l q) (hr : rem is l = [] := by rfl) : stars (sel is l) q := by
  rw [stars_sel is l, hr] at h
  rw [show stars [] = emp from rfl, star_emp] at h
  exact h
/-- The others than the first one. -/
theorem ent_tail {l m : List HA} {A : HA} (h : ∀ q, stars l q → stars m q) {q : PH} (k : stars (A :: l) q) : stars (A :: m) q := by
  obtain ⟨q1, q2, h1, h2, r⟩ := k
  exact ⟨q1, q2, h1, h q2 h2, r⟩
theorem ent_head {l : List HA} {A B : HA} (h : ∀ q, A q → B q) {q : PH} (k : stars (A :: l) q) : stars (B :: l) q := by
  obtain ⟨q1, q2, h1, h2, r⟩ := k
  exact ⟨q1, q2, h q1 h1, h2, r⟩
theorem ent_pu {φ : Prop} {A : HA} {l : List HA} {q : PH} (h : stars (pu φ A :: l) q) : φ ∧ stars (A :: l) q := by
  obtain ⟨q1, q2, ⟨h1, h2⟩, h3, r⟩ := h
  exact ⟨h1, q1, q2, h2, h3, r⟩
theorem ent_flat {l1 l : List HA} {q : PH} (h : stars (stars l1 :: l) q) : stars (cat l1 l) q := by
  rw [cat_eq, stars_append]
  exact h
/-- Nothing is put behind the others. -/
theorem ent_emp {A : HA} (h : ∀ q, emp q → A q) {l : List HA} {q : PH} (k : stars l q) : stars (A :: l) q :=
  ⟨fun _ => none, q, h _ fun _ => rfl, k, fun _ => .inl rfl, rfl⟩

section
variable {β : Type} {l : List HA} {m : M β} {S : β → HA}

/-- A slice of one's own is opened. -/
theorem tri_own (n : Nat) {s : Sl} {e : Nat} {cs : List MV} (hl : l[n]? = some (OwnA s e cs)) (k0 : s = ⟨none, 0⟩ → cs = [] → Tri (stars (upd l n emp)) m S)
    (k1 : ∀ b ln, s = ⟨some ⟨b, 0⟩, ln⟩ → cs.length = ln * e → Tri (stars (upd l n (pts b (.cells cs false)))) m S) : Tri (stars l) m S := by
  rintro h q hq hh
  rw [stars_pick n l hl] at hq
  obtain ⟨q1, q2, h1, h2, d, rfl⟩ := hq
  rcases h1 with ⟨h3, h4, h5⟩ | ⟨b, h3, h4, h5⟩
  · exact k0 h3 h4 h _ (by rw [upd_eq, star_set n l hl]; exact ⟨q1, q2, h5, h2, d, rfl⟩) hh
  · obtain ⟨p, ln⟩ := s
    dsimp only at h3 h4
    subst h3
    exact k1 b ln rfl h4 h _ (by rw [upd_eq, star_set n l hl]; exact ⟨q1, q2, h5, h2, d, rfl⟩) hh
/-- What an assertion tells besides. -/
theorem tri_know (n : Nat) {A : HA} {φ : Prop} (hl : l[n]? = some A) (h : ∀ q, A q → φ) (k : φ → Tri (stars l) m S) : Tri (stars l) m S := by
  rintro h' q hq hh
  have hq2 := hq
  rw [stars_pick n l hl] at hq2
  obtain ⟨q1, q2, h1, h2, d, rfl⟩ := hq2
  exact k (h q1 h1) h' _ hq hh
/-- An assertion is opened where it stands. -/
theorem tri_open (n : Nat) {A : HA} {γ : Type} {φ : γ → Prop} {L : γ → List HA} (hl : l[n]? = some A) (h : ∀ q, A q → ∃ x, φ x ∧ stars (L x) q) (k : ∀ x, φ x → Tri (stars (cat (L x) (del l n))) m S) : Tri (stars l) m S := by
  rintro h' q hq hh
  rw [stars_pick n l hl] at hq
  obtain ⟨q1, q2, h1, h2, d, rfl⟩ := hq
  obtain ⟨x, hx, h3⟩ := h q1 h1
  exact k x hx h' _ (by rw [cat_eq, del_eq, stars_append]; exact ⟨q1, q2, h3, h2, d, rfl⟩) hh
/-- An assertion for another. -/
theorem tri_turn (n : Nat) {A B : HA} (hl : l[n]? = some A) (h : ∀ q, A q → B q) (k : Tri (stars (upd l n B)) m S) : Tri (stars l) m S :=
  k.pre (stars_set_imp n hl h)
end

/-- So many rows, one behind the other. -/
theorem flat_len {e : Nat} : ∀ {L : List (List MV)}, (∀ r ∈ L, r.length = e) → L.flatten.length = L.length * e
  | [], _ => by simp
  | r :: L, h => by
    have ih := flat_len (L := L) fun x hx => h x (by simp [hx])
    have := h r (by simp)
    simp only [List.flatten_cons, List.length_append, List.length_cons, Nat.add_mul]
    omega
theorem flat_get {e : Nat} : ∀ {L : List (List MV)}, (∀ r ∈ L, r.length = e) → ∀ (i : Nat) (hi : i < L.length), (L.flatten.drop (i * e)).take e = L[i]
  | [], _, i, hi => by simp at hi
  | r :: L, h, 0, _ => by
    have h1 := h r (by simp)
    simp only [List.flatten_cons, Nat.zero_mul, List.drop_zero, List.getElem_cons_zero]
    exact List.take_left' h1
  | r :: L, h, i + 1, hi => by
    have h1 := h r (by simp)
    have ih := flat_get (L := L) (fun x hx => h x (by simp [hx])) i (by simpa using hi)
    simp only [List.flatten_cons, List.getElem_cons_succ]
    rw [← ih]
    congr 1
    rw [List.drop_append, List.drop_of_length_le (by rw [h1, Nat.add_mul]; omega), List.nil_append]
    congr 1
    rw [h1, Nat.add_mul]
    omega
theorem flat_over {e : Nat} {r' : List MV} (hr : r'.length = e) : ∀ {L : List (List MV)}, (∀ r ∈ L, r.length = e) → ∀ (i : Nat), i < L.length → over L.flatten (i * e) r' = (L.set i r').flatten
  | [], _, i, hi => by simp at hi
  | r :: L, h, 0, _ => by
    have h1 := h r (by simp)
    unfold over
    simp only [List.flatten_cons, Nat.zero_mul, List.take_zero, List.nil_append, List.set_cons_zero, Nat.zero_add]
    congr 1
    rw [hr, List.drop_left' h1]
  | r :: L, h, i + 1, hi => by
    have h1 := h r (by simp)
    have ih := flat_over hr (L := L) (fun x hx => h x (by simp [hx])) i (by simpa using hi)
    simp only [List.flatten_cons, List.set_cons_succ]
    rw [← ih]
    unfold over
    have e1 : (i + 1) * e = r.length + i * e := by rw [h1, Nat.add_mul]; omega
    rw [e1, Nat.add_assoc, List.take_length_add_append, List.drop_length_add_append]
    simp
theorem flat_bound {e i n : Nat} (hi : i < n) : i * e + e ≤ n * e := by
  have := Nat.mul_le_mul_right e (show i + 1 ≤ n by omega)
  rw [Nat.add_mul] at this
  omega
theorem all_flat {p : MV → Bool} {L : List (List MV)} (h : ∀ r ∈ L, r.all p = true) : L.flatten.all p = true := by
  rw [List.all_eq_true]
  intro x hx
  obtain ⟨r, hr, hxr⟩ := List.mem_flatten.1 hx
  exact List.all_eq_true.1 (h r hr) x hxr

theorem reps_eq (n : Nat) (z : List MV) : reps n z = (List.replicate n z).flatten := by
  induction n with
  | zero => rfl
  | succ n ih => simp [reps, ih, List.replicate_succ]
theorem reps_one (n : Nat) (v : MV) : reps n [v] = List.replicate n v := by
  induction n with
  | zero => rfl
  | succ n ih => simp [reps, ih, List.replicate_succ]

theorem bytes_cell (s : List UInt8) : (bytesOf s).all isCell = true := by
  simp [bytesOf, isCell]
theorem bytes_len (s : List UInt8) : (bytesOf s).length = s.length := by simp [bytesOf]
theorem strOf_bytes : ∀ (s : List UInt8), strOf (bytesOf s) = some s
  | [] => rfl
  | c :: s => by
    have ih := strOf_bytes s
    unfold bytesOf at ih ⊢
    simp only [List.map_cons, strOf, ih]
    simp

section
variable {β : Type} {l : List HA} {S : β → HA}

/-- The cells of a slice that lies at the head of a block. -/
theorem head_cells {s : Sl} {e b : Nat} {cs : List MV} {ro : Bool} (hp : s.p = some ⟨b, 0⟩) (hl : s.len * e ≤ cs.length) {h : Hp} {q : PH} (hq : pts b (.cells cs ro) q) (hh : Has h q) : cellsOf e s h = some (cs.take (s.len * e), h) := by
  obtain ⟨p, ln⟩ := s
  dsimp only at hp hl
  subst hp
  obtain ⟨_, g⟩ := pts_get hq hh
  unfold cellsOf
  dsimp only
  rw [ldn_eq g (by omega), List.drop_zero]
theorem own_cells_of {s : Sl} {e : Nat} {cs : List MV} {h : Hp} {q : PH} (hq : OwnA s e cs q) (hh : Has h q) : cellsOf e s h = some (cs, h) := by
  rcases hq with ⟨rfl, rfl, _⟩ | ⟨b, hp, hl, hb⟩
  · rfl
  · rw [head_cells hp (by omega) hb hh, List.take_of_length_le (by omega)]

/-- append(s, t...): 's' moves, 't' is as it was. -/
theorem app_gen {T : HA} {s t : Sl} {e by' : Nat} {cs ts : List MV} (ht : ∀ h q, T q → Has h q → cellsOf e t h = some (ts, h)) (lts : ts.length = t.len * e) (he : 0 < e) (hall : ts.all isCell = true) (hbig : (s.len + t.len) * by' ≤ most) : Tri (stars [OwnA s e cs, T]) (app e by' s t) fun r => stars [OwnA r e (cs ++ ts), T] := by
  rintro h q ⟨q1, q2, h1, ⟨q3, q4, h2, h3, d2, rfl⟩, d1, rfl⟩ hh
  have hq4 : ∀ b, q4 b = none := h3
  have e4 : un q3 q4 = q3 := by
    funext b
    unfold un
    cases q3 b with
    | some _ => rfl
    | none => exact hq4 b
  rw [e4] at d1 hh ⊢
  obtain ⟨k1, k2⟩ := (has_un d1).1 hh
  have htc : cellsOf e t h = some (ts, h) := ht h q3 h2 k2
  have fin : ∀ (r : Sl) (h' : Hp) (p : PH), appc e by' s ts h = some (r, h') → OwnA r e (cs ++ ts) p → Has h' p → Disj p q3 → h.size ≤ h'.size → (∀ b, b < h.size → q1 b = none → h'.get b = h.get b) → (∀ b, p b ≠ none → q1 b ≠ none ∨ h.size ≤ b) →
      ∃ a h' q', app e by' s t h = some (a, h') ∧ stars [OwnA a e (cs ++ ts), T] q' ∧ Has h' q' ∧ h.size ≤ h'.size ∧ (∀ b, b < h.size → un q1 q3 b = none → h'.get b = h.get b) ∧ ∀ b, q' b ≠ none → un q1 q3 b ≠ none ∨ h.size ≤ b := by
    intro r h' p e1 ho hp dp hs hk hn
    refine ⟨r, h', un p q3, ?_, ⟨p, q3, ho, by rw [stars_one]; exact h2, dp, rfl⟩, (has_un dp).2 ⟨hp, fun b x hx => ?_⟩, hs, fun b hb hbn => hk b hb (un_none.1 hbn).1, fun b hb => ?_⟩
    · simp only [app, bd, htc, hall, if_true]
      exact e1
    · obtain ⟨g1, g2⟩ := k2 b x hx
      have : q1 b = none := by
        rcases d1 b with c | c
        · exact c
        · rw [c] at hx; cases hx
      exact ⟨Nat.lt_of_lt_of_le g1 hs, (hk b g1 this).trans g2⟩
    · by_cases c : p b = none
      · exact .inl fun c2 => hb (un_none.2 ⟨c, (un_none.1 c2).2⟩)
      · rcases hn b c with y | y
        · exact .inl fun c2 => y (un_none.1 c2).1
        · exact .inr y
  by_cases h0 : ts = []
  · subst h0
    refine fin s h q1 (by unfold appc; rw [if_pos rfl]) (by rw [List.append_nil]; exact h1) k1 d1 (Nat.le_refl _) (fun _ _ _ => rfl) fun b hb => .inl hb
  · have htl : 0 < t.len := by
      rcases Nat.eq_zero_or_pos t.len with z | z
      · rw [z] at lts; simp at lts; exact absurd lts h0
      · exact z
    have hdiv : ts.length / e = t.len := by rw [lts]; exact Nat.mul_div_cancel _ he
    have hmod : ts.length % e = 0 := by rw [lts]; exact Nat.mul_mod_left _ _
    have newp : ∀ (h' : Hp), h'.size = h.size + 1 → h'.get h.size = .cells (cs ++ ts) false → (∀ b, b < h.size → q1 b = none → h'.get b = h.get b) → (cs ++ ts).length = (s.len + t.len) * e → appc e by' s ts h = some (⟨some ⟨h.size, 0⟩, s.len + t.len⟩, h') →
        ∃ a h' q', app e by' s t h = some (a, h') ∧ stars [OwnA a e (cs ++ ts), T] q' ∧ Has h' q' ∧ h.size ≤ h'.size ∧ (∀ b, b < h.size → un q1 q3 b = none → h'.get b = h.get b) ∧ ∀ b, q' b ≠ none → un q1 q3 b ≠ none ∨ h.size ≤ b := by
      intro h' hs hg hk hl e1
      refine fin _ h' (fun b => if b = h.size then some (.cells (cs ++ ts) false) else none) e1 (.mk hl fun _ => rfl) ?_ ?_ (by omega) hk ?_
      · intro b x hx
        dsimp only at hx
        split at hx
        · rename_i hb
          cases hx
          subst hb
          exact ⟨by omega, hg⟩
        · cases hx
      · intro b
        by_cases hb : b = h.size
        · right
          cases hx : q3 b with
          | none => rfl
          | some x => have := (k2 b x hx).1; omega
        · left
          exact if_neg hb
      · intro b hb
        split at hb
        · right; omega
        · exact absurd rfl hb
    rcases h1 with ⟨rfl, rfl, hem⟩ | ⟨b, hp, hl, hb⟩
    · refine newp (h.push (.cells ts false)) (by simp) (by simp) (fun b hb _ => Hp.get_push_lt _ _ hb) (by simp [lts]) ?_
      unfold appc
      rw [if_neg h0, hdiv, if_pos ⟨hmod, hbig⟩]
      simp
    · obtain ⟨sp, sl⟩ := s
      dsimp only at hp hl
      subst hp
      obtain ⟨g1, g2⟩ := pts_get hb k1
      refine newp ((h.set b .dead).push (.cells (cs ++ ts) false)) (by simp) (by rw [Hp.get_push]; simp) (fun c hc hn => ?_) (by simp [hl, lts, Nat.add_mul]) ?_
      · rw [Hp.get_push_lt _ _ (by simpa using hc)]
        exact Hp.get_set_ne _ _ fun e => by
          rw [hb c, if_pos e] at hn
          cases hn
      · unfold appc
        rw [if_neg h0, hdiv, if_pos ⟨hmod, hbig⟩]
        dsimp only
        rw [g2]
        dsimp only
        rw [if_pos (by simp [hl]), List.drop_zero, List.take_of_length_le (by omega)]

theorem own_app {s t : Sl} {e by' : Nat} {cs ts : List MV} (he : 0 < e) (hall : ts.all isCell = true) (hbig : (s.len + t.len) * by' ≤ most) : Tri (stars [OwnA s e cs, OwnA t e ts]) (app e by' s t) fun r => stars [OwnA r e (cs ++ ts), OwnA t e ts] := by
  intro h q hq hh
  have hl : ts.length = t.len * e := by
    obtain ⟨q1, q2, h1, ⟨q3, q4, h2, h3, d2, rfl⟩, d1, rfl⟩ := hq
    exact h2.len
  exact app_gen (fun _ _ a b => own_cells_of a b) hl he hall hbig h q hq hh
/-- ..one element, or a few, of a block that is read alone. -/
theorem pts_app {s : Sl} {b k e by' : Nat} {cs ts : List MV} {ro : Bool} (he : 0 < e) (hl : k * e ≤ ts.length) (hall : (ts.take (k * e)).all isCell = true) (hbig : (s.len + k) * by' ≤ most) : Tri (stars [OwnA s e cs, pts b (.cells ts ro)]) (app e by' s ⟨some ⟨b, 0⟩, k⟩) fun r => stars [OwnA r e (cs ++ ts.take (k * e)), pts b (.cells ts ro)] :=
  app_gen (t := ⟨some ⟨b, 0⟩, k⟩) (fun _ _ a b => head_cells rfl hl a b) (by rw [List.length_take]; dsimp only; omega) he hall hbig

/-- ..a piece of a slice of one's own. -/
theorem mid_cells {b k o e : Nat} {cs : List MV} {ro : Bool} (hl : o + k * e ≤ cs.length) {h : Hp} {q : PH} (hq : pts b (.cells cs ro) q) (hh : Has h q) : cellsOf e ⟨some ⟨b, o⟩, k⟩ h = some ((cs.drop o).take (k * e), h) := by
  obtain ⟨_, g⟩ := pts_get hq hh
  unfold cellsOf
  dsimp only
  rw [ldn_eq g hl]
theorem mid_app {s : Sl} {b k o e by' : Nat} {cs ts : List MV} {ro : Bool} (he : 0 < e) (hl : o + k * e ≤ ts.length) (hall : ((ts.drop o).take (k * e)).all isCell = true) (hbig : (s.len + k) * by' ≤ most) : Tri (stars [OwnA s e cs, pts b (.cells ts ro)]) (app e by' s ⟨some ⟨b, o⟩, k⟩) fun r => stars [OwnA r e (cs ++ (ts.drop o).take (k * e)), pts b (.cells ts ro)] :=
  app_gen (t := ⟨some ⟨b, o⟩, k⟩) (fun _ _ a b => mid_cells hl a b) (by rw [List.length_take, List.length_drop]; dsimp only; omega) he hall hbig

/-- string(b) -/
theorem own_toStr {s : Sl} {bs : List UInt8} : Tri (stars [OwnA s 1 (bytesOf bs)]) (toStr s) fun r => pu (r = bs) (stars [OwnA s 1 (bytesOf bs)]) := by
  intro h q hq hh
  have hq' := hq
  rw [stars_one] at hq'
  refine ⟨bs, h, q, ?_, ⟨rfl, hq⟩, hh, Nat.le_refl _, fun _ _ _ => rfl, fun _ hb => .inl hb⟩
  unfold toStr
  simp only [bd, own_cells_of hq' hh, strOf_bytes]
  rfl

/-- A number is held for a block. -/
theorem tri_hold {f : Nat → M β} (k : ∀ b, Tri (stars (pts b .dead :: l)) (f b) S) : Tri (stars l) (bd (hold 1) f) S :=
  tri_new (g := fun b => b) (fun _ => rfl) k
theorem tri_allocAt (n : Nat) {b : Nat} {cs : List MV} (hl : l[n]? = some (pts b .dead)) {f : Option MA → M β} (k : Tri (stars (upd l n (pts b (.cells cs false)))) (f (some ⟨b, 0⟩)) S) : Tri (stars l) (bd (allocAt b cs) f) S :=
  tri_writel n hl (fun h hb hg => by
    unfold allocAt
    simp only [bd, putAt, hg, hb, if_true]
    rfl) k

/-- slices.Clone -/
def cloneM (e by' : Nat) (s : Sl) : M Sl := if (Option.isNone s.p) = true then (ret (⟨(none : Option MA), 0⟩)) else (bd (alloc []) fun q => bd (app e by' (⟨q, 0⟩) s) fun l => ret l)
theorem own_clone {s : Sl} {e by' : Nat} {cs : List MV} (he : 0 < e) (hall : cs.all isCell = true) (hbig : s.len * by' ≤ most) : Tri (stars [OwnA s e cs]) (cloneM e by' s) fun r => stars [OwnA r e cs, OwnA s e cs] := by
  refine tri_own 0 rfl (fun h1 h2 => ?_) fun b ln h1 h2 => ?_
  · subst h1 h2
    refine tri_ret fun q hq => ?_
    rw [upd, stars_one] at hq
    exact ⟨q, fun _ => none, .nil e hq, by rw [stars_one]; exact .nil e fun _ => rfl, fun _ => .inr rfl, by funext c; rw [un_none.2 ⟨hq c, rfl⟩, hq c]⟩
  · subst h1
    show Tri _ (bd (alloc []) fun q => bd (app e by' ⟨q, 0⟩ _) fun l => ret l) _
    refine tri_alloc fun b' => ?_
    refine tri_turn 0 (B := OwnA ⟨some ⟨b', 0⟩, 0⟩ e []) rfl (fun q hq => .mk (by simp) hq) ?_
    refine tri_call [0, 0] (pts_app he (by omega) (by rw [List.take_of_length_le (by omega)]; exact hall) (by simpa using hbig)) fun r => ?_
    refine tri_flat (tri_end [0, 0] fun q hq => ?_)
    rw [List.take_of_length_le (by omega)] at hq
    exact stars_imp (.cons (fun _ k => k) (.cons (fun _ k => .mk h2 k) .nil)) q hq
/-- ..of what lies at the head of a block. -/
theorem pts_clone {b k e by' : Nat} {cs : List MV} {ro : Bool} (he : 0 < e) (hl : k * e ≤ cs.length) (hall : (cs.take (k * e)).all isCell = true) (hbig : k * by' ≤ most) : Tri (stars [pts b (.cells cs ro)]) (cloneM e by' ⟨some ⟨b, 0⟩, k⟩) fun r => stars [OwnA r e (cs.take (k * e)), pts b (.cells cs ro)] := by
  show Tri _ (bd (alloc []) fun q => bd (app e by' ⟨q, 0⟩ _) fun l => ret l) _
  refine tri_alloc fun b' => ?_
  refine tri_turn 0 (B := OwnA ⟨some ⟨b', 0⟩, 0⟩ e []) rfl (fun q hq => .mk (by simp) hq) ?_
  refine tri_call [0, 0] (pts_app he hl hall (by simpa using hbig)) fun r => ?_
  exact tri_flat (tri_end [0, 0] fun q hq => hq)

end
end Go.Mini
