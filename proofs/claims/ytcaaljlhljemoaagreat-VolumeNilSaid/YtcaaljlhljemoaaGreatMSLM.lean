/- The laws' own toolkit: maps whose keys are numbers, that are one's own. -/
import Derived.Test.YtcaaljlhljemoaaGreatMSL
import Derived.Test.YtcaaljlhljemoaaGreatMINS
namespace Go.Mini

def kvC (kd : IntKind) (kvs : List (Int × MV)) : List (MV × MV) := kvs.map fun e => (.int kd e.1, e.2)
def getK : List (Int × MV) → Int → Option MV
  | [], _ => none
  | e :: r, k => if k = e.1 then some e.2 else getK r k
def putK : List (Int × MV) → Int → MV → List (Int × MV)
  | [], k, v => [(k, v)]
  | e :: r, k, v => if k = e.1 then (k, v) :: r else e :: putK r k v
def delK : List (Int × MV) → Int → List (Int × MV)
  | [], _ => []
  | e :: r, k => if k = e.1 then r else e :: delK r k
def atK : List (Int × MV) → Int → Option (Nat × MV)
  | [], _ => none
  | e :: r, k => if k = e.1 then some (0, e.2) else (atK r k).map fun x => (x.1 + 1, x.2)

theorem atK_get : ∀ (kvs : List (Int × MV)) (k : Int), (atK kvs k).map (·.2) = getK kvs k
  | [], _ => rfl
  | e :: r, k => by
    unfold atK getK
    split
    · rfl
    · rw [← atK_get r k]
      cases atK r k <;> rfl
theorem findK_kv (kd : IntKind) : ∀ (kvs : List (Int × MV)) (k : Int), findK (.int kd k) (kvC kd kvs) = some (atK kvs k)
  | [], _ => rfl
  | e :: r, k => by
    have ih := findK_kv kd r k
    unfold kvC at ih ⊢
    simp only [List.map_cons, findK, keyEq, if_true, atK]
    by_cases h : k = e.1
    · simp [h]
    · simp only [decide_eq_false h, ih, if_neg h]
      cases atK r k <;> rfl
theorem atK_put (kd : IntKind) (v : MV) : ∀ (kvs : List (Int × MV)) (k : Int), (match atK kvs k with
    | some (i, _) => (kvC kd kvs).set i (.int kd k, v)
    | none => kvC kd kvs ++ [(.int kd k, v)]) = kvC kd (putK kvs k v)
  | [], _ => rfl
  | e :: r, k => by
    have ih := atK_put kd v r k
    unfold atK putK
    by_cases h : k = e.1
    · simp [h, kvC]
    · rw [if_neg h, if_neg h]
      cases hx : atK r k with
      | none =>
        rw [hx] at ih
        dsimp only [Option.map_none] at ih ⊢
        unfold kvC at ih ⊢
        simp only [List.map_cons, List.cons_append, ih]
      | some x =>
        obtain ⟨i, w⟩ := x
        rw [hx] at ih
        dsimp only [Option.map_some] at ih ⊢
        unfold kvC at ih ⊢
        simp only [List.map_cons, List.set_cons_succ, ih]
theorem atK_del (kd : IntKind) : ∀ (kvs : List (Int × MV)) (k : Int), (match atK kvs k with
    | some (i, _) => (kvC kd kvs).eraseIdx i
    | none => kvC kd kvs) = kvC kd (delK kvs k)
  | [], _ => rfl
  | e :: r, k => by
    have ih := atK_del kd r k
    unfold atK delK
    by_cases h : k = e.1
    · simp [h, kvC]
    · rw [if_neg h, if_neg h]
      cases hx : atK r k with
      | none =>
        rw [hx] at ih
        dsimp only [Option.map_none] at ih ⊢
        unfold kvC at ih ⊢
        simp only [List.map_cons, ih]
      | some x =>
        obtain ⟨i, w⟩ := x
        rw [hx] at ih
        dsimp only [Option.map_some] at ih ⊢
        unfold kvC at ih ⊢
        simp only [List.map_cons, List.eraseIdx_cons_succ, ih]

theorem getK_put (v : MV) : ∀ (kvs : List (Int × MV)) (k k' : Int), getK (putK kvs k v) k' = if k' = k then some v else getK kvs k'
  | [], k, k' => by simp [putK, getK]
  | e :: r, k, k' => by
    have ih := getK_put v r k k'
    unfold putK
    by_cases h : k = e.1
    · rw [if_pos h]
      simp only [getK, ← h]
      split <;> rfl
    · rw [if_neg h]
      simp only [getK, ih]
      by_cases h2 : k' = e.1
      · rw [if_pos h2, if_pos h2, if_neg (fun c : k' = k => h (c.symm.trans h2))]
      · rw [if_neg h2, if_neg h2]
theorem mem_putK {v : MV} : ∀ {kvs : List (Int × MV)} {k k' : Int}, k' ∈ (putK kvs k v).map (·.1) ↔ k' = k ∨ k' ∈ kvs.map (·.1)
  | [], k, k' => by simp [putK]
  | e :: r, k, k' => by
    have ih := mem_putK (v := v) (kvs := r) (k := k) (k' := k')
    unfold putK
    by_cases h : k = e.1
    · rw [if_pos h]
      simp [h]
    · rw [if_neg h, List.map_cons, List.mem_cons, ih, List.map_cons, List.mem_cons]
      constructor
      · rintro (h | h | h)
        · exact .inr (.inl h)
        · exact .inl h
        · exact .inr (.inr h)
      · rintro (h | h | h)
        · exact .inr (.inl h)
        · exact .inl h
        · exact .inr (.inr h)
theorem nodup_putK (v : MV) : ∀ (kvs : List (Int × MV)) (k : Int), (kvs.map (·.1)).Nodup → ((putK kvs k v).map (·.1)).Nodup
  | [], k, _ => by simp [putK]
  | e :: r, k, h => by
    rw [List.map_cons, List.nodup_cons] at h
    have ih := nodup_putK v r k h.2
    unfold putK
    by_cases hk : k = e.1
    · rw [if_pos hk, List.map_cons, List.nodup_cons]
      exact ⟨by simpa [hk] using h.1, h.2⟩
    · rw [if_neg hk, List.map_cons, List.nodup_cons, mem_putK]
      exact ⟨fun c => c.elim (fun c => hk c.symm) h.1, ih⟩
theorem mem_delK {kvs : List (Int × MV)} {k k' : Int} (h : k' ∈ (delK kvs k).map (·.1)) : k' ∈ kvs.map (·.1) := by
  induction kvs with
  | nil => exact h
  | cons e r ih =>
    unfold delK at h
    split at h
    · rw [List.map_cons, List.mem_cons]; exact .inr h
    · rw [List.map_cons, List.mem_cons] at h ⊢
      exact h.imp id ih
theorem nodup_delK : ∀ (kvs : List (Int × MV)) (k : Int), (kvs.map (·.1)).Nodup → ((delK kvs k).map (·.1)).Nodup
  | [], _, h => h
  | e :: r, k, h => by
    rw [List.map_cons, List.nodup_cons] at h
    unfold delK
    split
    · exact h.2
    · rw [List.map_cons, List.nodup_cons]
      exact ⟨fun c => h.1 (mem_delK c), nodup_delK r k h.2⟩
theorem getK_none {kvs : List (Int × MV)} {k : Int} : getK kvs k = none ↔ k ∉ kvs.map (·.1) := by
  induction kvs with
  | nil => simp [getK]
  | cons e r ih =>
    unfold getK
    by_cases h : k = e.1
    · simp [h]
    · rw [if_neg h, ih, List.map_cons, List.mem_cons]
      simp [h]
theorem delK_none : ∀ {kvs : List (Int × MV)} {k : Int}, getK kvs k = none → delK kvs k = kvs
  | [], _, _ => rfl
  | e :: r, k, h => by
    unfold getK at h
    unfold delK
    split at h
    · cases h
    · rename_i hk
      rw [if_neg hk, delK_none h]
theorem getK_del : ∀ (kvs : List (Int × MV)) (k k' : Int), (kvs.map (·.1)).Nodup → getK (delK kvs k) k' = if k' = k then none else getK kvs k'
  | [], k, k', _ => by simp [delK, getK]
  | e :: r, k, k', h => by
    rw [List.map_cons, List.nodup_cons] at h
    have ih := getK_del r k k' h.2
    unfold delK
    by_cases hk : k = e.1
    · rw [if_pos hk]
      by_cases h2 : k' = k
      · rw [if_pos h2, getK_none, h2, hk]
        exact h.1
      · rw [if_neg h2]
        show _ = if k' = e.1 then _ else _
        rw [if_neg (fun c => h2 (c.trans hk.symm))]
    · rw [if_neg hk]
      simp only [getK, ih]
      by_cases h2 : k' = e.1
      · rw [if_pos h2, if_pos h2, if_neg (fun c : k' = k => hk (c.symm.trans h2))]
      · rw [if_neg h2, if_neg h2]

/-- A map of one's own: keys and values. -/
def MapK (kd : IntKind) (b : Nat) (kvs : List (Int × MV)) : HA := pu (kvs.map (·.1)).Nodup (pts b (.map (kvC kd kvs)))

section
variable {β : Type} {l : List HA} {S : β → HA} {kd : IntKind} {b : Nat} {kvs : List (Int × MV)}

theorem tri_map (n : Nat) {m : M β} (hl : l[n]? = some (MapK kd b kvs)) (k : (kvs.map (·.1)).Nodup → Tri (stars (upd l n (pts b (.map (kvC kd kvs))))) m S) : Tri (stars l) m S := by
  rintro h q hq hh
  rw [stars_pick n l hl] at hq
  obtain ⟨q1, q2, ⟨hn, h1⟩, h2, d, rfl⟩ := hq
  exact k hn h _ (by rw [upd_eq, star_set n l hl]; exact ⟨q1, q2, h1, h2, d, rfl⟩) hh

theorem nth_upd : ∀ (l : List HA) (n : Nat) {A : HA} (B : HA), l[n]? = some A → (upd l n B)[n]? = some B
  | [], _, _, _, h => by cases h
  | _ :: _, 0, _, _, _ => rfl
  | _ :: l, n + 1, _, B, h => nth_upd l n B h
theorem upd_upd : ∀ (l : List HA) (n : Nat) (A B : HA), upd (upd l n A) n B = upd l n B
  | [], _, _, _ => rfl
  | _ :: _, 0, _, _ => rfl
  | C :: l, n + 1, A, B => congrArg (C :: ·) (upd_upd l n A B)
theorem upd_same : ∀ (l : List HA) (n : Nat) {A : HA}, l[n]? = some A → upd l n A = l
  | [], _, _, h => by cases h
  | _ :: _, 0, _, h => by cases h; rfl
  | C :: l, n + 1, A, h => congrArg (C :: ·) (upd_same l n h)

/-- m[k] -/
theorem tri_look (n : Nat) (hl : l[n]? = some (MapK kd b kvs)) (k : Int) {f : Option MV → M β} (kk : Tri (stars l) (f (getK kvs k)) S) : Tri (stars l) (bd (mapLook (some b) (.int kd k)) f) S := by
  refine tri_map n hl fun hn => ?_
  refine tri_read n (nth_upd l n _ hl) (a := getK kvs k) (fun h hg => ?_) ?_
  · unfold mapLook
    simp only [bd, mapGet, hg, findK_kv]
    rw [← atK_get]
    cases atK kvs k <;> rfl
  · refine kk.pre fun q hq => ?_
    have := stars_set_imp n (l := upd l n (pts b (.map (kvC kd kvs)))) (B := MapK kd b kvs) (nth_upd l n _ hl) (fun q h => ⟨hn, h⟩) q hq
    rwa [upd_upd, upd_same l n hl] at this
/-- m[k] = v -/
theorem tri_put (n : Nat) (hl : l[n]? = some (MapK kd b kvs)) (k : Int) (v : MV) {f : Unit → M β} (kk : Tri (stars (upd l n (MapK kd b (putK kvs k v)))) (f ()) S) : Tri (stars l) (bd (mapPut (some b) (.int kd k) v) f) S := by
  refine tri_map n hl fun hn => ?_
  refine tri_write n (nth_upd l n _ hl) (a := ()) (y := .map (kvC kd (putK kvs k v))) (fun h hg => ?_) ?_
  · unfold mapPut
    have := atK_put kd v kvs k
    simp only [hg, findK_kv]
    cases hx : atK kvs k with
    | none => rw [hx] at this; dsimp only at this ⊢; rw [this]
    | some x => rw [hx] at this; dsimp only at this ⊢; rw [this]
  · rw [upd_upd]
    refine kk.pre fun q hq => ?_
    have := stars_set_imp n (l := upd l n (pts b (.map (kvC kd (putK kvs k v))))) (B := MapK kd b (putK kvs k v)) (nth_upd l n _ hl) (fun q h => ⟨nodup_putK v kvs k hn, h⟩) q hq
    rwa [upd_upd] at this
/-- delete(m, k) -/
theorem tri_delk (n : Nat) (hl : l[n]? = some (MapK kd b kvs)) (k : Int) {f : Unit → M β} (kk : (kvs.map (·.1)).Nodup → Tri (stars (upd l n (MapK kd b (delK kvs k)))) (f ()) S) : Tri (stars l) (bd (mapDel (some b) (.int kd k)) f) S := by
  refine tri_map n hl fun hn => ?_
  have back : ∀ q, stars (upd l n (pts b (.map (kvC kd (delK kvs k))))) q → stars (upd l n (MapK kd b (delK kvs k))) q := fun q hq => by
    have := stars_set_imp n (l := upd l n (pts b (.map (kvC kd (delK kvs k))))) (B := MapK kd b (delK kvs k)) (nth_upd l n _ hl) (fun q h => ⟨nodup_delK kvs k hn, h⟩) q hq
    rwa [upd_upd] at this
  cases hx : atK kvs k with
  | none =>
    have he : delK kvs k = kvs := delK_none (by rw [← atK_get, hx]; rfl)
    refine tri_read n (nth_upd l n _ hl) (a := ()) (fun h hg => ?_) ?_
    · unfold mapDel
      simp only [hg, findK_kv, hx]
    · rw [← he]
      have := (kk hn).pre back
      rw [he] at this ⊢
      exact this
  | some x =>
    refine tri_write n (nth_upd l n _ hl) (a := ()) (y := .map (kvC kd (delK kvs k))) (fun h hg => ?_) ?_
    · have := atK_del kd kvs k
      unfold mapDel
      simp only [hg, findK_kv, hx]
      rw [hx] at this
      dsimp only at this ⊢
      rw [this]
    · rw [upd_upd]
      exact (kk hn).pre back

/-- len(m) -/
theorem tri_mlen (n : Nat) (hl : l[n]? = some (MapK kd b kvs)) {f : Int → M β} (kk : Tri (stars l) (f kvs.length) S) : Tri (stars l) (bd (mapLen (some b)) f) S := by
  refine tri_map n hl fun hn => ?_
  refine tri_read n (nth_upd l n _ hl) (a := (kvs.length : Int)) (fun h hg => ?_) ?_
  · unfold mapLen
    simp only [bd, mapGet, hg, ret]
    simp [kvC]
  · refine kk.pre fun q hq => ?_
    have := stars_set_imp n (l := upd l n (pts b (.map (kvC kd kvs)))) (B := MapK kd b kvs) (nth_upd l n _ hl) (fun q h => ⟨hn, h⟩) q hq
    rwa [upd_upd, upd_same l n hl] at this
/-- make(map) -/
theorem tri_mk (kd : IntKind) {f : Option Nat → M β} (kk : ∀ b, Tri (stars (MapK kd b [] :: l)) (f (some b)) S) : Tri (stars l) (bd mkMap f) S := by
  refine tri_new (g := fun b => some b) (x := .map []) (fun _ => rfl) fun b => ?_
  exact (kk b).pre fun q hq => ent_head (fun q h => ⟨List.nodup_nil, h⟩) hq

end
end Go.Mini

/- The laws' own toolkit: slices of ints that are one's own: Index, Delete, Insert. -/
namespace Go.Mini

def ints (ks : List Int) : List MV := ks.map (.int .i64)
theorem ints_len (ks : List Int) : (ints ks).length = ks.length := by simp [ints]
theorem ints_cell (ks : List Int) : (ints ks).all isCell = true := by simp [ints, isCell]
theorem ints_get {ks : List Int} {i : Nat} (h : i < ks.length) : (ints ks)[i]? = some (.int .i64 ks[i]) := by simp [ints, h]
theorem intsOf_ints : ∀ (ks : List Int), intsOf .i64 (ints ks) = some ks
  | [] => rfl
  | k :: ks => by
    have ih := intsOf_ints ks
    unfold ints at ih ⊢
    simp only [List.map_cons, intsOf, if_true, ih]

section
variable {β : Type} {l : List HA} {S : β → HA}

/-- One element is read. -/
theorem tri_own_I (n : Nat) {s : Sl} {ks : List Int} (hl : l[n]? = some (OwnA s 1 (ints ks))) {i : Nat} (hi : i < ks.length) {f : Int → M β} (kk : Tri (stars l) (f ks[i]) S) : Tri (stars l) (bd (idx 1 s (i : Int)) fun q => bd (ldI .i64 q) f) S := by
  refine tri_own n hl (fun h1 h2 => ?_) fun b ln h1 h2 => ?_
  · have := congrArg List.length h2
    rw [ints_len] at this
    simp at this
    subst this
    simp at hi
  · subst h1
    rw [ints_len] at h2
    refine tri_idx (by omega) (tri_ldI n (nth_upd l n _ hl) (by rw [Nat.zero_add, Nat.mul_one]; exact ints_get hi) ?_)
    refine kk.pre fun q hq => ?_
    have := stars_set_imp n (l := upd l n (pts b (.cells (ints ks) false))) (B := OwnA ⟨some ⟨b, 0⟩, ln⟩ 1 (ints ks)) (nth_upd l n _ hl) (fun q h => .mk (by rw [ints_len]; exact h2) h) q hq
    rwa [upd_upd, upd_same l n hl] at this

theorem own_len (n : Nat) {s : Sl} {e : Nat} {cs : List MV} {m : M β} (hl : l[n]? = some (OwnA s e cs)) (k : cs.length = s.len * e → Tri (stars l) m S) : Tri (stars l) m S := tri_know n hl (fun _ h => h.len) k
theorem own_lenI (n : Nat) {s : Sl} {ks : List Int} {m : M β} (hl : l[n]? = some (OwnA s 1 (ints ks))) (k : s.len = ks.length → Tri (stars l) m S) : Tri (stars l) m S :=
  own_len n hl fun h => k (by rw [ints_len] at h; omega)

theorem own_del {s : Sl} {ks : List Int} {i : Nat} (hi : i < ks.length) : Tri (stars [OwnA s 1 (ints ks)]) (delI s (i : Int) ((i : Int) + 1)) fun r => stars [OwnA r 1 (ints (ks.eraseIdx i))] := by
  refine tri_own 0 rfl (fun h1 h2 => ?_) fun b ln h1 h2 => ?_
  · have := congrArg List.length h2
    rw [ints_len] at this
    simp at this
    subst this
    simp at hi
  · subst h1
    rw [ints_len] at h2
    have hln : ks.length = ln := by omega
    subst hln
    show Tri (stars [pts b (.cells (ints ks) false)]) _ _
    rw [stars_one]
    refine (tri_move1 (z := .dead) (y := .cells (ints (ks.eraseIdx i)) false) (g := fun b' => (⟨some ⟨b', 0⟩, ks.length - 1⟩ : Sl)) fun h _ hg => ?_).post fun r q hq => ?_
    · unfold delI
      dsimp only
      rw [hg]
      dsimp only
      rw [List.drop_zero, List.take_of_length_le (by rw [ints_len]; exact Nat.le_refl _), intsOf_ints]
      dsimp only
      rw [if_pos ⟨by omega, by omega, by omega, by omega, by rw [ints_len]; omega⟩]
      have e1 : ((i : Int) + 1 - (i : Int)).toNat = 1 := by omega
      have e2 : ((i : Int) + 1).toNat = i + 1 := by omega
      rw [e1, e2, Int.toNat_natCast]
      simp [ints, List.eraseIdx_eq_take_drop_succ]
    · obtain ⟨b', rfl, h⟩ := hq
      rw [stars_one]
      exact .mk (by rw [ints_len, List.length_eraseIdx_of_lt hi]; simp) h

theorem own_ins (hp : plain = true) {s : Sl} {ks : List Int} {b : Nat} {x : Int} (hb : (ks.length + 1) * 8 ≤ most) : Tri (stars [OwnA s 1 (ints ks), pts b (.cells [.int .i64 x] false)]) (insI s 0 ⟨some ⟨b, 0⟩, 1⟩) fun r => stars [OwnA r 1 (ints (x :: ks))] := by
  refine tri_own 0 rfl (fun h1 h2 => ?_) fun a ln h1 h2 => ?_
  · subst h1
    have hk : ks = [] := by
      have := congrArg List.length h2
      rw [ints_len] at this
      exact List.length_eq_zero_iff.1 this
    subst hk
    refine tri_drop emp ?_
    refine Tri.post (Q := fun r => star (exA fun b' => pu (r = ⟨some ⟨b', 0⟩, 1⟩) (pts b' (.cells (ints [x]) false))) emp) ?_ fun r q hq => ?_
    · show Tri (star emp (star (pts b _) emp)) _ _
      rw [star_emp, star_comm, star_emp]
      intro h q hq hh
      obtain ⟨g1, g2⟩ := pts_get hq hh
      obtain ⟨r, h', q', e, r1⟩ := tri_new1 (m := fun h => some ((⟨some ⟨h.size, 0⟩, 1⟩ : Sl), h.push (.cells (ints [x]) false))) (x := .cells (ints [x]) false) (g := fun b' => ⟨some ⟨b', 0⟩, 1⟩) (fun h => rfl) h (fun _ => none) (fun _ => rfl) (fun _ _ e => by cases e)
      refine ⟨r, h', q', ?_, by dsimp only; rw [star_emp]; exact r1.1, r1.2.1, r1.2.2.1, fun b hb hn => r1.2.2.2.1 b hb rfl, fun b hb => ?_⟩
      · rw [← e]
        unfold insI
        dsimp only
        rw [g2]
        have hm : most = 70368744177664 := rfl
        simp [hp, isCell, hm, ints]
      · rcases r1.2.2.2.2 b hb with c | c
        · exact absurd rfl c
        · exact .inr c
    · obtain ⟨q1, q2, ⟨b', rfl, h1⟩, h2, d, rfl⟩ := hq
      exact ⟨q1, q2, by rw [stars_one]; exact .mk (by simp [ints]) h1, h2, d, rfl⟩
  · subst h1
    rw [ints_len] at h2
    have hln : ks.length = ln := by omega
    subst hln
    show Tri (star (pts a (.cells (ints ks) false)) (star (pts b (.cells [.int .i64 x] false)) emp)) _ _
    rw [star_emp]
    refine tri_drop (pts b (.cells [.int .i64 x] false)) ?_
    refine (tri_move2' (z := .dead) (w := .cells (ints (x :: ks)) false) (g := fun b' => (⟨some ⟨b', 0⟩, ks.length + 1⟩ : Sl)) fun h hne _ hg hg2 => ?_).post fun r q hq => ?_
    · unfold insI
      dsimp only
      rw [hg2]
      dsimp only [List.getElem?_cons_zero]
      rw [if_pos ⟨hp, rfl, rfl, by omega, by omega, hb⟩, hg]
      dsimp only
      have e1 : (List.take ks.length (List.drop 0 (ints ks))) = ints ks := by rw [List.drop_zero, List.take_of_length_le (by rw [ints_len]; exact Nat.le_refl _)]
      rw [e1, if_pos ⟨by rw [ints_len]; omega, hne, ints_cell ks⟩]
      rfl
    · obtain ⟨b', rfl, q1, q2, h3, h4, d, rfl⟩ := hq
      exact ⟨q1, q2, by rw [stars_one]; exact .mk (by simp [ints]) h3, h4, d, rfl⟩

/-- Where a number stands first; -1: nowhere. -/
def IsIdx (ks : List Int) (v r : Int) : Prop := (v ∉ ks ∧ r = -1) ∨ ∃ (i : Nat) (h : i < ks.length), r = i ∧ ks[i] = v ∧ v ∉ ks.take i

theorem nodup_erase {v : Int} : ∀ {ks : List Int} {i : Nat} (h : i < ks.length), ks.Nodup → ks[i] = v → ks.eraseIdx i = ks.filter fun k => decide (k ≠ v)
  | k :: ks, 0, _, hn, hv => by
    simp only [List.getElem_cons_zero] at hv
    subst hv
    rw [List.nodup_cons] at hn
    rw [List.eraseIdx_cons_zero, List.filter_cons, if_neg (by simp), List.filter_eq_self.2]
    intro a ha
    simp
    rintro rfl
    exact hn.1 ha
  | k :: ks, i + 1, h, hn, hv => by
    rw [List.nodup_cons] at hn
    simp only [List.getElem_cons_succ] at hv
    have hi : i < ks.length := by simpa using h
    rw [List.eraseIdx_cons_succ, List.filter_cons, if_pos, nodup_erase hi hn.2 hv]
    simp
    rintro rfl
    exact hn.1 (hv ▸ List.getElem_mem hi)

def indexM (N : Nat) (vs_1 : Sl) (v_2 : Int) : M (Int) := bd (show M (Unit ⊕ Int) from iter N (fun go_4 (v_3 : Int) => if (decide (v_3 < (vs_1.len : Int))) = true then (bd (idx 1 vs_1 v_3) fun q_5 => bd (ldI .i64 q_5) fun (y_6 : Int) => if (decide (v_2 = y_6)) = true then (ret (Sum.inr v_3)) else (go_4 (wr .i64 (v_3 + (1 : Int))))) else (ret ((Sum.inl ())))) (0 : Int)) fun j_7 => (match j_7 with | Sum.inl j_8 => ret (-1 : Int) | Sum.inr j_9 => ret j_9)

theorem own_index {N : Nat} {s : Sl} {ks : List Int} (v : Int) (hN : ks.length < N) (hk : ks.length < 4611686018427387904) : Tri (stars [OwnA s 1 (ints ks)]) (indexM N s v) fun r => pu (IsIdx ks v r) (stars [OwnA s 1 (ints ks)]) := by
  unfold indexM
  refine own_lenI 0 rfl fun hs => ?_
  have loop : ∀ (N : Nat) (j : Nat), ks.length - j < N → Tri (pu (j ≤ ks.length ∧ v ∉ ks.take j) (stars [OwnA s 1 (ints ks)])) (iter N (fun go_4 (v_3 : Int) => if (decide (v_3 < (s.len : Int))) = true then (bd (idx 1 s v_3) fun q_5 => bd (ldI .i64 q_5) fun (y_6 : Int) => if (decide (v = y_6)) = true then (ret (Sum.inr v_3)) else (go_4 (wr .i64 (v_3 + (1 : Int))))) else (ret ((Sum.inl ())))) (j : Int) : M (Unit ⊕ Int))
      fun r => pu (match r with | .inl _ => v ∉ ks | .inr i => IsIdx ks v i) (stars [OwnA s 1 (ints ks)]) := by
    intro N
    induction N with
    | zero => intro j hj; omega
    | succ N ih =>
      intro j hj
      rintro h q ⟨⟨h1, h2⟩, hq⟩ hh
      revert h q
      refine fun h q hq hh => (?_ : Tri (stars [OwnA s 1 (ints ks)]) _ _) h q hq hh
      show Tri _ (if _ then _ else _) _
      by_cases hj2 : j < ks.length
      · refine tri_t (by simp [hs]; omega) ?_
        refine tri_own_I 0 rfl hj2 ?_
        by_cases hv : v = ks[j]
        · refine tri_t (by simpa using hv) (tri_ret fun q hq => ⟨?_, hq⟩)
          exact .inr ⟨j, hj2, rfl, hv.symm, h2⟩
        · refine tri_f (by simpa using hv) ?_
          rw [wr64 (by omega) (by omega)]
          refine (ih (j + 1) (by omega)).pre fun q hq => ⟨⟨hj2, ?_⟩, hq⟩
          rw [List.take_succ_eq_append_getElem hj2, List.mem_append]
          rintro (c | c)
          · exact h2 c
          · simp at c; exact hv c
      · refine tri_f (by simp [hs]; omega) (tri_ret fun q hq => ⟨?_, hq⟩)
        have : ks.take j = ks := List.take_of_length_le (by omega)
        rwa [this] at h2
  refine tri_call [0] ((loop N 0 (by omega)).pre fun q hq => ⟨⟨Nat.zero_le _, by simp⟩, hq⟩) fun r => tri_pu fun hr => tri_flat ?_
  cases r with
  | inl u => exact tri_end [0] fun q hq => ⟨.inl ⟨hr, rfl⟩, hq⟩
  | inr i => exact tri_end [0] fun q hq => ⟨hr, hq⟩

def sameM (N : Nat) (a_1 : Sl) (vb_2 : Sl) : M (Bool) := if (!decide ((a_1.len : Int) = (vb_2.len : Int))) = true then (ret false) else (bd (show M (Unit ⊕ Bool) from iter N (fun go_4 (v_3 : Int) => if (decide (v_3 < (a_1.len : Int))) = true then (bd (idx 1 a_1 v_3) fun q_5 => bd (ldI .i64 q_5) fun (y_6 : Int) => bd (idx 1 vb_2 v_3) fun q_7 => bd (ldI .i64 q_7) fun (y_8 : Int) => if (!decide (y_6 = y_8)) = true then (ret (Sum.inr false)) else (go_4 (wr .i64 (v_3 + (1 : Int))))) else (ret ((Sum.inl ())))) (0 : Int)) fun j_9 => (match j_9 with | Sum.inl j_10 => ret true | Sum.inr j_11 => ret j_11))

theorem own_same {N : Nat} {s t : Sl} {ks js : List Int} (hN : ks.length < N) (hk : ks.length < 4611686018427387904) : Tri (stars [OwnA s 1 (ints ks), OwnA t 1 (ints js)]) (sameM N s t) fun r => pu (r = decide (ks = js)) (stars [OwnA s 1 (ints ks), OwnA t 1 (ints js)]) := by
  unfold sameM
  refine own_lenI 0 rfl fun hs => own_lenI 1 rfl fun ht => ?_
  by_cases hl : ks.length = js.length
  case neg =>
    refine tri_t (by simp [hs, ht]; omega) (tri_end [0, 0] fun q hq => ⟨?_, hq⟩)
    symm
    exact decide_eq_false fun c => hl (congrArg List.length c)
  refine tri_f (by simp [hs, ht]; omega) ?_
  have loop : ∀ (N : Nat) (j : Nat), ks.length - j < N → Tri (pu (j ≤ ks.length ∧ ks.take j = js.take j) (stars [OwnA s 1 (ints ks), OwnA t 1 (ints js)])) (iter N (fun go_4 (v_3 : Int) => if (decide (v_3 < (s.len : Int))) = true then (bd (idx 1 s v_3) fun q_5 => bd (ldI .i64 q_5) fun (y_6 : Int) => bd (idx 1 t v_3) fun q_7 => bd (ldI .i64 q_7) fun (y_8 : Int) => if (!decide (y_6 = y_8)) = true then (ret (Sum.inr false)) else (go_4 (wr .i64 (v_3 + (1 : Int))))) else (ret ((Sum.inl ())))) (j : Int) : M (Unit ⊕ Bool))
      fun r => pu ((match r with | .inl _ => true | .inr i => i) = decide (ks = js)) (stars [OwnA s 1 (ints ks), OwnA t 1 (ints js)]) := by
    intro N
    induction N with
    | zero => intro j hj; omega
    | succ N ih =>
      intro j hj
      rintro h q ⟨⟨h1, h2⟩, hq⟩ hh
      revert h q
      refine fun h q hq hh => (?_ : Tri (stars [OwnA s 1 (ints ks), OwnA t 1 (ints js)]) _ _) h q hq hh
      show Tri _ (if _ then _ else _) _
      by_cases hj2 : j < ks.length
      · refine tri_t (by simp [hs]; omega) ?_
        refine tri_own_I 0 rfl hj2 (tri_own_I 1 rfl (hl ▸ hj2) ?_)
        have hj3 : j < js.length := by omega
        by_cases hv : ks[j] = js[j]
        · refine tri_f (by simpa using hv) ?_
          rw [wr64 (by omega) (by omega)]
          refine (ih (j + 1) (by omega)).pre fun q hq => ⟨⟨hj2, ?_⟩, hq⟩
          rw [List.take_succ_eq_append_getElem hj2, List.take_succ_eq_append_getElem hj3, h2, hv]
        · refine tri_t (by simpa using hv) (tri_ret fun q hq => ⟨?_, hq⟩)
          symm
          refine decide_eq_false fun c => hv ?_
          subst c
          rfl
      · refine tri_f (by simp [hs]; omega) (tri_ret fun q hq => ⟨?_, hq⟩)
        symm
        refine decide_eq_true ?_
        rwa [List.take_of_length_le (by omega), List.take_of_length_le (by omega)] at h2
  refine tri_call [0, 0] ((loop N 0 (by omega)).pre fun q hq => ⟨⟨Nat.zero_le _, rfl⟩, hq⟩) fun r => tri_pu fun hr => tri_flat ?_
  cases r with
  | inl u => exact tri_end [0, 0] fun q hq => ⟨hr, hq⟩
  | inr i => exact tri_end [0, 0] fun q hq => ⟨hr, hq⟩

theorem own_samef {N : Nat} {s t : Sl} {ks js : List Int} (hN : ks.length < N) (hk : ks.length < 4611686018427387904) : Tri (stars [OwnA s 1 (ints ks), OwnA t 1 (ints js)]) (frz (sameM N s t)) fun r => pu (r = decide (ks = js)) (stars [OwnA s 1 (ints ks), OwnA t 1 (ints js)]) :=
  tri_frz0 (exact_stars fun A hA => by
    simp only [List.mem_cons, List.not_mem_nil, or_false] at hA
    rcases hA with rfl | rfl
    · exact exact_own
    · exact exact_own) (own_same hN hk)

end
end Go.Mini
