/- The laws' own toolkit: maps whose keys are numbers, that are one's own. -/
import Derived.Test.YtpnppebjcenkkaaMSL2
namespace Go.Mini

def kvC (kd : IntKind) (kvs : List (Int × MV)) : List (MV × MV) := kvs.map fun e => (.int kd e.1, e.2)
def getK : List (Int × MV) → Int → Option MV
  | [], _ => none
  | e :: r, k => if k = e.1 then some e.2 else getK r k
def putK : List (Int × MV) → Int → MV → List (Int × MV)
  | [], k, v => [(k, v)]
  | e :: r, k, v => if k = e.1 then (k, v) :: r else e :: putK r k v
def delK : List (Int × MV) → Int → List (Int × MV)
  | [], _ => []
  | e :: r, k => if k = e.1 then r else e :: delK r k
def atK : List (Int × MV) → Int → Option (Nat × MV)
  | [], _ => none
  | e :: r, k => if k = e.1 then some (0, e.2) else (atK r k).map fun x => (x.1 + 1, x.2)

theorem atK_get : ∀ (kvs : List (Int × MV)) (k : Int), (atK kvs k).map (·.2) = getK kvs k
  | [], _ => rfl
  | e :: r, k => by
    unfold atK getK
    split
    · rfl
    · rw [← atK_get r k]
      cases atK r k <;> rfl
theorem findK_kv (kd : IntKind) : ∀ (kvs : List (Int × MV)) (k : Int), findK (.int kd k) (kvC kd kvs) = some (atK kvs k)
  | [], _ => rfl
  | e :: r, k => by
    have ih := findK_kv kd r k
    unfold kvC at ih ⊢
    simp only [List.map_cons, findK, keyEq, if_true, atK]
    by_cases h : k = e.1
    · simp [h]
    · simp only [decide_eq_false h, ih, if_neg h]
      cases atK r k <;> rfl
theorem atK_put (kd : IntKind) (v : MV) : ∀ (kvs : List (Int × MV)) (k : Int), (match atK kvs k with
    | some (i, _) => (kvC kd kvs).set i (.int kd k, v)
    | none => kvC kd kvs ++ [(.int kd k, v)]) = kvC kd (putK kvs k v)
  | [], _ => rfl
  | e :: r, k => by
    have ih := atK_put kd v r k
    unfold atK putK
    by_cases h : k = e.1
    · simp [h, kvC]
    · rw [if_neg h, if_neg h]
      cases hx : atK r k with
      | none =>
        rw [hx] at ih
        dsimp only [Option.map_none] at ih ⊢
        unfold kvC at ih ⊢
        simp only [List.map_cons, List.cons_append, ih]
      | some x =>
        obtain ⟨i, w⟩ := x
        rw [hx] at ih
        dsimp only [Option.map_some] at ih ⊢
        unfold kvC at ih ⊢
        simp only [List.map_cons, List.set_cons_succ, ih]
theorem atK_del (kd : IntKind) : ∀ (kvs : List (Int × MV)) (k : Int), (match atK kvs k with
    | some (i, _) => (kvC kd kvs).eraseIdx i
    | none => kvC kd kvs) = kvC kd (delK kvs k)
  | [], _ => rfl
  | e :: r, k => by
    have ih := atK_del kd r k
    unfold atK delK
    by_cases h : k = e.1
    · simp [h, kvC]
    · rw [if_neg h, if_neg h]
      cases hx : atK r k with
      | none =>
        rw [hx] at ih
        dsimp only [Option.map_none] at ih ⊢
        unfold kvC at ih ⊢
        simp only [List.map_cons, ih]
      | some x =>
        obtain ⟨i, w⟩ := x
        rw [hx] at ih
        dsimp only [Option.map_some] at ih ⊢
        unfold kvC at ih ⊢
        simp only [List.map_cons, List.eraseIdx_cons_succ, ih]

theorem getK_put (v : MV) : ∀ (kvs : List (Int × MV)) (k k' : Int), getK (putK kvs k v) k' = if k' = k then some v else getK kvs k'
  | [], k, k' => by simp [putK, getK]
  | e :: r, k, k' => by
    have ih := getK_put v r k k'
    unfold putK
    by_cases h : k = e.1
    · rw [if_pos h]
      simp only [getK, ← h]
      split <;> rfl
    · rw [if_neg h]
      simp only [getK, ih]
      by_cases h2 : k' = e.1
      · rw [if_pos h2, if_pos h2, if_neg (fun c : k' = k => h (c.symm.trans h2))]
      · rw [if_neg h2, if_neg h2]
theorem mem_putK {v : MV} : ∀ {kvs : List (Int × MV)} {k k' : Int}, k' ∈ (putK kvs k v).map (·.1) ↔ k' = k ∨ k' ∈ kvs.map (·.1)
  | [], k, k' => by simp [putK]
  | e :: r, k, k' => by
    have ih := mem_putK (v := v) (kvs := r) (k := k) (k' := k')
    unfold putK
    by_cases h : k = e.1
    · rw [if_pos h]
      simp [h]
    · rw [if_neg h, List.map_cons, List.mem_cons, ih, List.map_cons, List.mem_cons]
      constructor
      · rintro (h | h | h)
        · exact .inr (.inl h)
        · exact .inl h
        · exact .inr (.inr h)
      · rintro (h | h | h)
        · exact .inr (.inl h)
        · exact .inl h
        · exact .inr (.inr h)
theorem nodup_putK (v : MV) : ∀ (kvs : List (Int × MV)) (k : Int), (kvs.map (·.1)).Nodup → ((putK kvs k v).map (·.1)).Nodup
  | [], k, _ => by simp [putK]
  | e :: r, k, h => by
    rw [List.map_cons, List.nodup_cons] at h
    have ih := nodup_putK v r k h.2
    unfold putK
    by_cases hk : k = e.1
    · rw [if_pos hk, List.map_cons, List.nodup_cons]
      exact ⟨by simpa [hk] using h.1, h.2⟩
    · rw [if_neg hk, List.map_cons, List.nodup_cons, mem_putK]
      exact ⟨fun c => c.elim (fun c => hk c.symm) h.1, ih⟩
theorem mem_delK {kvs : List (Int × MV)} {k k' : Int} (h : k' ∈ (delK kvs k).map (·.1)) : k' ∈ kvs.map (·.1) := by
  induction kvs with
  | nil => exact h
  | cons e r ih =>
    unfold delK at h
    split at h
    · rw [List.map_cons, List.mem_cons]; exact .inr h
    · rw [List.map_cons, List.mem_cons] at h ⊢
      exact h.imp id ih
theorem nodup_delK : ∀ (kvs : List (Int × MV)) (k : Int), (kvs.map (·.1)).Nodup → ((delK kvs k).map (·.1)).Nodup
  | [], _, h => h
  | e :: r, k, h => by
    rw [List.map_cons, List.nodup_cons] at h
    unfold delK
    split
    · exact h.2
    · rw [List.map_cons, List.nodup_cons]
      exact ⟨fun c => h.1 (mem_delK c), nodup_delK r k h.2⟩
theorem getK_none {kvs : List (Int × MV)} {k : Int} : getK kvs k = none ↔ k ∉ kvs.map (·.1) := by
  induction kvs with
  | nil => simp [getK]
  | cons e r ih =>
    unfold getK
    by_cases h : k = e.1
    · simp [h]
    · rw [if_neg h, ih, List.map_cons, List.mem_cons]
      simp [h]
theorem delK_none : ∀ {kvs : List (Int × MV)} {k : Int}, getK kvs k = none → delK kvs k = kvs
  | [], _, _ => rfl
  | e :: r, k, h => by
    unfold getK at h
    unfold delK
    split at h
    · cases h
    · rename_i hk
      rw [if_neg hk, delK_none h]
theorem getK_del : ∀ (kvs : List (Int × MV)) (k k' : Int), (kvs.map (·.1)).Nodup → getK (delK kvs k) k' = if k' = k then none else getK kvs k'
  | [], k, k', _ => by simp [delK, getK]
  | e :: r, k, k', h => by
    rw [List.map_cons, List.nodup_cons] at h
    have ih := getK_del r k k' h.2
    unfold delK
    by_cases hk : k = e.1
    · rw [if_pos hk]
      by_cases h2 : k' = k
      · rw [if_pos h2, getK_none, h2, hk]
        exact h.1
      · rw [if_neg h2]
        show _ = if k' = e.1 then _ else _
        rw [if_neg (fun c => h2 (c.trans hk.symm))]
    · rw [if_neg hk]
      simp only [getK, ih]
      by_cases h2 : k' = e.1
      · rw [if_pos h2, if_pos h2, if_neg (fun c : k' = k => hk (c.symm.trans h2))]
      · rw [if_neg h2, if_neg h2]

/-- A map of one's own: keys and values. -/
def MapK (kd : IntKind) (b : Nat) (kvs : List (Int × MV)) : HA := pu (kvs.map (·.1)).Nodup (pts b (.map (kvC kd kvs)))

section
variable {β : Type} {l : List HA} {S : β → HA} {kd : IntKind} {b : Nat} {kvs : List (Int × MV)}

theorem tri_map (n : Nat) {m : M β} (hl : l[n]? = some (MapK kd b kvs)) (k : (kvs.map (·.1)).Nodup → Tri (stars (upd l n (pts b (.map (kvC kd kvs))))) m S) : Tri (stars l) m S := by
  rintro h q hq hh
  rw [stars_pick n l hl] at hq
  obtain ⟨q1, q2, ⟨hn, h1⟩, h2, d, rfl⟩ := hq
  exact k hn h _ (by rw [upd_eq, star_set n l hl]; exact ⟨q1, q2, h1, h2, d, rfl⟩) hh

theorem nth_upd : ∀ (l : List HA) (n : Nat) {A : HA} (B : HA), l[n]? = some A → (upd l n B)[n]? = some B
  | [], _, _, _, h => by cases h
  | _ :: _, 0, _, _, _ => rfl
  | _ :: l, n + 1, _, B, h => nth_upd l n B h
theorem upd_upd : ∀ (l : List HA) (n : Nat) (A B : HA), upd (upd l n A) n B = upd l n B
  | [], _, _, _ => rfl
  | _ :: _, 0, _, _ => rfl
  | C :: l, n + 1, A, B => congrArg (C :: ·) (upd_upd l n A B)
theorem upd_same : ∀ (l : List HA) (n : Nat) {A : HA}, l[n]? = some A → upd l n A = l
  | [], _, _, h => by cases h
  | _ :: _, 0, _, h => by cases h; rfl
  | C :: l, n + 1, A, h => congrArg (C :: ·) (upd_same l n h)

/-- m[k] -/
theorem tri_look (n : Nat) (hl : l[n]? = some (MapK kd b kvs)) (k : Int) {f : Option MV → M β} (kk : Tri (stars l) (f (getK kvs k)) S) : Tri (stars l) (bd (mapLook (some b) (.int kd k)) f) S := by
  refine tri_map n hl fun hn => ?_
  refine tri_read n (nth_upd l n _ hl) (a := getK kvs k) (fun h hg => ?_) ?_
  · unfold mapLook
    simp only [bd, mapGet, hg, findK_kv]
    rw [← atK_get]
    cases atK kvs k <;> rfl
  · refine kk.pre fun q hq => ?_
    have := stars_set_imp n (l := upd l n (pts b (.map (kvC kd kvs)))) (B := MapK kd b kvs) (nth_upd l n _ hl) (fun q h => ⟨hn, h⟩) q hq
    rwa [upd_upd, upd_same l n hl] at this
/-- m[k] = v -/
theorem tri_put (n : Nat) (hl : l[n]? = some (MapK kd b kvs)) (k : Int) (v : MV) {f : Unit → M β} (kk : Tri (stars (upd l n (MapK kd b (putK kvs k v)))) (f ()) S) : Tri (stars l) (bd (mapPut (some b) (.int kd k) v) f) S := by
  refine tri_map n hl fun hn => ?_
  refine tri_write n (nth_upd l n _ hl) (a := ()) (y := .map (kvC kd (putK kvs k v))) (fun h hg => ?_) ?_
  · unfold mapPut
    have := atK_put kd v kvs k
    simp only [hg, findK_kv]
    cases hx : atK kvs k with
    | none => rw [hx] at this; dsimp only at this ⊢; rw [this]
    | some x => rw [hx] at this; dsimp only at this ⊢; rw [this]
  · rw [upd_upd]
    refine kk.pre fun q hq => ?_
    have := stars_set_imp n (l := upd l n (pts b (.map (kvC kd (putK kvs k v))))) (B := MapK kd b (putK kvs k v)) (nth_upd l n _ hl) (fun q h => ⟨nodup_putK v kvs k hn, h⟩) q hq
    rwa [upd_upd] at this
/-- delete(m, k) -/
theorem tri_delk (n : Nat) (hl : l[n]? = some (MapK kd b kvs)) (k : Int) {f : Unit → M β} (kk : (kvs.map (·.1)).Nodup → Tri (stars (upd l n (MapK kd b (delK kvs k)))) (f ()) S) : Tri (stars l) (bd (mapDel (some b) (.int kd k)) f) S := by
  refine tri_map n hl fun hn => ?_
  have back : ∀ q, stars (upd l n (pts b (.map (kvC kd (delK kvs k))))) q → stars (upd l n (MapK kd b (delK kvs k))) q := fun q hq => by
    have := stars_set_imp n (l := upd l n (pts b (.map (kvC kd (delK kvs k))))) (B := MapK kd b (delK kvs k)) (nth_upd l n _ hl) (fun q h => ⟨nodup_delK kvs k hn, h⟩) q hq
    rwa [upd_upd] at this
  cases hx : atK kvs k with
  | none =>
    have he : delK kvs k = kvs := delK_none (by rw [← atK_get, hx]; rfl)
    refine tri_read n (nth_upd l n _ hl) (a := ()) (fun h hg => ?_) ?_
    · unfold mapDel
      simp only [hg, findK_kv, hx]
    · rw [← he]
      have := (kk hn).pre back
      rw [he] at this ⊢
      exact this
  | some x =>
    refine tri_write n (nth_upd l n _ hl) (a := ()) (y := .map (kvC kd (delK kvs k))) (fun h hg => ?_) ?_
    · have := atK_del kd kvs k
      unfold mapDel
      simp only [hg, findK_kv, hx]
      rw [hx] at this
      dsimp only at this ⊢
      rw [this]
    · rw [upd_upd]
      exact (kk hn).pre back

/-- len(m) -/
theorem tri_mlen (n : Nat) (hl : l[n]? = some (MapK kd b kvs)) {f : Int → M β} (kk : Tri (stars l) (f kvs.length) S) : Tri (stars l) (bd (mapLen (some b)) f) S := by
  refine tri_map n hl fun hn => ?_
  refine tri_read n (nth_upd l n _ hl) (a := (kvs.length : Int)) (fun h hg => ?_) ?_
  · unfold mapLen
    simp only [bd, mapGet, hg, ret]
    simp [kvC]
  · refine kk.pre fun q hq => ?_
    have := stars_set_imp n (l := upd l n (pts b (.map (kvC kd kvs)))) (B := MapK kd b kvs) (nth_upd l n _ hl) (fun q h => ⟨hn, h⟩) q hq
    rwa [upd_upd, upd_same l n hl] at this
/-- make(map) -/
theorem tri_mk (kd : IntKind) {f : Option Nat → M β} (kk : ∀ b, Tri (stars (MapK kd b [] :: l)) (f (some b)) S) : Tri (stars l) (bd mkMap f) S := by
  refine tri_new (g := fun b => some b) (x := .map []) (fun _ => rfl) fun b => ?_
  exact (kk b).pre fun q hq => ent_head (fun q h => ⟨List.nodup_nil, h⟩) hq

end
end Go.Mini
