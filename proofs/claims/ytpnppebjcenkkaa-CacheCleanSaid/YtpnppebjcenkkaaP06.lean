/- Layer 6, the cache: what its functions come to, over what a cache is. (Over a disk whose power stays.) -/
import Derived.Test.YtpnppebjcenkkaaP05
import Derived.Test.YtpnppebjcenkkaaMSLM
namespace Go.Moat
open Go.Mini

structure SlotS where
  s : SecS
  dirty : Bool
  pins : Int
structure Ent where
  k : Int
  b : Nat
  x : SlotS
def Ent.kx (e : Ent) : Int × SlotS := (e.k, e.x)

def slotC (e : Ent) (sl : Sl) : List MV := [.int .i64 e.k, .sl sl.p sl.len 1, .int .u16 e.x.s.t, .bool e.x.dirty, .int .i64 e.x.pins]
def SlotA (e : Ent) : HA := exA fun sl : Sl => pu (sl.len = 64) (stars [pts e.b (.cells (slotC e sl) false), OwnA sl 1 (bytesOf e.x.s.b)])
def SlotsA (L : List Ent) : HA := stars (L.map SlotA)
def ekeys (L : List Ent) : List Int := L.map (·.k)
def ptrOf : List Ent → Int → Option MV
  | [], _ => none
  | e :: r, k => if k = e.k then some (.ptr (some ⟨e.b, 0⟩)) else ptrOf r k
def MapE (m : Nat) (L : List Ent) : HA := exA fun kvs => pu (∀ k, getK kvs k = ptrOf L k) (MapK .i64 m kvs)
def cacheC (d : Nat) (room : Int) (m : Nat) (s : Sl) : List MV := [.ptr (some ⟨d, 0⟩), .int .i64 room, .map (some m), .sl s.p s.len 1]

/-- What a cache's slots are: of a disk of n sectors; pinned at most so often. -/
structure WfE (n : Nat) (room P : Int) (L : List (Int × SlotS)) : Prop where
  nodup : (L.map (·.1)).Nodup
  rng : ∀ e ∈ L, 0 ≤ e.1 ∧ e.1 < n
  ok : ∀ e ∈ L, e.2.s.ok
  pins : ∀ e ∈ L, 0 ≤ e.2.pins ∧ e.2.pins ≤ P
  len : L.length ≤ room
  most : 1 ≤ room ∧ room ≤ 900
  top : P ≤ 4611686018427387904

def CacheA (c d : Nat) (n : Nat) (room P : Int) (l : List (Int × SlotS)) : HA := exA fun y : Nat × Sl × List Ent => pu (y.2.2.map Ent.kx = l ∧ WfE n room P l)
  (stars [pts c (.cells (cacheC d room y.1 y.2.1) false), MapE y.1 y.2.2, OwnA y.2.1 1 (ints (ekeys y.2.2)), SlotsA y.2.2])

/-- A disk whose power stays. -/
structure Live (n : Nat) (D : DskS) : Prop where
  dead : D.dead = false
  fuse : D.fuse = -1
  done : 0 ≤ D.done
  waits : (D.waits.length : Int) ≤ D.done
  secs : D.secs.length = n

theorem ekeys_kx (L : List Ent) : (L.map Ent.kx).map (·.1) = ekeys L := by simp [ekeys, Ent.kx]
theorem ptrOf_none {L : List Ent} {k : Int} : ptrOf L k = none ↔ k ∉ ekeys L := by
  induction L with
  | nil => simp [ptrOf, ekeys]
  | cons e r ih =>
    unfold ptrOf ekeys
    by_cases h : k = e.k
    · simp [h]
    · rw [if_neg h, ih]
      simp [h, ekeys]
theorem ptrOf_mem {L : List Ent} (hn : (ekeys L).Nodup) {e : Ent} (he : e ∈ L) : ptrOf L e.k = some (.ptr (some ⟨e.b, 0⟩)) := by
  induction L with
  | nil => cases he
  | cons x r ih =>
    unfold ptrOf
    unfold ekeys at hn
    rw [List.map_cons, List.nodup_cons] at hn
    rcases List.mem_cons.1 he with rfl | he
    · rw [if_pos rfl]
    · rw [if_neg, ih hn.2 he]
      rintro h
      exact hn.1 (h ▸ List.mem_map_of_mem he)
theorem ptrOf_some {L : List Ent} {k : Int} {v : MV} (h : ptrOf L k = some v) : ∃ e ∈ L, e.k = k ∧ v = .ptr (some ⟨e.b, 0⟩) := by
  induction L with
  | nil => cases h
  | cons x r ih =>
    unfold ptrOf at h
    split at h
    · rename_i hk
      cases h
      exact ⟨x, by simp, hk.symm, rfl⟩
    · obtain ⟨e, he, h1⟩ := ih h
      exact ⟨e, by simp [he], h1⟩
/-- What is found by a number hangs on which entries there are alone. -/
theorem ptrOf_perm {L L' : List Ent} (h : L.Perm L') (hn : (ekeys L).Nodup) (k : Int) : ptrOf L k = ptrOf L' k := by
  have hn' : (ekeys L').Nodup := (h.map _).nodup_iff.1 hn
  cases hx : ptrOf L k with
  | none =>
    have := ptrOf_none.1 hx
    symm
    rw [ptrOf_none]
    exact fun c => this ((h.map (·.k)).mem_iff.2 c)
  | some v =>
    obtain ⟨e, he, rfl, rfl⟩ := ptrOf_some hx
    rw [ptrOf_mem hn' (h.mem_iff.1 he)]

theorem stars_perm {l l' : List HA} (h : l.Perm l') : stars l = stars l' := by
  induction h with
  | nil => rfl
  | cons x _ ih =>
    show star x _ = star x _
    rw [ih]
  | swap x y l => exact star_left y x (stars l)
  | trans _ _ ih1 ih2 => exact ih1.trans ih2
theorem slots_perm {L L' : List Ent} (h : L.Perm L') : SlotsA L = SlotsA L' := stars_perm (h.map _)
theorem slots_cons (e : Ent) (L : List Ent) : SlotsA (e :: L) = stars [SlotA e, SlotsA L] := by
  show star _ _ = star _ (star _ emp)
  rw [star_emp]
  rfl

section
variable {d c n : Nat} {room P : Int} {D : DskS} {N m : Nat} {s : Sl} {β : Type} {l : List HA} {S : β → HA}

/-- One of the slots is taken out. -/
theorem tri_slot (i : Nat) {w : M β} {e : Ent} {L L' : List Ent} (hp : L.Perm (e :: L')) (hl : l[i]? = some (SlotsA L)) (k : Tri (stars (SlotA e :: SlotsA L' :: del l i)) w S) : Tri (stars l) w S := by
  rw [stars_pick i l hl, slots_perm hp, slots_cons, ← del_eq]
  exact k.pre fun q hq => by
    have := stars_append [SlotA e, SlotsA L'] (del l i)
    rw [← this] at hq
    exact hq
theorem tri_slotx (i : Nat) {w : M β} {e : Ent} (hl : l[i]? = some (SlotA e)) (k : ∀ sl : Sl, sl.len = 64 → Tri (stars (pts e.b (.cells (slotC e sl) false) :: OwnA sl 1 (bytesOf e.x.s.b) :: del l i)) w S) : Tri (stars l) w S :=
  tri_open (γ := Sl) (φ := fun sl => sl.len = 64) (L := fun sl => [pts e.b (.cells (slotC e sl) false), OwnA sl 1 (bytesOf e.x.s.b)]) i hl (fun _ ⟨x, h1, h2⟩ => ⟨x, h1, h2⟩) k

theorem perm_at {L : List Ent} {i : Nat} (h : i < L.length) : L.Perm (L[i] :: L.eraseIdx i) := by
  have e1 : L = L.take i ++ L[i] :: L.drop (i + 1) := by rw [List.getElem_cons_drop, List.take_append_drop]
  have e2 : L.eraseIdx i = L.take i ++ L.drop (i + 1) := List.eraseIdx_eq_take_drop_succ L i
  rw [e2]
  conv => lhs; rw [e1]
  exact List.perm_middle

theorem leave_spec {ks : List Int} (i : Int) (hn : ks.Nodup) (hN : ks.length < N) (hk : ks.length < 4611686018427387904) : Tri (stars [pts c (.cells (cacheC d room m s) false), OwnA s 1 (ints ks)]) (F_cache_Cache_leave N (some ⟨c, 0⟩) i)
    fun _ => exA fun s' => stars [pts c (.cells (cacheC d room m s') false), OwnA s' 1 (ints (ks.filter fun k => decide (k ≠ i)))] := by
  unfold F_cache_Cache_leave
  refine tri_gL 0 rfl rfl ?_
  refine tri_call [1] (own_index i hN hk) fun r => tri_pu fun hr => tri_flat ?_
  dsimp only [sel, rem, nth, del, cat, upd]
  rcases hr with ⟨h1, rfl⟩ | ⟨j, hj, rfl, h2, h3⟩
  · refine tri_bdret ?_
    refine tri_end [1, 0] fun q hq => ⟨s, ?_⟩
    rw [List.filter_eq_self.2 (fun k hk => by simp; rintro rfl; exact h1 hk)]
    exact hq
  · refine Tri.bd (Q := fun _ => exA fun s' => stars [pts c (.cells (cacheC d room m s') false), OwnA s' 1 (ints (ks.filter fun k => decide (k ≠ i)))]) ?_ fun _ => tri_ret fun q hq => hq
    refine tri_t (by simp) ?_
    refine tri_gL 1 rfl rfl ?_
    rw [wr64 (by omega) (by omega)]
    refine tri_call [0] (own_del hj) fun r => tri_flat ?_
    dsimp only [sel, rem, nth, del, cat, upd]
    refine tri_sF 1 rfl ?_
    refine tri_end [1, 0] fun q hq => ⟨r, ?_⟩
    rw [← nodup_erase hj hn h2]
    exact hq

theorem first_spec (hp : plain = true) {ks : List Int} (i : Int) (hn : ks.Nodup) (hN : ks.length < N) (hk : ks.length < 1000000) : Tri (stars [pts c (.cells (cacheC d room m s) false), OwnA s 1 (ints ks)]) (F_cache_Cache_first N (some ⟨c, 0⟩) i)
    fun _ => exA fun s' => stars [pts c (.cells (cacheC d room m s') false), OwnA s' 1 (ints (i :: ks.filter fun k => decide (k ≠ i)))] := by
  unfold F_cache_Cache_first
  refine tri_call [0, 0] (leave_spec i hn hN (by omega)) fun _ => tri_ex fun s1 => tri_flat ?_
  dsimp only [sel, rem, nth, del, cat, upd]
  refine tri_gL 0 rfl rfl ?_
  refine tri_alloc fun b => ?_
  have hl := List.length_filter_le (fun k => decide (k ≠ i)) ks
  refine tri_call [2, 0] (own_ins hp (by have : most = 70368744177664 := rfl; omega)) fun r => tri_flat ?_
  dsimp only [sel, rem, nth, del, cat, upd]
  refine tri_sF 1 rfl ?_
  exact tri_end [1, 0] fun q hq => ⟨r, hq⟩

/-- A disk with one sector written. -/
def wrD (D : DskS) (k : Int) (s : SecS) : DskS := writeD D k s.b s.t
theorem live_power (h : Live n D) : powerE D = 0 := by
  unfold powerE
  rw [if_neg (by simp [h.dead]), if_neg (by rw [h.fuse]; decide)]
theorem live_powerD (h : Live n D) : powerD D = { D with done := D.done + 1 } := by
  unfold powerD
  rw [if_neg (by simp [h.dead]), if_neg (by rw [h.fuse]; decide), if_neg (by rw [h.fuse]; decide)]
theorem wrD_eq (h : Live n D) {k : Int} {s : SecS} (h0 : 0 ≤ k) (h1 : k < n) (hs : s.ok) : wrD D k s = { D with done := D.done + 1, secs := D.secs.set k.toNat s, waits := D.waits ++ [⟨k.toNat, (D.secs[k.toNat]?).getD zsec, s⟩] } := by
  unfold wrD writeD
  rw [if_pos ⟨h0, by rw [h.secs]; exact h1, hs⟩, if_pos (live_power h), live_powerD h]
theorem wrD_live (h : Live n D) {k : Int} {s : SecS} (h0 : 0 ≤ k) (h1 : k < n) (hs : s.ok) : Live n (wrD D k s) := by
  rw [wrD_eq h h0 h1 hs]
  refine ⟨h.dead, h.fuse, ?_, ?_, ?_⟩
  · have := h.done; dsimp only; omega
  · have := h.waits; dsimp only; rw [List.length_append]; simp; omega
  · dsimp only; rw [List.length_set]; exact h.secs
theorem wrD_done (h : Live n D) {k : Int} {s : SecS} (h0 : 0 ≤ k) (h1 : k < n) (hs : s.ok) : (wrD D k s).done = D.done + 1 := by rw [wrD_eq h h0 h1 hs]

theorem cwrite_spec (h : Live n D) (hd : D.done < 300000000000) {e : Ent} (h0 : 0 ≤ e.k) (h1 : e.k < n) (hs : e.x.s.ok) : Tri (stars [pts c (.cells (cacheC d room m s) false), SlotA e, DiskA d D]) (F_cache_Cache_write N (some ⟨c, 0⟩) (some ⟨e.b, 0⟩))
    fun r => pu (r = 0) (stars [pts c (.cells (cacheC d room m s) false), SlotA { e with x := { e.x with dirty := false } }, DiskA d (wrD D e.k e.x.s)]) := by
  unfold F_cache_Cache_write
  refine tri_gP 0 rfl rfl ?_
  refine tri_slotx 1 rfl fun sl hsl => ?_
  dsimp only [sel, rem, nth, del, cat, upd]
  refine tri_nn (tri_fl (tri_read 0 rfl (a := (e.k, sl, e.x.s.t)) (fun h hg => ?_) ?_))
  · unfold ldSt bd
    rw [ldn_eq hg (show 0 + 0 + ([.int .i64, .sl 1, .int .u16] : List CTy).length ≤ _ by exact Nat.le_of_ble_eq_true rfl)]
    rfl
  have hw := h.waits
  refine tri_call [3, 1] (disk_write e.k e.x.s.t (by rw [hsl, hs]) h.done (by omega) (by omega)) fun r => tri_pu fun hr => tri_flat ?_
  dsimp only [sel, rem, nth, del, cat, upd]
  have he : writeE D e.k e.x.s.b = 0 := by
    unfold writeE
    rw [if_pos ⟨h0, by rw [h.secs]; exact h1, hs⟩, live_power h]
  rw [he] at hr
  refine tri_f (by simp [hr]) ?_
  refine tri_sF 2 rfl ?_
  refine tri_end [3, 2, 1, 0] fun q hq => ⟨rfl, ?_⟩
  dsimp only [sel, rem, nth, del, cat, upd] at hq
  exact ent_tail (fun q hq => ent_fold (l := [DiskA d (wrD D e.k e.x.s)]) [_, _] (fun q h => ⟨sl, hsl, h⟩) hq) hq

/-- The last one that may go. -/
def victim : List (Int × SlotS) → Option (Int × SlotS)
  | [] => none
  | e :: r => match victim r with
    | some v => some v
    | none => if e.2.pins ≤ 0 then some e else none
def without (l : List (Int × SlotS)) (k : Int) : List (Int × SlotS) := l.filter fun e => decide (e.1 ≠ k)
def placeE (room : Int) (l : List (Int × SlotS)) : Int := if (l.length : Int) < room then 0 else if (victim l).isSome then 0 else 5
def placeL (room : Int) (l : List (Int × SlotS)) : List (Int × SlotS) := if (l.length : Int) < room then l else match victim l with
  | some v => without l v.1
  | none => l
def placeD (room : Int) (l : List (Int × SlotS)) (D : DskS) : DskS := if (l.length : Int) < room then D else match victim l with
  | some v => if v.2.dirty then wrD D v.1 v.2.s else D
  | none => D

theorem victim_mem : ∀ {l : List (Int × SlotS)} {v : Int × SlotS}, victim l = some v → v ∈ l ∧ v.2.pins ≤ 0
  | e :: r, v, h => by
    unfold victim at h
    cases hr : victim r with
    | some w =>
      rw [hr] at h
      cases h
      exact ⟨by simp [(victim_mem hr).1], (victim_mem hr).2⟩
    | none =>
      rw [hr] at h
      dsimp only at h
      split at h
      · cases h; exact ⟨by simp, by assumption⟩
      · cases h
theorem victim_pinned : ∀ {l : List (Int × SlotS)}, (∀ e ∈ l, 0 < e.2.pins) → victim l = none
  | [], _ => rfl
  | e :: r, h => by
    unfold victim
    rw [victim_pinned fun x hx => h x (by simp [hx])]
    dsimp only
    rw [if_neg (by have := h e (by simp); omega)]
theorem victim_at : ∀ {l : List (Int × SlotS)} {i : Nat} (hi : i < l.length), (∀ e ∈ l.drop (i + 1), 0 < e.2.pins) → l[i].2.pins ≤ 0 → victim l = some l[i]
  | e :: r, 0, _, h, hp => by
    unfold victim
    rw [victim_pinned (by simpa using h)]
    exact if_pos hp
  | e :: r, i + 1, hi, h, hp => by
    unfold victim
    rw [victim_at (i := i) (by simpa using hi) (by simpa using h) (by simpa using hp)]
    rfl
theorem victim_none {l : List (Int × SlotS)} (h : victim l = none) : ∀ e ∈ l, 0 < e.2.pins := by
  induction l with
  | nil => intro e he; cases he
  | cons x r ih =>
    unfold victim at h
    cases hr : victim r with
    | some w => rw [hr] at h; cases h
    | none =>
      rw [hr] at h
      dsimp only at h
      split at h
      · cases h
      · intro e he
        rcases List.mem_cons.1 he with rfl | he
        · omega
        · exact ih hr e he

theorem without_mem {l : List (Int × SlotS)} {k : Int} {e : Int × SlotS} : e ∈ without l k ↔ e ∈ l ∧ e.1 ≠ k := by simp [without]
theorem wfe_without {L : List (Int × SlotS)} (h : WfE n room P L) (k : Int) : WfE n room P (without L k) where
  nodup := (List.filter_sublist.map _).nodup h.nodup
  rng := fun e he => h.rng e (without_mem.1 he).1
  ok := fun e he => h.ok e (without_mem.1 he).1
  pins := fun e he => h.pins e (without_mem.1 he).1
  len := by have := List.length_filter_le (fun e : Int × SlotS => decide (e.1 ≠ k)) L; have h2 := h.len; unfold without; omega
  most := h.most
  top := h.top
theorem wfe_place {L : List (Int × SlotS)} (h : WfE n room P L) : WfE n room P (placeL room L) := by
  unfold placeL
  split
  · exact h
  · split
    · exact wfe_without h _
    · exact h
theorem ekeys_len (L : List Ent) : (ekeys L).length = (L.map Ent.kx).length := by simp [ekeys]

theorem map_eraseIdx {α β : Type} (f : α → β) : ∀ (L : List α) (i : Nat), (L.eraseIdx i).map f = (L.map f).eraseIdx i
  | [], _ => rfl
  | _ :: _, 0 => rfl
  | x :: L, i + 1 => congrArg (f x :: ·) (map_eraseIdx f L i)
/-- The entries but one. -/
theorem ents_without {L : List Ent} {i : Nat} (hi : i < L.length) (hn : (ekeys L).Nodup) : (L.eraseIdx i).map Ent.kx = without (L.map Ent.kx) L[i].k ∧ ekeys (L.eraseIdx i) = (ekeys L).filter (fun k => decide (k ≠ L[i].k)) := by
  have h2 : ekeys (L.eraseIdx i) = (ekeys L).eraseIdx i := map_eraseIdx _ _ _
  have h3 := nodup_erase (ks := ekeys L) (i := i) (v := L[i].k) (by simpa [ekeys] using hi) hn (by simp [ekeys])
  refine ⟨?_, by rw [h2, h3]⟩
  unfold without
  induction L generalizing i with
  | nil => simp at hi
  | cons e r ih =>
    have hn' := hn
    unfold ekeys at hn'
    rw [List.map_cons, List.nodup_cons] at hn'
    cases i with
    | zero =>
      simp only [List.eraseIdx_cons_zero, List.map_cons, List.getElem_cons_zero, List.filter_cons, Ent.kx]
      rw [if_neg (by simp), List.filter_eq_self.2]
      intro a ha
      obtain ⟨x, hx, rfl⟩ := List.mem_map.1 ha
      simp
      rintro h
      exact hn'.1 (h ▸ List.mem_map_of_mem hx)
    | succ i =>
      have hi' : i < r.length := by simpa using hi
      have h2' : ekeys (r.eraseIdx i) = (ekeys r).eraseIdx i := map_eraseIdx _ _ _
      have := ih hi' hn'.2 h2' (nodup_erase (ks := ekeys r) (i := i) (v := r[i].k) (by simpa [ekeys] using hi') hn'.2 (by simp [ekeys]))
      simp only [List.eraseIdx_cons_succ, List.map_cons, List.getElem_cons_succ, List.filter_cons]
      rw [if_pos, this]
      refine decide_eq_true fun h => ?_
      have h' : e.k = r[i].k := h
      exact hn'.1 (by rw [h']; exact List.mem_map_of_mem (List.getElem_mem hi'))

theorem cache_fold {sl : Sl} {L : List Ent} (hw : WfE n room P (L.map Ent.kx)) {q : PH} (h : stars [pts c (.cells (cacheC d room m sl) false), MapE m L, OwnA sl 1 (ints (ekeys L)), SlotsA L] q) : CacheA c d n room P (L.map Ent.kx) q :=
  ⟨(m, sl, L), ⟨rfl, hw⟩, h⟩
theorem tri_cache (i : Nat) {w : M β} {L : List (Int × SlotS)} (hl : l[i]? = some (CacheA c d n room P L)) (k : ∀ m (sl : Sl) (E : List Ent), E.map Ent.kx = L → WfE n room P L → Tri (stars (pts c (.cells (cacheC d room m sl) false) :: MapE m E :: OwnA sl 1 (ints (ekeys E)) :: SlotsA E :: del l i)) w S) : Tri (stars l) w S :=
  tri_open (γ := Nat × Sl × List Ent) (φ := fun y => y.2.2.map Ent.kx = L ∧ WfE n room P L) (L := fun y => [pts c (.cells (cacheC d room y.1 y.2.1) false), MapE y.1 y.2.2, OwnA y.2.1 1 (ints (ekeys y.2.2)), SlotsA y.2.2]) i hl (fun _ ⟨x, h1, h2⟩ => ⟨x, h1, h2⟩) fun x h => k x.1 x.2.1 x.2.2 h.1 h.2

/-- m[k] in a cache's slots. -/
theorem tri_mape (i : Nat) {L : List Ent} (hl : l[i]? = some (MapE m L)) (k : Int) {f : Option MV → M β} (kk : Tri (stars l) (f (ptrOf L k)) S) : Tri (stars l) (bd (mapLook (some m) (.int .i64 k)) f) S := by
  refine tri_open (γ := List (Int × MV)) (φ := fun kvs => ∀ k, getK kvs k = ptrOf L k) (L := fun kvs => [MapK .i64 m kvs]) i hl (fun q ⟨x, h1, h2⟩ => ⟨x, h1, by rw [stars_one]; exact h2⟩) fun kvs hkv => ?_
  refine tri_look 0 rfl k ?_
  rw [hkv k]
  refine kk.pre fun q hq => ?_
  rw [stars_pick i l hl, ← del_eq]
  obtain ⟨q1, q2, h1, h2, r⟩ := hq
  exact ⟨q1, q2, ⟨kvs, hkv, h1⟩, h2, r⟩
theorem tri_maped (i : Nat) {L L' : List Ent} (hl : l[i]? = some (MapE m L)) (k : Int) (hL : ∀ k', ptrOf L' k' = if k' = k then none else ptrOf L k') {f : Unit → M β} (kk : Tri (stars (MapE m L' :: del l i)) (f ()) S) : Tri (stars l) (bd (mapDel (some m) (.int .i64 k)) f) S := by
  refine tri_open (γ := List (Int × MV)) (φ := fun kvs => ∀ k, getK kvs k = ptrOf L k) (L := fun kvs => [MapK .i64 m kvs]) i hl (fun q ⟨x, h1, h2⟩ => ⟨x, h1, by rw [stars_one]; exact h2⟩) fun kvs hkv => ?_
  refine tri_delk 0 rfl k fun hn => ?_
  refine kk.pre fun q hq => ?_
  exact ent_head (fun q h => ⟨delK kvs k, fun k' => by rw [getK_del kvs k k' hn, hL, hkv], h⟩) hq
theorem tri_mapep (i : Nat) {L L' : List Ent} (hl : l[i]? = some (MapE m L)) (k : Int) (v : MV) (hL : ∀ k', ptrOf L' k' = if k' = k then some v else ptrOf L k') {f : Unit → M β} (kk : Tri (stars (MapE m L' :: del l i)) (f ()) S) : Tri (stars l) (bd (mapPut (some m) (.int .i64 k) v) f) S := by
  refine tri_open (γ := List (Int × MV)) (φ := fun kvs => ∀ k, getK kvs k = ptrOf L k) (L := fun kvs => [MapK .i64 m kvs]) i hl (fun q ⟨x, h1, h2⟩ => ⟨x, h1, by rw [stars_one]; exact h2⟩) fun kvs hkv => ?_
  refine tri_put 0 rfl k v ?_
  refine kk.pre fun q hq => ?_
  exact ent_head (fun q h => ⟨putK kvs k v, fun k' => by rw [getK_put, hL, hkv], h⟩) hq

theorem dec_ptr (p : Option MA) : CTy.dec .ptr (.ptr p) = some p := rfl

/-- The slots but one are the slots but one of them again. -/
theorem ptrOf_without {L : List Ent} {i : Nat} (hi : i < L.length) (hn : (ekeys L).Nodup) (k' : Int) : ptrOf (L.eraseIdx i) k' = if k' = L[i].k then none else ptrOf L k' := by
  have hp := perm_at hi
  rw [ptrOf_perm hp hn]
  have hn2 : ((L[i] :: L.eraseIdx i).map (·.k)).Nodup := (hp.map (·.k)).nodup_iff.1 (show (L.map (·.k)).Nodup from hn)
  rw [List.map_cons, List.nodup_cons] at hn2
  show _ = if k' = L[i].k then none else if k' = L[i].k then _ else _
  by_cases h : k' = L[i].k
  · rw [if_pos h, ptrOf_none, h]
    exact hn2.1
  · rw [if_neg h, if_neg h]

theorem place_spec {L : List (Int × SlotS)} (hD : Live n D) (hd : D.done < 300000000000) (hN : room < N) : Tri (stars [CacheA c d n room P L, DiskA d D]) (F_cache_Cache_place N (some ⟨c, 0⟩))
    fun r => pu (r = placeE room L) (stars [CacheA c d n room P (placeL room L), DiskA d (placeD room L D)]) := by
  unfold F_cache_Cache_place
  refine tri_cache 0 rfl fun m sl E hE hW => ?_
  dsimp only [sel, rem, nth, del, cat, upd]
  refine tri_gL 0 rfl rfl (tri_gI 0 rfl rfl ?_)
  refine own_lenI 2 rfl fun hsl => ?_
  have hlen : (ekeys E).length = L.length := by rw [ekeys_len, hE]
  have hk : (ekeys E).Nodup := by rw [← ekeys_kx, hE]; exact hW.nodup
  have hl2 := hW.len
  have hl3 := hW.most
  have hEl : E.length = L.length := by rw [← hE, List.length_map]
  by_cases h1 : (L.length : Int) < room
  · refine tri_t (by simp [hsl, hlen, h1]) ?_
    refine tri_end [0, 0, 0, 0, 0] fun q hq => ⟨by unfold placeE; rw [if_pos h1], ?_⟩
    unfold placeL placeD
    rw [if_pos h1, if_pos h1]
    exact ent_fold (l := [DiskA d D]) [_, _, _, _] (fun q h => by rw [← hE] at hW ⊢; exact cache_fold hW h) hq
  refine tri_f (by simp [hsl, hlen]; omega) ?_
  refine tri_gL 0 rfl rfl ?_
  -- the rounds
  have loop : ∀ (K : Nat) (j : Nat), j < K → Tri (pu (j ≤ L.length ∧ ∀ e ∈ L.drop j, 0 < e.2.pins) (stars [pts c (.cells (cacheC d room m sl) false), MapE m E, OwnA sl 1 (ints (ekeys E)), SlotsA E, DiskA d D]))
      (iter K (fun go_12 (v_11 : Int) => if (decide ((0 : Int) ≤ v_11)) = true then (bd (nonNil (some ⟨c, 0⟩)) fun q_13 => bd (fld q_13 3) fun q_14 => bd (ldL 1 q_14) fun (y_15 : Sl) => bd (idx 1 y_15 v_11) fun q_16 => bd (ldI .i64 q_16) fun (y_17 : Int) => bd (nonNil (some ⟨c, 0⟩)) fun q_18 => bd (fld q_18 2) fun q_19 => bd (ldM q_19) fun (y_20 : Option Nat) => bd (mapLook y_20 (MV.int .i64 y_17)) fun o_21 => bd (someOr (CTy.dec (.ptr) (o_21.getD (MV.ptr (none : Option MA))))) fun (y_22 : Option MA) => bd (nonNil y_22) fun q_23 => bd (fld q_23 4) fun q_24 => bd (ldI .i64 q_24) fun (y_25 : Int) => if (decide ((0 : Int) < y_25)) = true then (go_12 (wr .i64 (v_11 - (1 : Int)))) else (bd (nonNil y_22) fun q_26 => bd (fld q_26 3) fun q_27 => bd (ldB q_27) fun (y_28 : Bool) => bd (show M (Unit ⊕ Int) from if y_28 = true then (bd (F_cache_Cache_write N (some ⟨c, 0⟩) y_22) fun r_29 => if (!decide (r_29 = (0 : Int))) = true then (ret (Sum.inr r_29)) else (ret ((Sum.inl ())))) else (ret ((Sum.inl ())))) fun j_30 => (match j_30 with | Sum.inl j_31 => bd (nonNil (some ⟨c, 0⟩)) fun q_33 => bd (fld q_33 2) fun q_34 => bd (ldM q_34) fun (y_35 : Option Nat) => bd (mapDel y_35 (MV.int .i64 y_17)) fun _ => bd (F_cache_Cache_leave N (some ⟨c, 0⟩) y_17) fun r_36 => ret ((Sum.inr (0 : Int))) | Sum.inr j_32 => ret (Sum.inr j_32)))) else (ret ((Sum.inl ())))) ((j : Int) - 1) : M (Unit ⊕ Int))
      fun r => pu ((match r with | .inl _ => (5 : Int) | .inr i => i) = placeE room L) (stars [CacheA c d n room P (placeL room L), DiskA d (placeD room L D)]) := by
    intro K
    induction K with
    | zero => intro j hj; omega
    | succ K ih =>
      intro j hj
      rintro h q ⟨⟨g1, g2⟩, hq⟩ hh
      revert h q
      refine fun h q hq hh => (?_ : Tri (stars [pts c (.cells (cacheC d room m sl) false), MapE m E, OwnA sl 1 (ints (ekeys E)), SlotsA E, DiskA d D]) _ _) h q hq hh
      show Tri _ (if _ then _ else _) _
      cases j with
      | zero =>
        have hv : victim L = none := victim_pinned (by simpa using g2)
        refine tri_f (by simp) (tri_end [0, 0, 0, 0, 0] fun q hq => ⟨?_, ?_⟩)
        · unfold placeE
          rw [if_neg h1, hv]
          rfl
        · unfold placeL placeD
          rw [if_neg h1, if_neg h1, hv]
          exact ent_fold (l := [DiskA d D]) [_, _, _, _] (fun q h => by rw [← hE] at hW ⊢; exact cache_fold hW h) hq
      | succ j =>
        refine tri_t (by simp) ?_
        have e1 : ((j + 1 : Nat) : Int) - 1 = (j : Int) := by omega
        rw [e1]
        have hjE : j < E.length := by omega
        have hjk : j < (ekeys E).length := by omega
        have hjL : j < L.length := by omega
        have hLj : L[j] = (E[j].k, E[j].x) := by
          have : L[j]? = some (E[j].k, E[j].x) := by rw [← hE, List.getElem?_map, List.getElem?_eq_getElem hjE]; rfl
          rw [List.getElem?_eq_getElem hjL] at this
          exact Option.some.inj this
        have hkj : (ekeys E)[j] = E[j].k := by simp [ekeys]
        refine tri_gL 0 rfl rfl (tri_own_I 2 rfl hjk ?_)
        rw [hkj]
        refine tri_gM 0 rfl rfl (tri_mape 1 rfl _ ?_)
        rw [ptrOf_mem hk (List.getElem_mem hjE), Option.getD_some, dec_ptr]
        refine tri_some ?_
        refine tri_slot 3 (perm_at hjE) rfl ?_
        dsimp only [sel, rem, nth, del, cat, upd] 
        refine tri_slotx 0 rfl fun bl hbl => ?_
        dsimp only [sel, rem, nth, del, cat, upd]
        refine tri_gI 0 rfl rfl ?_
        have back : ∀ q, stars [pts E[j].b (.cells (slotC E[j] bl) false), OwnA bl 1 (bytesOf E[j].x.s.b), SlotsA (E.eraseIdx j)] q → SlotsA E q := fun q hq => by
          rw [slots_perm (perm_at hjE), slots_cons]
          exact ent_fold (l := [SlotsA (E.eraseIdx j)]) [_, _] (fun q h => ⟨bl, hbl, h⟩) hq
        by_cases hp : 0 < E[j].x.pins
        · refine tri_t (by simpa using hp) ?_
          rw [wr64 (by omega) (by omega)]
          refine (ih j (by omega)).pre fun q hq => ⟨⟨by omega, ?_⟩, ?_⟩
          · rw [← List.getElem_cons_drop hjL]
            intro e he
            rcases List.mem_cons.1 he with rfl | he
            · rw [hLj]; exact hp
            · exact g2 e he
          · rw [stars_sel [3, 3, 3, 0, 0, 0, 0]] at hq
            obtain ⟨q1, q2, k1, k2, k3, rfl⟩ := hq
            have : un q1 q2 = q1 := by
              funext b
              unfold un
              cases q1 b with
              | some _ => rfl
              | none => exact k2 b
            rw [this]
            dsimp only [sel, rem, nth, del, cat, upd] at k1
            exact ent_tail (fun q => ent_tail fun q => ent_tail fun q hq => ent_fold (l := [DiskA d D]) [_, _, _] back hq) k1
        · refine tri_f (by simpa using hp) ?_
          have hv : victim L = some L[j] := victim_at hjL g2 (by rw [hLj]; show E[j].x.pins ≤ 0; omega)
          have hrng := hW.rng _ (List.getElem_mem hjL)
          have hok := hW.ok _ (List.getElem_mem hjL)
          rw [hLj] at hrng hok hv
          dsimp only at hrng hok
          refine tri_gB 0 rfl rfl ?_
          refine tri_turn 2 (B := SlotsA (E.eraseIdx j)) rfl (fun _ h => h) ?_
          refine tri_call [0, 0, 1, 3] (Q := fun r : Unit ⊕ Int => pu (r = .inl ()) (stars [pts c (.cells (cacheC d room m sl) false), DiskA d (placeD room L D)])) ?_ fun r => tri_pu fun hr => tri_flat ?_
          · dsimp only [sel, rem, nth, del, cat, upd]
            have hpd : placeD room L D = if E[j].x.dirty = true then wrD D E[j].k E[j].x.s else D := by
              unfold placeD
              rw [if_neg h1, hv]
            rw [hpd]
            by_cases hdt : E[j].x.dirty = true
            · refine tri_t hdt ?_
              rw [if_pos hdt]
              refine Tri.pre (B := stars [pts c (.cells (cacheC d room m sl) false), SlotA E[j], DiskA d D]) ?_ fun q hq => ?_
              · refine tri_call [0, 0, 0] (cwrite_spec hD hd hrng.1 hrng.2 hok) fun r => tri_pu fun hr => tri_flat ?_
                dsimp only [sel, rem, nth, del, cat, upd]
                refine tri_f (by simp [hr]) (tri_end [0, 1] fun q hq => ⟨rfl, hq⟩)
              · rw [stars_sel [2, 0, 0, 0]] at hq
                obtain ⟨q1, q2, k1, k2, k3, rfl⟩ := hq
                have : un q1 q2 = q1 := by
                  funext b
                  unfold un
                  cases q1 b with
                  | some _ => rfl
                  | none => exact k2 b
                rw [this]
                dsimp only [sel, rem, nth, del, cat, upd] at k1
                exact ent_tail (fun q hq => ent_fold (l := [DiskA d D]) [_, _] (fun q h => ⟨bl, hbl, h⟩) hq) k1
            · refine tri_f hdt ?_
              rw [if_neg hdt]
              exact tri_end [2, 2] fun q hq => ⟨rfl, hq⟩
          · subst hr
            dsimp only [sel, rem, nth, del, cat, upd]
            have hw := ents_without hjE hk
            refine tri_gM 0 rfl rfl (tri_maped 3 rfl (L' := E.eraseIdx j) _ (ptrOf_without hjE hk) ?_)
            dsimp only [sel, rem, nth, del, cat, upd]
            refine tri_call [1, 3] (leave_spec _ hk (by omega) (by omega)) fun _ => tri_ex fun s' => tri_flat ?_
            dsimp only [sel, rem, nth, del, cat, upd]
            refine tri_end [0, 1, 0, 1, 0] fun q hq => ⟨?_, ?_⟩
            · unfold placeE
              rw [if_neg h1, hv]
              rfl
            · have hpl : placeL room L = (E.eraseIdx j).map Ent.kx := by
                unfold placeL
                rw [if_neg h1, hv, hw.1, hE]
              rw [hpl]
              dsimp only [sel, rem, nth, del, cat, upd] at hq
              refine ent_fold (l := [DiskA d (placeD room L D)]) [_, _, _, _] (fun q h => cache_fold (m := m) (sl := s') (by rw [← hpl]; exact wfe_place hW) ?_) hq
              rw [hw.2]
              exact h
  have e0 : wr .i64 ((sl.len : Int) - 1) = ((L.length : Nat) : Int) - 1 := by rw [hsl, hlen, wr64 (by omega) (by omega)]
  show Tri _ (bd (iter N _ (wr .i64 ((sl.len : Int) - 1))) _) _
  rw [e0]
  refine tri_call [0, 0, 0, 0, 0] ((loop N L.length (by omega)).pre fun q hq => ⟨⟨Nat.le_refl _, by simp⟩, hq⟩) fun r => tri_pu fun hr => tri_flat ?_
  cases r with
  | inl u => exact tri_end [0, 0] fun q hq => ⟨hr, hq⟩
  | inr i => exact tri_end [0, 0] fun q hq => ⟨hr, hq⟩

theorem may_spec {L : List (Int × SlotS)} (i : Int) (hD : Live n D) : Tri (stars [CacheA c d n room P L, DiskA d D]) (F_cache_Cache_may N (some ⟨c, 0⟩) i) fun r => pu (r = if 0 ≤ i ∧ i < n then 0 else 1) (stars [CacheA c d n room P L, DiskA d D]) := by
  unfold F_cache_Cache_may
  refine tri_f (by simp) ?_
  refine tri_call [0, 0] (Q := fun r : Bool => pu (r = decide (i < 0 ∨ n ≤ i)) (stars [CacheA c d n room P L, DiskA d D])) ?_ fun r => tri_pu fun hr => tri_flat ?_
  · dsimp only [sel, rem, nth, del, cat, upd]
    by_cases h : i < 0
    · refine tri_f (by simpa using h) (tri_end [0, 0] fun q hq => ⟨by simp [h], hq⟩)
    · refine tri_t (by simpa using h) ?_
      refine tri_cache 0 rfl fun m sl E hE hW => ?_
      dsimp only [sel, rem, nth, del, cat, upd]
      refine tri_gP 0 rfl rfl ?_
      refine tri_call [4] disk_len fun r => tri_pu fun hr => tri_flat ?_
      dsimp only [sel, rem, nth, del, cat, upd]
      refine tri_end [1, 1, 1, 1, 0] fun q hq => ⟨?_, ?_⟩
      · rw [hr, hD.secs]; simp [h]
      · exact ent_fold (l := [DiskA d D]) [_, _, _, _] (fun q h => by rw [← hE] at hW ⊢; exact cache_fold hW h) hq
  · dsimp only [sel, rem, nth, del, cat, upd]
    by_cases h : 0 ≤ i ∧ i < n
    · refine tri_f (by rw [hr]; simp; omega) (tri_end [0, 0] fun q hq => ⟨by rw [if_pos h], hq⟩)
    · refine tri_t (by rw [hr]; simp; omega) (tri_end [0, 0] fun q hq => ⟨by rw [if_neg h], hq⟩)

def lookS : List (Int × SlotS) → Int → Option SlotS
  | [], _ => none
  | e :: r, k => if k = e.1 then some e.2 else lookS r k
theorem lookS_none {L : List (Int × SlotS)} {k : Int} : lookS L k = none ↔ k ∉ L.map (·.1) := by
  induction L with
  | nil => simp [lookS]
  | cons e r ih =>
    unfold lookS
    by_cases h : k = e.1
    · simp [h]
    · rw [if_neg h, ih]
      simp [h]
theorem lookS_at : ∀ {E : List Ent} {k : Int} {x : SlotS}, lookS (E.map Ent.kx) k = some x → ∃ (j : Nat) (h : j < E.length), E[j].k = k ∧ E[j].x = x
  | e :: E, k, x, h => by
    rw [List.map_cons] at h
    unfold lookS at h
    split at h
    · rename_i hk
      cases h
      exact ⟨0, by simp, hk.symm, rfl⟩
    · obtain ⟨j, hj, h1⟩ := lookS_at h
      exact ⟨j + 1, by simpa using hj, by simpa using h1⟩
theorem lookS_mem {L : List (Int × SlotS)} {k : Int} {x : SlotS} (h : lookS L k = some x) : (k, x) ∈ L := by
  induction L with
  | nil => cases h
  | cons e r ih =>
    unfold lookS at h
    split at h
    · rename_i hk
      cases h
      subst hk
      simp
    · simp [ih h]
theorem lookS_of_mem {L : List (Int × SlotS)} (hn : (L.map (·.1)).Nodup) {e : Int × SlotS} (h : e ∈ L) : lookS L e.1 = some e.2 := by
  induction L with
  | nil => cases h
  | cons x r ih =>
    rw [List.map_cons, List.nodup_cons] at hn
    unfold lookS
    rcases List.mem_cons.1 h with rfl | h
    · rw [if_pos rfl]
    · rw [if_neg, ih hn.2 h]
      rintro hh
      exact hn.1 (hh ▸ List.mem_map_of_mem h)
theorem lookS_without {L : List (Int × SlotS)} {k k' : Int} : lookS (without L k) k' = if k' = k then none else lookS L k' := by
  induction L with
  | nil => unfold without lookS; simp
  | cons e r ih =>
    unfold without at ih ⊢
    rw [List.filter_cons]
    by_cases h : e.1 = k
    · rw [if_neg (by simp [h]), ih]
      by_cases h2 : k' = k
      · rw [if_pos h2, if_pos h2]
      · rw [if_neg h2, if_neg h2]
        show _ = if k' = e.1 then _ else _
        rw [if_neg (fun c => h2 (c.trans h))]
    · rw [if_pos (by simp [h])]
      unfold lookS
      rw [ih]
      by_cases h2 : k' = e.1
      · rw [if_pos h2, if_pos h2, if_neg (fun c => h (h2.symm.trans c))]
      · rw [if_neg h2, if_neg h2]
theorem len_without {L : List (Int × SlotS)} (hn : (L.map (·.1)).Nodup) {k : Int} {x : SlotS} (h : lookS L k = some x) : (without L k).length + 1 = L.length := by
  induction L with
  | nil => cases h
  | cons e r ih =>
    rw [List.map_cons, List.nodup_cons] at hn
    unfold lookS at h
    unfold without at ih ⊢
    rw [List.filter_cons]
    split at h
    · rename_i hk
      rw [if_neg (by simp [hk]), List.filter_eq_self.2, List.length_cons]
      intro a ha
      simp
      rintro hh
      exact hn.1 (by rw [← hk, ← hh]; exact List.mem_map_of_mem ha)
    · rename_i hk
      rw [if_pos (by simp; exact fun c => hk c.symm), List.length_cons, List.length_cons, ih hn.2 h]

/-- A cache one of whose slots, x, is held apart, whose order is not yet as it will be. -/
def HitA (c d : Nat) (room : Int) (i : Int) (x : SlotS) (L' : List (Int × SlotS)) (D : DskS) (p : Option MA) : HA := exA fun y : Nat × Sl × Nat × List Ent × List Int =>
  pu (p = some ⟨y.2.2.1, 0⟩ ∧ y.2.2.2.1.map Ent.kx = L' ∧ y.2.2.2.2.filter (fun k => decide (k ≠ i)) = ekeys y.2.2.2.1 ∧ y.2.2.2.2.Nodup ∧ y.2.2.2.2.length ≤ 900)
    (stars [pts c (.cells (cacheC d room y.1 y.2.1) false), MapE y.1 (⟨i, y.2.2.1, x⟩ :: y.2.2.2.1), OwnA y.2.1 1 (ints y.2.2.2.2), SlotA ⟨i, y.2.2.1, x⟩, SlotsA y.2.2.2.1, DiskA d D])

theorem MapE_perm {L L' : List Ent} (h : L.Perm L') (hn : (ekeys L).Nodup) {q : PH} (k : MapE m L q) : MapE m L' q := by
  obtain ⟨kvs, h1, h2⟩ := k
  exact ⟨kvs, fun x => by rw [h1, ptrOf_perm h hn], h2⟩

theorem hit_of {sl : Sl} {E : List Ent} {L : List (Int × SlotS)} (hE : E.map Ent.kx = L) (hW : WfE n room P L) {j : Nat} (hj : j < E.length) {q : PH} (h : stars [pts c (.cells (cacheC d room m sl) false), MapE m E, OwnA sl 1 (ints (ekeys E)), SlotsA E, DiskA d D] q) : HitA c d room E[j].k E[j].x (without L E[j].k) D (some ⟨E[j].b, 0⟩) q := by
  have hk : (ekeys E).Nodup := by rw [← ekeys_kx, hE]; exact hW.nodup
  have hw := ents_without hj hk
  refine ⟨(m, sl, E[j].b, E.eraseIdx j, ekeys E), ⟨rfl, by rw [hw.1, hE], hw.2.symm, hk, ?_⟩, ?_⟩
  · have h1 := hW.len
    have h2 := hW.most
    rw [← hE, List.length_map] at h1
    simp only [ekeys, List.length_map]
    omega
  · dsimp only
    refine ent_tail (fun q h => ?_) h
    refine ent_head (fun q h => MapE_perm (perm_at hj) hk h) ?_
    refine ent_tail (fun q h => ent_tail (fun q h => ?_) h) h
    rw [slots_perm (perm_at hj), slots_cons] at h
    have := stars_append [SlotA E[j], SlotsA (E.eraseIdx j)] [DiskA d D]
    rw [show stars (stars [SlotA E[j], SlotsA (E.eraseIdx j)] :: [DiskA d D]) = star (stars [SlotA E[j], SlotsA (E.eraseIdx j)]) (stars [DiskA d D]) from rfl, ← this] at h
    exact h

theorem tri_hit (k : Nat) {w : M β} {i : Int} {x : SlotS} {L' : List (Int × SlotS)} {p : Option MA} (hl : l[k]? = some (HitA c d room i x L' D p)) (kk : ∀ m (sl : Sl) b (E : List Ent) (ks : List Int), p = some ⟨b, 0⟩ → E.map Ent.kx = L' → ks.filter (fun k => decide (k ≠ i)) = ekeys E → ks.Nodup → ks.length ≤ 900 →
    Tri (stars (pts c (.cells (cacheC d room m sl) false) :: MapE m (⟨i, b, x⟩ :: E) :: OwnA sl 1 (ints ks) :: SlotA ⟨i, b, x⟩ :: SlotsA E :: DiskA d D :: del l k)) w S) : Tri (stars l) w S :=
  tri_open (γ := Nat × Sl × Nat × List Ent × List Int) (φ := fun y => p = some ⟨y.2.2.1, 0⟩ ∧ y.2.2.2.1.map Ent.kx = L' ∧ y.2.2.2.2.filter (fun k => decide (k ≠ i)) = ekeys y.2.2.2.1 ∧ y.2.2.2.2.Nodup ∧ y.2.2.2.2.length ≤ 900)
    (L := fun y => [pts c (.cells (cacheC d room y.1 y.2.1) false), MapE y.1 (⟨i, y.2.2.1, x⟩ :: y.2.2.2.1), OwnA y.2.1 1 (ints y.2.2.2.2), SlotA ⟨i, y.2.2.1, x⟩, SlotsA y.2.2.2.1, DiskA d D]) k hl (fun _ ⟨x, h1, h2⟩ => ⟨x, h1, h2⟩)
    fun y h => kk y.1 y.2.1 y.2.2.1 y.2.2.2.1 y.2.2.2.2 h.1 h.2.1 h.2.2.1 h.2.2.2.1 h.2.2.2.2

/-- What Get comes to. -/
def getCE (n : Nat) (room : Int) (L : List (Int × SlotS)) (i : Int) : Int := if 0 ≤ i ∧ i < n then (match lookS L i with
  | some _ => 0
  | none => placeE room L) else 1
def getCX (room : Int) (L : List (Int × SlotS)) (D : DskS) (i : Int) : SlotS := match lookS L i with
  | some x => x
  | none => ⟨getS (placeD room L D) i, false, 0⟩
def restC (room : Int) (L : List (Int × SlotS)) (i : Int) : List (Int × SlotS) := match lookS L i with
  | some _ => without L i
  | none => placeL room L
def accD (n : Nat) (room : Int) (L : List (Int × SlotS)) (D : DskS) (i : Int) : DskS := if 0 ≤ i ∧ i < n then (match lookS L i with
  | some _ => D
  | none => placeD room L D) else D
def getCL (n : Nat) (room : Int) (L : List (Int × SlotS)) (D : DskS) (i : Int) : List (Int × SlotS) := if getCE n room L i = 0 then (i, getCX room L D i) :: restC room L i else L

theorem placeD_live {L : List (Int × SlotS)} (h : Live n D) (hW : WfE n room P L) : Live n (placeD room L D) := by
  unfold placeD
  split
  · exact h
  · split
    · rename_i v hv
      have hm := (victim_mem hv).1
      split
      · exact wrD_live h (hW.rng v hm).1 (hW.rng v hm).2 (hW.ok v hm)
      · exact h
    · exact h
theorem placeD_done {L : List (Int × SlotS)} (h : Live n D) (hW : WfE n room P L) : D.done ≤ (placeD room L D).done ∧ (placeD room L D).done ≤ D.done + 1 := by
  unfold placeD
  split
  · omega
  · split
    · rename_i v hv
      have hm := (victim_mem hv).1
      split
      · rw [wrD_done h (hW.rng v hm).1 (hW.rng v hm).2 (hW.ok v hm)]
        omega
      · omega
    · omega
theorem place_full {L : List (Int × SlotS)} (h : placeE room L ≠ 0) : placeE room L = 5 ∧ placeL room L = L ∧ placeD room L D = D := by
  unfold placeE at h ⊢
  unfold placeL placeD
  by_cases h1 : (L.length : Int) < room
  · rw [if_pos h1] at h
    exact absurd rfl h
  · rw [if_neg h1] at h
    rw [if_neg h1, if_neg h1, if_neg h1]
    cases hv : victim L with
    | none => simp
    | some v => rw [hv] at h; simp at h
theorem place_room {L : List (Int × SlotS)} (hW : WfE n room P L) (h : placeE room L = 0) : ((placeL room L).length : Int) < room := by
  unfold placeE at h
  unfold placeL
  by_cases h1 : (L.length : Int) < room
  · rw [if_pos h1]; exact h1
  · rw [if_neg h1] at h ⊢
    cases hv : victim L with
    | none => rw [hv] at h; simp at h
    | some v =>
      dsimp only
      have := len_without hW.nodup (lookS_of_mem hW.nodup (victim_mem hv).1)
      have := hW.len
      omega
theorem lookS_place {L : List (Int × SlotS)} {i : Int} (h : lookS L i = none) : lookS (placeL room L) i = none := by
  unfold placeL
  split
  · exact h
  · split
    · rw [lookS_without]
      split
      · rfl
      · exact h
    · exact h
theorem restC_none (L : List (Int × SlotS)) (i : Int) : lookS (restC room L i) i = none := by
  unfold restC
  cases h : lookS L i with
  | some x => dsimp only; rw [lookS_without, if_pos rfl]
  | none => exact lookS_place h
theorem wfe_rest {L : List (Int × SlotS)} (hW : WfE n room P L) {i : Int} (h0 : 0 ≤ i ∧ i < n) (he : getCE n room L i = 0) {x : SlotS} (hx : x.s.ok) (hp : 0 ≤ x.pins ∧ x.pins ≤ P) : WfE n room P ((i, x) :: restC room L i) := by
  have hr : WfE n room P (restC room L i) := by
    unfold restC
    split
    · exact wfe_without hW _
    · exact wfe_place hW
  have hn := restC_none (room := room) L i
  refine ⟨?_, ?_, ?_, ?_, ?_, hW.most, hW.top⟩
  · rw [List.map_cons, List.nodup_cons]
    exact ⟨lookS_none.1 hn, hr.nodup⟩
  · intro e he
    rcases List.mem_cons.1 he with rfl | he
    · exact h0
    · exact hr.rng e he
  · intro e he
    rcases List.mem_cons.1 he with rfl | he
    · exact hx
    · exact hr.ok e he
  · intro e he
    rcases List.mem_cons.1 he with rfl | he
    · exact hp
    · exact hr.pins e he
  · rw [List.length_cons]
    unfold getCE at he
    rw [if_pos h0] at he
    unfold restC
    cases hl : lookS L i with
    | some y =>
      dsimp only
      have := len_without hW.nodup hl
      have := hW.len
      omega
    | none =>
      rw [hl] at he
      dsimp only at he ⊢
      have := place_room hW he
      omega
theorem getCX_ok {L : List (Int × SlotS)} (hW : WfE n room P L) (hD : D.ok) (h0 : (placeD room L D).ok) (i : Int) (hP : 0 ≤ P) : (getCX room L D i).s.ok ∧ 0 ≤ (getCX room L D i).pins ∧ (getCX room L D i).pins ≤ P := by
  unfold getCX
  cases hl : lookS L i with
  | some x => exact ⟨hW.ok _ (lookS_mem hl), hW.pins _ (lookS_mem hl)⟩
  | none => exact ⟨getS_ok h0 i, by dsimp only; omega, hP⟩

theorem disk_ok (k : Nat) {w : M β} (hl : l[k]? = some (DiskA d D)) (kk : D.ok → Tri (stars l) w S) : Tri (stars l) w S :=
  tri_know k hl (fun _ ⟨_, h, _⟩ => h) kk

theorem miss_of {sl : Sl} {E : List Ent} {L : List (Int × SlotS)} (hE : E.map Ent.kx = L) (hW : WfE n room P L) {i : Int} (hi : lookS L i = none) {b : Nat} {x : SlotS} {q : PH} (h : stars [pts c (.cells (cacheC d room m sl) false), MapE m (⟨i, b, x⟩ :: E), OwnA sl 1 (ints (ekeys E)), SlotA ⟨i, b, x⟩, SlotsA E, DiskA d D] q) : HitA c d room i x L D (some ⟨b, 0⟩) q := by
  have hk : (ekeys E).Nodup := by rw [← ekeys_kx, hE]; exact hW.nodup
  have hn : i ∉ ekeys E := by rw [← ekeys_kx, hE]; exact lookS_none.1 hi
  refine ⟨(m, sl, b, E, ekeys E), ⟨rfl, hE, ?_, hk, ?_⟩, h⟩
  · rw [List.filter_eq_self.2]
    intro a ha
    simp
    rintro rfl
    exact hn ha
  · have h1 := hW.len
    have h2 := hW.most
    rw [← hE, List.length_map] at h1
    simp only [ekeys, List.length_map]
    omega

theorem ptrOf_new {E : List Ent} {i : Int} {b : Nat} {x : SlotS} (k' : Int) : ptrOf (⟨i, b, x⟩ :: E) k' = if k' = i then some (.ptr (some ⟨b, 0⟩)) else ptrOf E k' := rfl
theorem ptr_look {E : List Ent} {L : List (Int × SlotS)} (hE : E.map Ent.kx = L) {i : Int} : (ptrOf E i = none ↔ lookS L i = none) := by
  rw [ptrOf_none, lookS_none, ← ekeys_kx, hE]

/-- The end of Get and Put: the slot comes first. -/
theorem hit_fold {i : Int} {b : Nat} {x : SlotS} {E : List Ent} {L' : List (Int × SlotS)} {ks : List Int} {sl : Sl} (hE : E.map Ent.kx = L') (hks : ks.filter (fun k => decide (k ≠ i)) = ekeys E) (hW : WfE n room P ((i, x) :: L')) {q : PH}
    (h : stars [pts c (.cells (cacheC d room m sl) false), MapE m (⟨i, b, x⟩ :: E), OwnA sl 1 (ints (i :: ks.filter fun k => decide (k ≠ i))), SlotA ⟨i, b, x⟩, SlotsA E] q) : CacheA c d n room P ((i, x) :: L') q := by
  have e : (i, x) :: L' = (⟨i, b, x⟩ :: E : List Ent).map Ent.kx := by rw [List.map_cons, hE]; rfl
  rw [e] at hW ⊢
  refine cache_fold (m := m) (sl := sl) hW ?_
  rw [hks] at h
  refine ent_tail (fun q => ent_tail fun q => ent_tail fun q h => ?_) h
  rw [slots_cons, stars_one]
  exact h

theorem ptr_cases {E : List Ent} {L : List (Int × SlotS)} (hE : E.map Ent.kx = L) (hk : (ekeys E).Nodup) (i : Int) : ∃ y : Option MA, (ptrOf E i).getD (MV.ptr none) = .ptr y ∧
    ((∃ x, lookS L i = some x ∧ ∃ (j : Nat) (hj : j < E.length), E[j].k = i ∧ E[j].x = x ∧ y = some ⟨E[j].b, 0⟩ ∧ (ptrOf E i).isSome = true) ∨ (lookS L i = none ∧ (ptrOf E i).isSome = false ∧ y = none)) := by
  cases hl : lookS L i with
  | none =>
    have := (ptr_look hE).2 hl
    rw [this]
    exact ⟨none, rfl, .inr ⟨rfl, rfl, rfl⟩⟩
  | some x =>
    have hl' := hl
    rw [← hE] at hl'
    obtain ⟨j, hj, h1, h2⟩ := lookS_at hl'
    have := ptrOf_mem hk (List.getElem_mem hj)
    rw [h1] at this
    rw [this]
    exact ⟨_, rfl, .inl ⟨x, rfl, j, hj, h1, h2, rfl, rfl⟩⟩

theorem get_spec (hp : plain = true) {L : List (Int × SlotS)} (i : Int) (hD : Live n D) (hd : D.done < 200000000000) (hN : 900 < N) (hP : 0 ≤ P) : Tri (stars [CacheA c d n room P L, DiskA d D]) (F_cache_Cache_Get N (some ⟨c, 0⟩) i)
    fun r => pu (r.2 = getCE n room L i) (stars [CacheA c d n room P (getCL n room L D i), DiskA d (accD n room L D i), OwnA r.1 1 (if getCE n room L i = 0 then bytesOf (getCX room L D i).s.b else [])]) := by
  unfold F_cache_Cache_Get
  refine tri_call [0, 0] (may_spec i hD) fun r => tri_pu fun hr => tri_flat ?_
  dsimp only [sel, rem, nth, del, cat, upd]
  by_cases h0 : 0 ≤ i ∧ i < n
  case neg =>
    rw [if_neg h0] at hr
    subst hr
    have he : getCE n room L i = 1 := by unfold getCE; rw [if_neg h0]
    refine tri_t (by decide) (tri_end [0, 0] fun q hq => ⟨he.symm, ?_⟩)
    rw [if_neg (by rw [he]; decide)]
    unfold getCL accD
    rw [he, if_neg h0, if_neg (by decide)]
    exact ent_tail (fun q => ent_tail fun q h => ent_emp (fun q h => .nil 1 h) h) hq
  rw [if_pos h0] at hr
  subst hr
  refine tri_f (by decide) ?_
  refine tri_cache 0 rfl fun m sl E hE hW => ?_
  dsimp only [sel, rem, nth, del, cat, upd]
  have hk : (ekeys E).Nodup := by rw [← ekeys_kx, hE]; exact hW.nodup
  refine tri_gM 0 rfl rfl (tri_mape 1 rfl i ?_)
  obtain ⟨y, hy, hcs⟩ := ptr_cases hE hk i
  rw [hy, dec_ptr]
  refine tri_some ?_
  -- both roads
  refine tri_call (Q := fun r : Option MA ⊕ (Sl × Int) => match r with
      | .inl p => pu (getCE n room L i = 0 ∧ WfE n room P ((i, getCX room L D i) :: restC room L i)) (stars [HitA c d room i (getCX room L D i) (restC room L i) (accD n room L D i) p])
      | .inr x => pu (x = (⟨none, 0⟩, getCE n room L i) ∧ getCE n room L i ≠ 0 ∧ accD n room L D i = D) (stars [CacheA c d n room P L, DiskA d D])) [0, 0, 0, 0, 0] ?_ fun r => ?_
  · dsimp only [sel, rem, nth, del, cat, upd]
    rcases hcs with ⟨x, hl, j, hj, hj1, hj2, hj3, hj4⟩ | ⟨hl, hj4, hj3⟩
    · refine tri_f (by rw [hj4]; decide) (tri_end [0, 0, 0, 0, 0] fun q hq => ?_)
      have he : getCE n room L i = 0 := by unfold getCE; rw [if_pos h0, hl]
      have hx : getCX room L D i = x := by unfold getCX; rw [hl]
      have ha : accD n room L D i = D := by unfold accD; rw [if_pos h0, hl]
      have hr : restC room L i = without L i := by unfold restC; rw [hl]
      have hm := lookS_mem hl
      refine ⟨⟨he, by rw [hx]; exact wfe_rest hW h0 he (hW.ok _ hm) (hW.pins _ hm)⟩, ?_⟩
      have := hit_of (c := c) (d := d) (D := D) (m := m) (sl := sl) hE hW hj hq
      rw [stars_one, hx, ha, hr, hj3]
      rw [hj1, hj2] at this
      exact this
    · refine tri_t (by rw [hj4]; decide) ?_
      refine Tri.pre (B := stars [CacheA c d n room P L, DiskA d D]) ?_ fun q hq => ent_fold (l := [DiskA d D]) [_, _, _, _] (fun q h => by rw [← hE] at hW ⊢; exact cache_fold hW h) hq
      refine tri_call [0, 0] (place_spec hD (by omega) (by have := hW.most; omega)) fun r => tri_pu fun hr => tri_flat ?_
      dsimp only [sel, rem, nth, del, cat, upd]
      have hge : getCE n room L i = placeE room L := by unfold getCE; rw [if_pos h0, hl]
      have hga : accD n room L D i = placeD room L D := by unfold accD; rw [if_pos h0, hl]
      have hgx : getCX room L D i = ⟨getS (placeD room L D) i, false, 0⟩ := by unfold getCX; rw [hl]
      have hgr : restC room L i = placeL room L := by unfold restC; rw [hl]
      by_cases hpe : placeE room L = 0
      case neg =>
        refine tri_t (by rw [hr]; simpa using hpe) (tri_end [0, 0] fun q hq => ?_)
        have := place_full (D := D) hpe
        rw [this.2.1, this.2.2] at hq
        exact ⟨⟨by rw [hge, hr], by rw [hge]; exact hpe, by rw [hga]; exact this.2.2⟩, hq⟩
      refine tri_f (by rw [hr]; simpa using hpe) ?_
      have hDl := placeD_live hD hW
      have hgz : getE (placeD room L D) i = 0 := by
        unfold getE
        rw [if_pos ⟨h0.1, by rw [hDl.secs]; exact h0.2⟩, hDl.dead]
        rfl
      refine disk_ok 1 rfl fun hDok => ?_
      refine tri_cache 0 rfl fun m sl E hE hW1 => ?_
      dsimp only [sel, rem, nth, del, cat, upd]
      refine tri_gP 0 rfl rfl ?_
      refine tri_call [4] (disk_read i) fun r1 => tri_pu fun ⟨hr1, _⟩ => tri_flat ?_
      dsimp only [sel, rem, nth, del, cat, upd]
      rw [hgz] at hr1
      rw [if_pos hgz]
      refine tri_f (by simp [hr1]) ?_
      refine tri_gP 2 rfl rfl ?_
      refine tri_call [0] (disk_tag i) fun r2 => tri_pu fun hr2 => tri_flat ?_
      dsimp only [sel, rem, nth, del, cat, upd]
      subst hr2
      refine tri_alloc fun sb => ?_
      refine tri_gM 3 rfl rfl ?_
      refine tri_mapep 4 rfl (L' := ⟨i, sb, getCX room L D i⟩ :: E) i _ (fun k' => ptrOf_new k') ?_
      dsimp only [sel, rem, nth, del, cat, upd]
      have hgok := getS_ok hDok i
      refine own_len 3 rfl fun hrl => ?_
      rw [bytes_len, hgok] at hrl
      refine tri_end [4, 0, 3, 0, 1, 1, 0] fun q hq => ?_
      dsimp only [sel, rem, nth, del, cat, upd] at hq
      have he : getCE n room L i = 0 := by rw [hge, hpe]
      have hW2 : WfE n room P ((i, getCX room L D i) :: restC room L i) := by
        refine wfe_rest hW h0 he ?_ ?_
        · rw [hgx]; exact hgok
        · rw [hgx]; exact ⟨by simp, hP⟩
      refine ⟨⟨he, hW2⟩, ?_⟩
      rw [stars_one, hga, hgr]
      refine miss_of (m := m) (sl := sl) (E := E) hE hW1 (lookS_place hl) ?_
      rw [hgx] at hq ⊢
      exact ent_tail (fun q => ent_tail fun q => ent_tail fun q h => ent_fold (l := [SlotsA E, DiskA d (placeD room L D)]) [_, _] (fun q h => ⟨r1.1, by omega, h⟩) h) hq
  · dsimp only [sel, rem, nth, del, cat, upd]
    cases r with
    | inr x =>
      refine tri_pu fun ⟨h1, h2, h3⟩ => tri_flat ?_
      subst h1
      refine tri_end [0, 0] fun q hq => ⟨rfl, ?_⟩
      rw [if_neg h2]
      unfold getCL
      rw [if_neg h2, h3]
      exact ent_tail (fun q => ent_tail fun q h => ent_emp (fun q h => .nil 1 h) h) hq
    | inl p =>
      refine tri_pu fun ⟨h1, hW2⟩ => tri_flat (tri_hit 0 rfl fun m sl b E ks hpb hE hks hkn hkl => ?_)
      subst hpb
      dsimp only [sel, rem, nth, del, cat, upd]
      refine tri_call [0, 1] (first_spec hp i hkn (by omega) (by omega)) fun _ => tri_ex fun s' => tri_flat ?_
      dsimp only [sel, rem, nth, del, cat, upd]
      refine tri_slotx 3 rfl fun bl hbl => ?_
      dsimp only [sel, rem, nth, del, cat, upd]
      refine tri_nn (tri_fl (tri_fl ?_))
      refine tri_read 0 rfl (a := ⟨bl.p, bl.len⟩) (fun h hg => ldL_eq hg rfl) ?_
      have hok := hW2.ok _ (List.mem_cons_self ..)
      refine tri_call [1] (own_clone (e := 1) (by' := 1) (by omega) (bytes_cell _) (by have : most = 70368744177664 := rfl; omega)) fun r => tri_flat ?_
      dsimp only [sel, rem, nth, del, cat, upd]
      refine tri_end [3, 4, 3, 2, 1, 1, 1, 0] fun q hq => ⟨h1.symm, ?_⟩
      rw [if_pos h1]
      unfold getCL
      rw [if_pos h1]
      dsimp only [sel, rem, nth, del, cat, upd] at hq
      refine ent_fold (l := [DiskA d (accD n room L D i), OwnA r 1 (bytesOf (getCX room L D i).s.b)]) [_, _, _, _, _, _] (fun q h => hit_fold (m := m) (sl := s') (b := b) hE hks hW2 ?_) hq
      exact ent_tail (fun q => ent_tail fun q => ent_tail fun q h => ent_fold (l := [SlotsA E]) [_, _] (fun q h => ⟨bl, hbl, h⟩) h) h

/-- What Put keeps. -/
def putX (L : List (Int × SlotS)) (i : Int) (bs : List UInt8) (t : Int) : SlotS := ⟨⟨bs, t⟩, true, match lookS L i with
  | some x => x.pins
  | none => 0⟩
def putCL (n : Nat) (room : Int) (L : List (Int × SlotS)) (i : Int) (bs : List UInt8) (t : Int) : List (Int × SlotS) := if getCE n room L i = 0 then (i, putX L i bs t) :: restC room L i else L

def rawC (v : MV × MV × MV × MV) (pins : Int) : List MV := [v.1, v.2.1, v.2.2.1, v.2.2.2, .int .i64 pins]
/-- As HitA, but the slot's block is as it is. -/
def HitB (c d : Nat) (room : Int) (i : Int) (pins : Int) (L' : List (Int × SlotS)) (D : DskS) (p : Option MA) : HA := exA fun y : (Nat × Sl × Nat × List Ent × List Int) × (MV × MV × MV × MV) =>
  pu (p = some ⟨y.1.2.2.1, 0⟩ ∧ y.1.2.2.2.1.map Ent.kx = L' ∧ y.1.2.2.2.2.filter (fun k => decide (k ≠ i)) = ekeys y.1.2.2.2.1 ∧ y.1.2.2.2.2.Nodup ∧ y.1.2.2.2.2.length ≤ 900)
    (stars [pts c (.cells (cacheC d room y.1.1 y.1.2.1) false), MapE y.1.1 (⟨i, y.1.2.2.1, ⟨zsec, false, 0⟩⟩ :: y.1.2.2.2.1), OwnA y.1.2.1 1 (ints y.1.2.2.2.2), pts y.1.2.2.1 (.cells (rawC y.2 pins) false), SlotsA y.1.2.2.2.1, DiskA d D])
theorem tri_hitb (k : Nat) {w : M β} {i pins : Int} {L' : List (Int × SlotS)} {p : Option MA} (hl : l[k]? = some (HitB c d room i pins L' D p)) (kk : ∀ m (sl : Sl) b (E : List Ent) (ks : List Int) v, p = some ⟨b, 0⟩ → E.map Ent.kx = L' → ks.filter (fun k => decide (k ≠ i)) = ekeys E → ks.Nodup → ks.length ≤ 900 →
    Tri (stars (pts c (.cells (cacheC d room m sl) false) :: MapE m (⟨i, b, ⟨zsec, false, 0⟩⟩ :: E) :: OwnA sl 1 (ints ks) :: pts b (.cells (rawC v pins) false) :: SlotsA E :: DiskA d D :: del l k)) w S) : Tri (stars l) w S :=
  tri_open (γ := (Nat × Sl × Nat × List Ent × List Int) × (MV × MV × MV × MV)) (φ := fun y => p = some ⟨y.1.2.2.1, 0⟩ ∧ y.1.2.2.2.1.map Ent.kx = L' ∧ y.1.2.2.2.2.filter (fun k => decide (k ≠ i)) = ekeys y.1.2.2.2.1 ∧ y.1.2.2.2.2.Nodup ∧ y.1.2.2.2.2.length ≤ 900)
    (L := fun y => [pts c (.cells (cacheC d room y.1.1 y.1.2.1) false), MapE y.1.1 (⟨i, y.1.2.2.1, ⟨zsec, false, 0⟩⟩ :: y.1.2.2.2.1), OwnA y.1.2.1 1 (ints y.1.2.2.2.2), pts y.1.2.2.1 (.cells (rawC y.2 pins) false), SlotsA y.1.2.2.2.1, DiskA d D]) k hl (fun _ ⟨x, h1, h2⟩ => ⟨x, h1, h2⟩)
    fun y h => kk y.1.1 y.1.2.1 y.1.2.2.1 y.1.2.2.2.1 y.1.2.2.2.2 y.2 h.1 h.2.1 h.2.2.1 h.2.2.2.1 h.2.2.2.2
theorem mape_x {i : Int} {b : Nat} {x y : SlotS} {E : List Ent} {q : PH} (h : MapE m (⟨i, b, x⟩ :: E) q) : MapE m (⟨i, b, y⟩ :: E) q := by
  obtain ⟨kvs, h1, h2⟩ := h
  exact ⟨kvs, fun k => h1 k, h2⟩
theorem hitb_of {i : Int} {x : SlotS} {L' : List (Int × SlotS)} {p : Option MA} {q : PH} (h : HitA c d room i x L' D p q) : ∃ q', HitB c d room i x.pins L' D p q' ∧ ∃ r, Disj q' r ∧ q = un q' r := by
  obtain ⟨⟨m, sl, b, E, ks⟩, hh, hq⟩ := h
  dsimp only at hh hq
  rw [stars_nth 3] at hq
  obtain ⟨q1, q2, ⟨bl, hbl, h1⟩, h2, d1, rfl⟩ := hq
  obtain ⟨q3, q4, h3, h4, d2, rfl⟩ := h1
  dsimp only [sel, rem, nth, del, cat, upd] at h2
  have d3 := disj_un.1 d1
  refine ⟨un q3 q2, ⟨((m, sl, b, E, ks), (.int .i64 i, .sl bl.p bl.len 1, .int .u16 x.s.t, .bool x.dirty)), hh, ?_⟩, q4, disj_un.2 ⟨d2, d3.2.symm⟩, ?_⟩
  · dsimp only
    rw [stars_nth 3]
    dsimp only [sel, rem, nth, del, cat, upd]
    exact ⟨q3, q2, h3, ent_tail (fun q h => ent_head (fun q h => mape_x h) h) h2, d3.1, rfl⟩
  · rw [un_comm (disj_un.2 ⟨d2, d3.2.symm⟩), un_comm d2, un_assoc]

theorem miss_cond {E : List Ent} {L : List (Int × SlotS)} (hE : E.map Ent.kx = L) (hW : WfE n room P L) {i : Int} (hi : lookS L i = none) : (ekeys E).filter (fun k => decide (k ≠ i)) = ekeys E ∧ (ekeys E).Nodup ∧ (ekeys E).length ≤ 900 := by
  have hk : (ekeys E).Nodup := by rw [← ekeys_kx, hE]; exact hW.nodup
  have hn : i ∉ ekeys E := by rw [← ekeys_kx, hE]; exact lookS_none.1 hi
  refine ⟨?_, hk, ?_⟩
  · rw [List.filter_eq_self.2]
    intro a ha
    simp
    rintro rfl
    exact hn ha
  · have h1 := hW.len
    have h2 := hW.most
    rw [← hE, List.length_map] at h1
    simp only [ekeys, List.length_map]
    omega

theorem put_spec (hp : plain = true) {L : List (Int × SlotS)} (i : Int) {bs : List UInt8} (t : Int) {s : Sl} (hbs : bs.length = 64) (hD : Live n D) (hd : D.done < 200000000000) (hN : 900 < N) (hP : 0 ≤ P) : Tri (stars [CacheA c d n room P L, DiskA d D, OwnA s 1 (bytesOf bs)]) (F_cache_Cache_Put N (some ⟨c, 0⟩) (i, s, t))
    fun r => pu (r = getCE n room L i) (stars [CacheA c d n room P (putCL n room L i bs t), DiskA d (accD n room L D i), OwnA s 1 (bytesOf bs)]) := by
  unfold F_cache_Cache_Put
  refine own_len 2 rfl fun hsl => ?_
  rw [bytes_len, hbs] at hsl
  have hs64 : s.len = 64 := by omega
  refine tri_call [0, 0] (may_spec i hD) fun r => tri_pu fun hr => tri_flat ?_
  dsimp only [sel, rem, nth, del, cat, upd]
  by_cases h0 : 0 ≤ i ∧ i < n
  case neg =>
    rw [if_neg h0] at hr
    subst hr
    have he : getCE n room L i = 1 := by unfold getCE; rw [if_neg h0]
    refine tri_t (by decide) (tri_end [0, 0, 0] fun q hq => ⟨he.symm, ?_⟩)
    unfold putCL accD
    rw [he, if_neg h0, if_neg (by decide)]
    exact hq
  rw [if_pos h0] at hr
  subst hr
  refine tri_f (by decide) (tri_f (by simp [hs64]) ?_)
  refine tri_cache 0 rfl fun m sl E hE hW => ?_
  dsimp only [sel, rem, nth, del, cat, upd]
  have hk : (ekeys E).Nodup := by rw [← ekeys_kx, hE]; exact hW.nodup
  refine tri_gM 0 rfl rfl (tri_mape 1 rfl i ?_)
  obtain ⟨y, hy, hcs⟩ := ptr_cases hE hk i
  rw [hy, dec_ptr]
  refine tri_some ?_
  -- both roads
  refine tri_call (Q := fun r : Option MA ⊕ Int => match r with
      | .inl p => pu (getCE n room L i = 0 ∧ WfE n room P ((i, putX L i bs t) :: restC room L i)) (stars [HitB c d room i (putX L i bs t).pins (restC room L i) (accD n room L D i) p])
      | .inr x => pu (x = getCE n room L i ∧ getCE n room L i ≠ 0 ∧ accD n room L D i = D) (stars [CacheA c d n room P L, DiskA d D])) [0, 0, 0, 0, 0] ?_ fun r => ?_
  · dsimp only [sel, rem, nth, del, cat, upd]
    rcases hcs with ⟨x, hl, j, hj, hj1, hj2, hj3, hj4⟩ | ⟨hl, hj4, hj3⟩
    · have he : getCE n room L i = 0 := by unfold getCE; rw [if_pos h0, hl]
      have hx : (putX L i bs t).pins = x.pins := by unfold putX; rw [hl]
      have ha : accD n room L D i = D := by unfold accD; rw [if_pos h0, hl]
      have hr : restC room L i = without L i := by unfold restC; rw [hl]
      have hm := lookS_mem hl
      refine tri_f (by rw [hj4]; decide) ?_
      refine Tri.pre (B := HitA c d room i x (restC room L i) D y) ?_ fun q hq => ?_
      · intro h q hq hh
        obtain ⟨q1, k1, q2, d1, rfl⟩ := hitb_of hq
        refine ⟨_, h, q1, rfl, ⟨⟨he, wfe_rest hW h0 he hbs (by rw [hx]; exact hW.pins _ hm)⟩, ?_⟩, ((has_un d1).1 hh).1, Nat.le_refl _, fun _ _ _ => rfl, fun b hb => .inl fun hc => hb (un_none.1 hc).1⟩
        rw [stars_one, hx, ha]
        exact k1
      · have := hit_of (c := c) (d := d) (D := D) (m := m) (sl := sl) hE hW hj hq
        rw [hj1, hj2] at this
        rw [hr, hj3]
        exact this
    · refine tri_t (by rw [hj4]; decide) ?_
      refine Tri.pre (B := stars [CacheA c d n room P L, DiskA d D]) ?_ fun q hq => ent_fold (l := [DiskA d D]) [_, _, _, _] (fun q h => by rw [← hE] at hW ⊢; exact cache_fold hW h) hq
      refine tri_call [0, 0] (place_spec hD (by omega) (by have := hW.most; omega)) fun r => tri_pu fun hr => tri_flat ?_
      dsimp only [sel, rem, nth, del, cat, upd]
      have hge : getCE n room L i = placeE room L := by unfold getCE; rw [if_pos h0, hl]
      have hga : accD n room L D i = placeD room L D := by unfold accD; rw [if_pos h0, hl]
      have hgx : (putX L i bs t).pins = 0 := by unfold putX; rw [hl]
      have hgr : restC room L i = placeL room L := by unfold restC; rw [hl]
      by_cases hpe : placeE room L = 0
      case neg =>
        refine tri_t (by rw [hr]; simpa using hpe) (tri_end [0, 0] fun q hq => ?_)
        have := place_full (D := D) hpe
        rw [this.2.1, this.2.2] at hq
        exact ⟨⟨by rw [hge, hr], by rw [hge]; exact hpe, by rw [hga]; exact this.2.2⟩, hq⟩
      refine tri_f (by rw [hr]; simpa using hpe) ?_
      refine tri_cache 0 rfl fun m sl E hE hW1 => ?_
      dsimp only [sel, rem, nth, del, cat, upd]
      refine tri_alloc fun sb => ?_
      refine tri_gM 1 rfl rfl ?_
      refine tri_mapep 2 rfl (L' := ⟨i, sb, ⟨zsec, false, 0⟩⟩ :: E) i _ (fun k' => ptrOf_new k') ?_
      dsimp only [sel, rem, nth, del, cat, upd]
      refine tri_end [2, 0, 1, 0, 0, 0] fun q hq => ?_
      dsimp only [sel, rem, nth, del, cat, upd] at hq
      have he : getCE n room L i = 0 := by rw [hge, hpe]
      have hW2 : WfE n room P ((i, putX L i bs t) :: restC room L i) := wfe_rest hW h0 he hbs (by rw [hgx]; exact ⟨by simp, hP⟩)
      refine ⟨⟨he, hW2⟩, ?_⟩
      rw [stars_one, hga, hgr, hgx]
      obtain ⟨g1, g2, g3⟩ := miss_cond hE hW1 (lookS_place hl)
      exact ⟨((m, sl, sb, E, ekeys E), (_, _, _, _)), ⟨rfl, hE, g1, g2, g3⟩, hq⟩
  · dsimp only [sel, rem, nth, del, cat, upd]
    cases r with
    | inr x =>
      refine tri_pu fun ⟨h1, h2, h3⟩ => tri_flat ?_
      subst h1
      refine tri_end [0, 0, 0] fun q hq => ⟨rfl, ?_⟩
      unfold putCL
      rw [if_neg h2, h3]
      exact hq
    | inl p =>
      refine tri_pu fun ⟨h1, hW2⟩ => tri_flat (tri_hitb 0 rfl fun m sl b E ks v hpb hE hks hkn hkl => ?_)
      subst hpb
      dsimp only [sel, rem, nth, del, cat, upd]
      refine tri_call [6] (own_clone (e := 1) (by' := 1) (by omega) (bytes_cell _) (by have : most = 70368744177664 := rfl; omega)) fun r => tri_flat ?_
      dsimp only [sel, rem, nth, del, cat, upd]
      refine own_len 0 rfl fun hrl => ?_
      rw [bytes_len, hbs] at hrl
      refine tri_nn (tri_fl (tri_stn 5 rfl rfl (Nat.le_of_ble_eq_true rfl) rfl ?_))
      dsimp only [sel, rem, nth, del, cat, upd]
      refine tri_sF 5 rfl ?_
      dsimp only [sel, rem, nth, del, cat, upd]
      refine tri_call [2, 3] (first_spec hp i hkn (by omega) (by omega)) fun _ => tri_ex fun s' => tri_flat ?_
      dsimp only [sel, rem, nth, del, cat, upd]
      refine tri_end [0, 3, 0, 2, 0, 1, 1, 0] fun q hq => ⟨h1.symm, ?_⟩
      unfold putCL
      rw [if_pos h1]
      dsimp only [sel, rem, nth, del, cat, upd] at hq
      refine ent_fold (l := [DiskA d (accD n room L D i), OwnA s 1 (bytesOf bs)]) [_, _, _, _, _, _] (fun q h => hit_fold (m := m) (sl := s') (b := b) hE hks hW2 ?_) hq
      exact ent_tail (fun q h => ent_head (fun q h => mape_x h) (ent_tail (fun q => ent_tail fun q h => ent_fold (l := [SlotsA E]) [_, _] (fun q h => ⟨r, by omega, h⟩) h) h)) h

/-- One slot is another one. -/
def updL (L : List (Int × SlotS)) (i : Int) (x : SlotS) : List (Int × SlotS) := L.map fun e => if e.1 = i then (e.1, x) else e
theorem updL_keys (L : List (Int × SlotS)) (i : Int) (x : SlotS) : (updL L i x).map (·.1) = L.map (·.1) := by
  unfold updL
  rw [List.map_map]
  apply List.map_congr_left
  intro e he
  dsimp only [Function.comp]
  split <;> rfl
theorem updL_mem {L : List (Int × SlotS)} {i : Int} {x : SlotS} {e : Int × SlotS} (h : e ∈ updL L i x) : (e.1 = i ∧ e.2 = x ∧ i ∈ L.map (·.1)) ∨ (e.1 ≠ i ∧ e ∈ L) := by
  unfold updL at h
  obtain ⟨y, hy, rfl⟩ := List.mem_map.1 h
  by_cases hi : y.1 = i
  · rw [if_pos hi]
    exact .inl ⟨hi, rfl, hi ▸ List.mem_map_of_mem hy⟩
  · rw [if_neg hi]
    exact .inr ⟨hi, hy⟩
theorem lookS_upd {L : List (Int × SlotS)} {i k : Int} {x : SlotS} : lookS (updL L i x) k = if k = i then (lookS L i).map (fun _ => x) else lookS L k := by
  induction L with
  | nil => unfold updL lookS; simp
  | cons e r ih =>
    unfold updL at ih ⊢
    rw [List.map_cons]
    by_cases h : e.1 = i
    · rw [if_pos h]
      unfold lookS
      dsimp only
      rw [ih]
      by_cases hk : k = i
      · subst hk
        rw [if_pos h.symm, if_pos rfl, if_pos h.symm]
        rfl
      · have hne : ¬ k = e.1 := fun c => hk (c.trans h)
        rw [if_neg hne, if_neg hne, if_neg hk, if_neg hk]
    · rw [if_neg h]
      unfold lookS
      rw [ih]
      by_cases hk : k = i
      · subst hk
        rw [if_neg (fun c => h c.symm), if_pos rfl, if_pos rfl, if_neg (fun c => h c.symm)]
      · rw [if_neg hk, if_neg hk]
theorem wfe_mono {P' : Int} {L : List (Int × SlotS)} (hW : WfE n room P L) (h : P ≤ P') (ht : P' ≤ 4611686018427387904) : WfE n room P' L :=
  ⟨hW.nodup, hW.rng, hW.ok, fun e he => ⟨(hW.pins e he).1, Int.le_trans (hW.pins e he).2 h⟩, hW.len, hW.most, ht⟩
theorem wfe_upd {P' : Int} {L : List (Int × SlotS)} (hW : WfE n room P L) (h : P ≤ P') (ht : P' ≤ 4611686018427387904) {i : Int} {x : SlotS} (hx : x.s.ok) (hp : 0 ≤ x.pins ∧ x.pins ≤ P') : WfE n room P' (updL L i x) where
  nodup := by rw [updL_keys]; exact hW.nodup
  rng := fun e he => by
    rcases updL_mem he with ⟨h1, _, h2⟩ | ⟨_, h1⟩
    · obtain ⟨y, hy, h3⟩ := List.mem_map.1 h2
      rw [h1, ← h3]
      exact hW.rng y hy
    · exact hW.rng e h1
  ok := fun e he => by
    rcases updL_mem he with ⟨_, h1, _⟩ | ⟨_, h1⟩
    · rw [h1]; exact hx
    · exact hW.ok e h1
  pins := fun e he => by
    rcases updL_mem he with ⟨_, h1, _⟩ | ⟨_, h1⟩
    · rw [h1]; exact hp
    · exact ⟨(hW.pins e h1).1, Int.le_trans (hW.pins e h1).2 h⟩
  len := by unfold updL; rw [List.length_map]; exact hW.len
  most := hW.most
  top := ht

theorem ptrOf_congr : ∀ {E E' : List Ent}, E.map (fun e => (e.k, e.b)) = E'.map (fun e => (e.k, e.b)) → ∀ k, ptrOf E k = ptrOf E' k
  | [], [], _, _ => rfl
  | [], _ :: _, h, _ => by cases h
  | _ :: _, [], h, _ => by cases h
  | e :: E, e' :: E', h, k => by
    simp only [List.map_cons, List.cons.injEq, Prod.mk.injEq] at h
    unfold ptrOf
    rw [h.1.1, h.1.2, ptrOf_congr h.2 k]
theorem map_set_same {α γ : Type} (f : α → γ) : ∀ (E : List α) (j : Nat) (hj : j < E.length) (y : α), f y = f E[j] → (E.set j y).map f = E.map f
  | _ :: _, 0, _, y, h => by simpa using h
  | x :: E, j + 1, hj, y, h => by
    rw [List.set_cons_succ, List.map_cons, List.map_cons, map_set_same f E j (by simpa using hj) y (by simpa using h)]
theorem set_kx : ∀ (E : List Ent) (j : Nat) (hj : j < E.length) (x : SlotS), (ekeys E).Nodup → (E.set j ⟨E[j].k, E[j].b, x⟩).map Ent.kx = updL (E.map Ent.kx) E[j].k x
  | e :: E, 0, _, x, hn => by
    unfold ekeys at hn
    rw [List.map_cons, List.nodup_cons] at hn
    simp only [List.set_cons_zero, List.map_cons, List.getElem_cons_zero, updL, Ent.kx, if_true]
    congr 1
    rw [List.map_map]
    apply List.map_congr_left
    intro y hy
    dsimp only [Function.comp]
    rw [if_neg]
    rintro h
    exact hn.1 (h ▸ List.mem_map_of_mem hy)
  | e :: E, j + 1, hj, x, hn => by
    unfold ekeys at hn
    rw [List.map_cons, List.nodup_cons] at hn
    have hj' : j < E.length := by simpa using hj
    have ih := set_kx E j hj' x hn.2
    simp only [List.set_cons_succ, List.map_cons, List.getElem_cons_succ, ih]
    unfold updL
    rw [List.map_cons, if_neg]
    rintro h
    have h' : e.k = E[j].k := h
    exact hn.1 (by rw [h']; exact List.mem_map_of_mem (List.getElem_mem hj'))
theorem perm_set {α : Type} : ∀ (E : List α) (j : Nat) (y : α), j < E.length → (E.set j y).Perm (y :: E.eraseIdx j)
  | _ :: _, 0, _, _ => .refl _
  | x :: E, j + 1, y, h => by
    rw [List.set_cons_succ, List.eraseIdx_cons_succ]
    exact ((perm_set E j y (by simpa using h)).cons x).trans (.swap y x _)

/-- A slot that was taken out is put back, turned. -/
theorem upd_fold {sl : Sl} {E : List Ent} {L : List (Int × SlotS)} (hE : E.map Ent.kx = L) (hk : (ekeys E).Nodup) {j : Nat} (hj : j < E.length) {x : SlotS} {P' : Int} (hW : WfE n room P' (updL L E[j].k x)) {q : PH}
    (h : stars [pts c (.cells (cacheC d room m sl) false), MapE m E, OwnA sl 1 (ints (ekeys E)), SlotA ⟨E[j].k, E[j].b, x⟩, SlotsA (E.eraseIdx j)] q) : CacheA c d n room P' (updL L E[j].k x) q := by
  have e := set_kx E j hj x hk
  rw [hE] at e
  have ek : ekeys (E.set j ⟨E[j].k, E[j].b, x⟩) = ekeys E := map_set_same _ E j hj _ rfl
  rw [← e] at hW ⊢
  refine cache_fold (m := m) (sl := sl) hW ?_
  rw [ek, slots_perm (perm_set E j _ hj), slots_cons]
  refine ent_tail (fun q h => ent_head (fun q ⟨kvs, h1, h2⟩ => ⟨kvs, fun k => ?_, h2⟩) (ent_tail (fun q h => ent_tail (fun q h => ?_) h) h)) h
  · rw [stars_one]
    exact h
  · rw [h1]
    exact ptrOf_congr (map_set_same _ E j hj ⟨E[j].k, E[j].b, x⟩ rfl).symm k

/-- Pin. -/
theorem pin_spec {L : List (Int × SlotS)} (i : Int) (hP : 0 ≤ P ∧ P < 1000000) : Tri (stars [CacheA c d n room P L]) (F_cache_Cache_Pin N (some ⟨c, 0⟩) i)
    fun r => pu (r = match lookS L i with | some _ => 0 | none => 2) (stars [CacheA c d n room (P + 1) (match lookS L i with | some x => updL L i { x with pins := x.pins + 1 } | none => L)]) := by
  unfold F_cache_Cache_Pin
  refine tri_cache 0 rfl fun m sl E hE hW => ?_
  dsimp only [sel, rem, nth, del, cat, upd]
  have hk : (ekeys E).Nodup := by rw [← ekeys_kx, hE]; exact hW.nodup
  obtain ⟨y, hy, hcs⟩ := ptr_cases hE hk i
  refine tri_call [0, 0, 0, 0] (Q := fun r : Bool => pu (r = y.isNone) (stars [pts c (.cells (cacheC d room m sl) false), MapE m E, OwnA sl 1 (ints (ekeys E)), SlotsA E])) ?_ fun r => tri_pu fun hr => tri_flat ?_
  · dsimp only [sel, rem, nth, del, cat, upd]
    refine tri_t (by simp) ?_
    refine tri_gM 0 rfl rfl (tri_mape 1 rfl i ?_)
    rw [hy, dec_ptr]
    exact tri_some (tri_end [0, 0, 0, 0] fun q hq => ⟨rfl, hq⟩)
  · dsimp only [sel, rem, nth, del, cat, upd]
    rcases hcs with ⟨x, hl, j, hj, hj1, hj2, hj3, hj4⟩ | ⟨hl, hj4, hj3⟩
    · rw [hl]
      refine tri_f (by rw [hr, hj3]; simp) ?_
      refine tri_gM 0 rfl rfl (tri_mape 1 rfl i ?_)
      rw [hy, dec_ptr]
      refine tri_some ?_
      rw [hj3]
      refine tri_slot 3 (perm_at hj) rfl ?_
      dsimp only [sel, rem, nth, del, cat, upd]
      refine tri_slotx 0 rfl fun bl hbl => ?_
      dsimp only [sel, rem, nth, del, cat, upd]
      refine tri_gI 0 rfl rfl (tri_sF 0 rfl ?_)
      have hm := lookS_mem hl
      have hpx := hW.pins _ hm
      dsimp only at hpx
      rw [hj2, wr64 (by omega) (by omega)]
      dsimp only [sel, rem, nth, del, cat, upd]
      refine tri_end [3, 3, 3, 0, 0, 0] fun q hq => ⟨rfl, ?_⟩
      dsimp only [sel, rem, nth, del, cat, upd] at hq
      rw [stars_one]
      have hW2 : WfE n room (P + 1) (updL L i { x with pins := x.pins + 1 }) := wfe_upd hW (by omega) (by omega) (hW.ok _ hm) (by dsimp only; omega)
      have := upd_fold (c := c) (d := d) (m := m) (sl := sl) hE hk hj (x := { x with pins := x.pins + 1 }) (P' := P + 1) (by rw [hj1]; exact hW2) (q := q) (by
        refine ent_tail (fun q => ent_tail fun q => ent_tail fun q h => ent_fold (l := [SlotsA (E.eraseIdx j)]) [_, _] (fun q h => ⟨bl, hbl, ?_⟩) h) hq
        subst hj2
        exact h)
      rwa [hj1] at this
    · rw [hl]
      refine tri_t (by rw [hr, hj3]; rfl) (tri_end [0, 0, 0, 0] fun q hq => ⟨rfl, ?_⟩)
      rw [stars_one]
      rw [← hE] at hW ⊢
      exact cache_fold (wfe_mono hW (by omega) (by omega)) hq

/-- Unpin. -/
def canUnpin (L : List (Int × SlotS)) (i : Int) : Option SlotS := match lookS L i with
  | some x => if x.pins = 0 then none else some x
  | none => none
theorem unpin_spec {L : List (Int × SlotS)} (i : Int) (hP : 0 ≤ P ∧ P < 1000000) : Tri (stars [CacheA c d n room P L]) (F_cache_Cache_Unpin N (some ⟨c, 0⟩) i)
    fun r => pu (r = match canUnpin L i with | some _ => 0 | none => 2) (stars [CacheA c d n room P (match canUnpin L i with | some x => updL L i { x with pins := x.pins - 1 } | none => L)]) := by
  unfold F_cache_Cache_Unpin
  refine tri_cache 0 rfl fun m sl E hE hW => ?_
  dsimp only [sel, rem, nth, del, cat, upd]
  have hk : (ekeys E).Nodup := by rw [← ekeys_kx, hE]; exact hW.nodup
  obtain ⟨y, hy, hcs⟩ := ptr_cases hE hk i
  refine tri_call [0, 0, 0, 0] (Q := fun r : Bool => pu (r = y.isNone) (stars [pts c (.cells (cacheC d room m sl) false), MapE m E, OwnA sl 1 (ints (ekeys E)), SlotsA E])) ?_ fun r => tri_pu fun hr => tri_flat ?_
  · dsimp only [sel, rem, nth, del, cat, upd]
    refine tri_t (by simp) ?_
    refine tri_gM 0 rfl rfl (tri_mape 1 rfl i ?_)
    rw [hy, dec_ptr]
    exact tri_some (tri_end [0, 0, 0, 0] fun q hq => ⟨rfl, hq⟩)
  · dsimp only [sel, rem, nth, del, cat, upd]
    rcases hcs with ⟨x, hl, j, hj, hj1, hj2, hj3, hj4⟩ | ⟨hl, hj4, hj3⟩
    · have hm := lookS_mem hl
      have hpx := hW.pins _ hm
      dsimp only at hpx
      have back : ∀ q bl, bl.len = 64 → stars [pts c (.cells (cacheC d room m sl) false), MapE m E, OwnA sl 1 (ints (ekeys E)), pts E[j].b (.cells (slotC E[j] bl) false), OwnA bl 1 (bytesOf E[j].x.s.b), SlotsA (E.eraseIdx j)] q → stars [pts c (.cells (cacheC d room m sl) false), MapE m E, OwnA sl 1 (ints (ekeys E)), SlotsA E] q := fun q bl hbl hq => by
        refine ent_tail (fun q => ent_tail fun q => ent_tail fun q hq => ?_) hq
        rw [slots_perm (perm_at hj), slots_cons, stars_one]
        exact ent_fold (l := [SlotsA (E.eraseIdx j)]) [_, _] (fun q h => ⟨bl, hbl, h⟩) hq
      refine tri_call [0, 0, 0, 0] (Q := fun r : Bool => pu (r = decide (x.pins = 0)) (stars [pts c (.cells (cacheC d room m sl) false), MapE m E, OwnA sl 1 (ints (ekeys E)), SlotsA E])) ?_ fun r => tri_pu fun hr2 => tri_flat ?_
      · dsimp only [sel, rem, nth, del, cat, upd]
        refine tri_t (by rw [hr, hj3]; rfl) ?_
        refine tri_gM 0 rfl rfl (tri_mape 1 rfl i ?_)
        rw [hy, dec_ptr]
        refine tri_some ?_
        rw [hj3]
        refine tri_slot 3 (perm_at hj) rfl ?_
        dsimp only [sel, rem, nth, del, cat, upd]
        refine tri_slotx 0 rfl fun bl hbl => ?_
        dsimp only [sel, rem, nth, del, cat, upd]
        refine tri_gI 0 rfl rfl ?_
        refine tri_end [3, 3, 3, 0, 0, 0] fun q hq => ⟨by rw [hj2], back q bl hbl hq⟩
      · dsimp only [sel, rem, nth, del, cat, upd]
        unfold canUnpin
        rw [hl]
        dsimp only
        by_cases h0 : x.pins = 0
        · rw [if_pos h0]
          refine tri_t (by rw [hr2]; simpa using h0) (tri_end [0, 0, 0, 0] fun q hq => ⟨rfl, ?_⟩)
          rw [stars_one]
          rw [← hE] at hW ⊢
          exact cache_fold hW hq
        · rw [if_neg h0]
          refine tri_f (by rw [hr2]; simpa using h0) ?_
          refine tri_gM 0 rfl rfl (tri_mape 1 rfl i ?_)
          rw [hy, dec_ptr]
          refine tri_some ?_
          rw [hj3]
          refine tri_slot 3 (perm_at hj) rfl ?_
          dsimp only [sel, rem, nth, del, cat, upd]
          refine tri_slotx 0 rfl fun bl hbl => ?_
          dsimp only [sel, rem, nth, del, cat, upd]
          refine tri_gI 0 rfl rfl (tri_sF 0 rfl ?_)
          rw [hj2, wr64 (by omega) (by omega)]
          dsimp only [sel, rem, nth, del, cat, upd]
          refine tri_end [3, 3, 3, 0, 0, 0] fun q hq => ⟨rfl, ?_⟩
          dsimp only [sel, rem, nth, del, cat, upd] at hq
          rw [stars_one]
          have hW2 : WfE n room P (updL L i { x with pins := x.pins - 1 }) := wfe_upd hW (by omega) (by omega) (hW.ok _ hm) (by dsimp only; omega)
          have := upd_fold (c := c) (d := d) (m := m) (sl := sl) hE hk hj (x := { x with pins := x.pins - 1 }) (P' := P) (by rw [hj1]; exact hW2) (q := q) (by
            refine ent_tail (fun q => ent_tail fun q => ent_tail fun q h => ent_fold (l := [SlotsA (E.eraseIdx j)]) [_, _] (fun q h => ⟨bl, hbl, ?_⟩) h) hq
            subst hj2
            exact h)
          rwa [hj1] at this
    · have hcu : canUnpin L i = none := by unfold canUnpin; rw [hl]
      rw [hcu]
      refine tri_call [0, 0, 0, 0] (Q := fun r : Bool => pu (r = true) (stars [pts c (.cells (cacheC d room m sl) false), MapE m E, OwnA sl 1 (ints (ekeys E)), SlotsA E])) ?_ fun r => tri_pu fun hr2 => tri_flat ?_
      · dsimp only [sel, rem, nth, del, cat, upd]
        refine tri_f (by rw [hr, hj3]; simp) (tri_end [0, 0, 0, 0] fun q hq => ⟨rfl, hq⟩)
      · dsimp only [sel, rem, nth, del, cat, upd]
        refine tri_t hr2 (tri_end [0, 0, 0, 0] fun q hq => ⟨rfl, ?_⟩)
        rw [stars_one]
        rw [← hE] at hW ⊢
        exact cache_fold hW hq

/-- Has. -/
theorem has_raw {ks : List Int} (hk : ks.length < 1000000) : Tri (stars [pts c (.cells (cacheC d room m s) false), OwnA s 1 (ints ks)]) (F_cache_Cache_Has N (some ⟨c, 0⟩))
    fun r => star (stars [pts c (.cells (cacheC d room m s) false), OwnA s 1 (ints ks)]) (OwnA r 1 (ints ks)) := by
  unfold F_cache_Cache_Has
  refine tri_gL 0 rfl rfl ?_
  refine own_lenI 1 rfl fun hs => ?_
  refine tri_call [1] (own_clone (e := 1) (by' := 8) (by omega) (ints_cell _) (by have : most = 70368744177664 := rfl; omega)) fun r => tri_flat ?_
  dsimp only [sel, rem, nth, del, cat, upd]
  refine tri_end [2, 1, 0] fun q hq => ?_
  have := stars_append [pts c (.cells (cacheC d room m s) false), OwnA s 1 (ints ks)] [OwnA r 1 (ints ks)]
  rw [stars_one] at this
  rw [← this]
  exact hq
theorem has_gen {w : M Sl} (raw : ∀ m (s : Sl) (ks : List Int), ks.length < 1000000 → Tri (stars [pts c (.cells (cacheC d room m s) false), OwnA s 1 (ints ks)]) w fun r => star (stars [pts c (.cells (cacheC d room m s) false), OwnA s 1 (ints ks)]) (OwnA r 1 (ints ks))) {L : List (Int × SlotS)} : Tri (stars [CacheA c d n room P L]) w fun r => stars [CacheA c d n room P L, OwnA r 1 (ints (L.map (·.1)))] := by
  refine tri_cache 0 rfl fun m sl E hE hW => ?_
  dsimp only [sel, rem, nth, del, cat, upd]
  have hl : (ekeys E).length < 1000000 := by
    have h1 := hW.len
    have h2 := hW.most
    rw [ekeys_len, hE]
    omega
  have hek : L.map (·.1) = ekeys E := by rw [← hE, ekeys_kx]
  rw [hek]
  rw [stars_sel [0, 1]]
  refine ((raw m sl _ hl).frame _).post fun r q hq => ?_
  dsimp only [sel, rem, nth, del, cat, upd] at hq
  obtain ⟨q1, q2, ⟨q3, q4, k1, k2, d1, rfl⟩, k3, d2, rfl⟩ := hq
  have : stars [pts c (.cells (cacheC d room m sl) false), OwnA sl 1 (ints (ekeys E)), OwnA r 1 (ints (ekeys E)), MapE m E, SlotsA E] (un (un q3 q4) q2) := by
    have e1 := stars_append [pts c (.cells (cacheC d room m sl) false), OwnA sl 1 (ints (ekeys E))] [OwnA r 1 (ints (ekeys E))]
    rw [stars_one] at e1
    have e2 := stars_append ([pts c (.cells (cacheC d room m sl) false), OwnA sl 1 (ints (ekeys E))] ++ [OwnA r 1 (ints (ekeys E))]) [MapE m E, SlotsA E]
    show stars (([pts c (.cells (cacheC d room m sl) false), OwnA sl 1 (ints (ekeys E))] ++ [OwnA r 1 (ints (ekeys E))]) ++ [MapE m E, SlotsA E]) _
    rw [e2, e1]
    exact ⟨_, _, ⟨q3, q4, k1, k2, d1, rfl⟩, k3, d2, rfl⟩
  have this := ent_sel [0, 2, 0, 1, 0] this
  exact ent_fold (l := [OwnA r 1 (ints (ekeys E))]) [_, _, _, _] (fun q h => by rw [← hE] at hW ⊢; exact cache_fold hW h) this

theorem has_spec {L : List (Int × SlotS)} : Tri (stars [CacheA c d n room P L]) (F_cache_Cache_Has N (some ⟨c, 0⟩)) fun r => stars [CacheA c d n room P L, OwnA r 1 (ints (L.map (·.1)))] := has_gen fun _ _ _ h => has_raw h
theorem has_frz {L : List (Int × SlotS)} : Tri (stars [CacheA c d n room P L]) (frz (F_cache_Cache_Has N (some ⟨c, 0⟩))) fun r => stars [CacheA c d n room P L, OwnA r 1 (ints (L.map (·.1)))] :=
  has_gen fun m s ks h => tri_frzx (exact_stars fun A hA => by
    simp only [List.mem_cons, List.not_mem_nil, or_false] at hA
    rcases hA with rfl | rfl
    · exact exact_pts _ _
    · exact exact_own) (has_raw h)

theorem cache_new (d : Nat) (n : Nat) {room : Int} (h : 1 ≤ room ∧ room ≤ 900) : Tri (stars []) (F_cache_New N (some ⟨d, 0⟩) room) fun r => exA fun c => pu (r = (some ⟨c, 0⟩, 0)) (stars [CacheA c d n room 0 []]) := by
  unfold F_cache_New
  refine tri_f (by simp) (tri_f (by simp; omega) ?_)
  refine tri_mk .i64 fun m => ?_
  refine tri_alloc fun c => ?_
  refine tri_end [0, 0] fun q hq => ⟨c, rfl, ?_⟩
  dsimp only [sel, rem, nth, del, cat, upd] at hq
  rw [stars_one]
  refine cache_fold (L := []) (m := m) (sl := ⟨none, 0⟩) ⟨List.nodup_nil, fun _ h => (by cases h), fun _ h => (by cases h), fun _ h => (by cases h), by simp; omega, h, by decide⟩ ?_
  refine ent_tail (fun q h => ent_head (fun q h => ⟨[], fun _ => rfl, h⟩) (ent_tail (fun q h => ?_) h)) hq
  refine ent_emp (fun q h => .nil 1 h) ?_
  refine ent_emp (fun q h => h) h
end
end Go.Moat
