/- Layer 16: bytes are written. -/
import Derived.Test.YtfieiaijdalkbaaGreatP16u
namespace Go.Moat
open Go.Mini
section
variable {g : Geo} {m : MetaS} {a k n i : Nat} {x : Ino}
theorem alloc_ino (g : Geo) (m : MetaS) (a : Nat) : (m.alloc g a).2.ino = m.ino := by
 unfold MetaS.alloc
 split
 ·rfl
 ·split
  ·rfl
  ·split <;> rfl
theorem allocN_ino (g : Geo) (a : Nat) : ∀ (n : Nat) (m : MetaS), (allocN g a n m).ino = m.ino
 | 0, m => rfl
 | n + 1, m => by rw [allocN, allocN_ino g a n, alloc_ino]
theorem alloc_set (g : Geo) (m : MetaS) (i : Nat) (x : Ino) (a : Nat) : (m.set i x).alloc g a = ((m.alloc g a).1, (m.alloc g a).2.set i x) := by
 have e : (m.set i x).atB g a = m.atB g a := rfl
 unfold MetaS.alloc
 rw [e]
 show (match m.atB g a with | some b => _ | none => (match m.own.findIdx? isNone0 with | none => _ | some k => if retE m.rows a = 0 then _ else _)) = _
 cases m.atB g a with
 | some b => rfl
 | none =>
  dsimp only
  cases m.own.findIdx? isNone0 with
  | none => rfl
  | some k =>
   dsimp only
   by_cases h : retE m.rows a = 0
   ·rw [if_pos h, if_pos h]; rfl
   ·rw [if_neg h, if_neg h]; rfl
theorem allocN_set (g : Geo) (i : Nat) (x : Ino) (a : Nat) : ∀ (n : Nat) (m : MetaS), allocN g a n (m.set i x) = (allocN g a n m).set i x
 | 0, m => rfl
 | n + 1, m => by rw [allocN, alloc_set, allocN, allocN_set g i x a n]
def Room (g : Geo) (a k : Nat) (m : MetaS) : Prop := ∀ j, j < k → ((allocN g a j m).alloc g a).1.2 = 0
theorem Room.le {k' : Nat} (h : Room g a k m) (hk : k' ≤ k) : Room g a k' m := fun j hj => h j (by omega)
theorem Room.step {k' : Nat} (h : Room g a k m) (hk : n + k' ≤ k) : Room g a k' (allocN g a n m) := fun j hj => by
 rw [← allocN_add]
 exact h _ (by omega)
theorem Room.set (h : Room g a k m) : Room g a k (m.set i x) := fun j hj => by
 rw [allocN_set, alloc_set]
 exact h j hj
end
def fb (g : Geo) (V : VolS) (T : Tree) (i x : Nat) : UInt8 := (bk g V (T i (lf (x / 64))))[x % 64]?.getD 0
def overB (X : List UInt8) (f : Nat) (Y : List UInt8) : List UInt8 := X.take f ++ Y ++ X.drop (f + Y.length)
theorem overB_bytes (X : List UInt8) (f : Nat) (Y : List UInt8) : over (bytesOf X) f (bytesOf Y) = bytesOf (overB X f Y) := by
 unfold over overB bytesOf
 simp [List.map_take, List.map_drop]
theorem overB_len {X : List UInt8} {f : Nat} {Y : List UInt8} (h : f + Y.length ≤ X.length) : (overB X f Y).length = X.length := by
 unfold overB
 simp
 omega
theorem overB_get {X : List UInt8} {f : Nat} {Y : List UInt8} (h : f + Y.length ≤ X.length) (j : Nat) : (overB X f Y)[j]?.getD 0 = if f ≤ j ∧ j < f + Y.length then Y[j - f]?.getD 0 else X[j]?.getD 0 := by
 unfold overB
 have l1 : (X.take f).length = f := by rw [List.length_take]; omega
 by_cases h1 : j < f
 ·rw [if_neg (by omega), List.append_assoc, List.getElem?_append_left (by omega), List.getElem?_take, if_pos h1]
 ·by_cases h2 : j < f + Y.length
  ·rw [if_pos ⟨by omega, h2⟩, List.append_assoc, List.getElem?_append_right (by omega), l1, List.getElem?_append_left (by omega)]
  ·rw [if_neg (by omega), List.getElem?_append_right (by rw [List.length_append]; omega), List.length_append, l1, List.getElem?_drop]
   congr 2
   omega
section
variable {g : Geo} {V : VolS} {T : Tree} {ii k : Nat}
theorem fb_write (fs : FS g V T T) (hz : T ii (lf k) ≠ 0) (bs : List UInt8) (j x : Nat) : fb g (V.write g (T ii (lf k) - 1) bs) T j x = if j = ii ∧ x / 64 = k then bs[x % 64]?.getD 0 else fb g V T j x := by
 unfold fb
 rw [bk_write fs hz]
 by_cases e : j = ii ∧ x / 64 = k
 ·rw [if_pos ⟨e.1, by rw [e.2]⟩, if_pos e]
 ·rw [if_neg fun h => e ⟨h.1, lf_inj h.2⟩, if_neg e]
end
structure WInv (g : Geo) (V : VolS) (T : Tree) (n : Ino) (ii a at' : Nat) (bs : List UInt8) (done c : Nat) (V1 : VolS) (T1 : Tree) (n1 : Ino) : Prop where
 fs : FS g V1 T1 T1
 roots : Roots n1 (T1 ii)
 same : ∀ j s, j ≠ ii → T1 j s = T j s
 keep : ∀ s, T ii s ≠ 0 → T1 ii s = T ii s
 nz : ∀ s, T1 ii s ≠ 0 ↔ T ii s ≠ 0 ∨ ∃ k, at' / 64 ≤ k ∧ 64 * k < at' + done ∧ 0 < done ∧ s ∈ chainK k
 fb : ∀ j x, fb g V1 T1 j x = if j = ii ∧ at' ≤ x ∧ x < at' + done then bs[x - at']?.getD 0 else fb g V T j x
 al : ∃ u, u ≤ 3 * c ∧ V1.n.m = allocN g a u V.n.m
 kp : Keeps V V1
 node : n1.k = n.k ∧ n1.r = n.r ∧ n1.at 0 = n.at 0 ∧ n1.at 1 = n.at 1
 cnt : (done = 0 ∧ c = 0) ∨ (done = bs.length ∧ 64 * c ≤ at' % 64 + done + 63) ∨ ((at' + done) % 64 = 0 ∧ 64 * c = at' % 64 + done)
section
variable {N : Nat} {β : Type} {l : List HA} {S : β → HA} {v d o : Nat} {g : Geo} {V V1 : VolS} {T T1 : Tree} {ii a at' done c : Nat} {i : Int} {n n1 : Ino} {bs : List UInt8} {Tb : HA}
theorem winv_step (h : WInv g V T n ii a at' bs done c V1 T1 n1) {V2 : VolS} {T2 : Tree} {n2 : Ino} {k f mm : Nat} (hd : done < bs.length) (hk : k = (at' + done) / 64) (hf : f = (at' + done) % 64) (hm : mm = min (bs.length - done) (64 - f)) (hk60 : k < 60)
  (M : Made g V1 T1 ii k a V2 T2) (hn2 : n2 = n1.put (wayO k - 4) (T2 ii (rs k) : Nat)) (hr2 : Roots n2 (T2 ii)) :
  WInv g V T n ii a at' bs (done + mm) (c + 1) (V2.write g (T2 ii (lf k) - 1) (overB (bk g V2 (T2 ii (lf k))) f ((bs.drop done).take mm))) T2 n2 := by
 have hz : T2 ii (lf k) ≠ 0 := (M.nz _).2 (.inr (lf_mem hk60))
 have hl64 := bk_len M.fs ii (lf k)
 have hlen : ((bs.drop done).take mm).length = mm := by rw [List.length_take, List.length_drop]; omega
 have hO := wayO_lt hk60
 refine ⟨M.fs.leaf (lf_dep0 k) hz (by rw [overB_len (by omega)]; exact hl64), hr2, fun j s hj => by rw [M.same j s hj, h.same j s hj], fun s hs => by rw [M.keep s (by rw [h.keep s hs]; exact hs), h.keep s hs], fun s => ?_, fun j x => ?_, ?_, (h.kp.trans M.kp).trans (keeps_write _ _ _), ?_, ?_⟩
 ·rw [M.nz, h.nz, or_assoc]
  refine or_congr Iff.rfl ⟨?_, ?_⟩
  ·rintro (⟨k', h1, h2, h3, h4⟩ | h1)
   ·exact ⟨k', h1, by omega, by omega, h4⟩
   ·exact ⟨k, by omega, by omega, by omega, h1⟩
  ·rintro ⟨k', h1, h2, h3, h4⟩
   by_cases e : k' = k
   ·subst e; exact .inr h4
   ·exact .inl ⟨k', h1, by omega, by omega, h4⟩
 ·rw [fb_write M.fs hz, overB_get (by omega), hlen]
  have e1 : Go.Moat.fb g V2 T2 j x = Go.Moat.fb g V1 T1 j x := by
   unfold Go.Moat.fb
   rw [M.bk j _ (lf_dep0 _)]
  have e2 := h.fb j x
  by_cases hj : j = ii
  ·subst hj
   by_cases hx : x / 64 = k
   ·rw [if_pos ⟨rfl, hx⟩]
    by_cases hin : f ≤ x % 64 ∧ x % 64 < f + mm
    ·rw [if_pos hin, if_pos ⟨rfl, by omega, by omega⟩, List.getElem?_take, if_pos (by omega), List.getElem?_drop]
     congr 2
     omega
    ·rw [if_neg hin]
     have e3 : (Go.Moat.bk g V2 (T2 j (lf k)))[x % 64]?.getD 0 = Go.Moat.fb g V2 T2 j x := by unfold Go.Moat.fb; rw [hx]
     rw [e3, e1, e2]
     by_cases h3 : at' ≤ x ∧ x < at' + done
     ·rw [if_pos ⟨rfl, h3⟩, if_pos ⟨rfl, by omega, by omega⟩]
     ·rw [if_neg fun y => h3 y.2, if_neg]
      rintro ⟨_, y1, y2⟩
      omega
   ·rw [if_neg fun y => hx y.2, e1, e2]
    by_cases h3 : at' ≤ x ∧ x < at' + done
    ·rw [if_pos ⟨rfl, h3⟩, if_pos ⟨rfl, by omega, by omega⟩]
    ·rw [if_neg fun y => h3 y.2, if_neg]
     rintro ⟨_, y1, y2⟩
     omega
  ·rw [if_neg fun y => hj y.1, e1, e2, if_neg fun y => hj y.1, if_neg fun y => hj y.1]
 ·obtain ⟨u1, h1, e1⟩ := h.al
  obtain ⟨u2, h2, e2⟩ := M.al
  exact ⟨u1 + u2, by omega, by rw [allocN_add, ← e1]; exact e2⟩
 ·obtain ⟨h1, h2, h3, h4⟩ := h.node
  subst hn2
  refine ⟨h1, h2, ?_, ?_⟩
  ·rw [Ino.put_at _ hO.2.1, if_neg (by omega), h3]
  ·rw [Ino.put_at _ hO.2.1, if_neg (by omega), h4]
 ·rcases h.cnt with h1 | h1 | h1 <;> omega
theorem write_loop (hg : g.ok) (ha : a < 65536) (hN : 5000 < N) (hmax : at' + bs.length ≤ 3840) (hroom : Room g a (3 * ((at' % 64 + bs.length + 63) / 64)) V.n.m) :
  ∀ (K done c : Nat) (V1 : VolS) (T1 : Tree) (n1 : Ino) (rest : Sl), bs.length - done < K → done ≤ bs.length → WInv g V T n ii a at' bs done c V1 T1 n1 → RdC Tb rest 1 (bytesOf (bs.drop done)) →
  Tri (stars [VolA v d g V1, pts o (.cells (openC v i n1 a) false), Tb]) (iter K (F_4a N (some ⟨v, 0⟩) (some ⟨o, 0⟩, 0)) (((at' + done : Nat) : Int), rest)) fun r => exA fun x : VolS × Tree × Ino × Nat => pu (r = .inl ((at' + bs.length : Nat) : Int) ∧ WInv g V T n ii a at' bs bs.length x.2.2.2 x.1 x.2.1 x.2.2.1) (stars [VolA v d g x.1, pts o (.cells (openC v i x.2.2.1 a) false), Tb]) := by
 intro K
 induction K with
 | zero => intro done c V1 T1 n1 rest h; omega
 | succ K ih =>
  intro done c V1 T1 n1 rest hK hdl h hr
  have hrl := bl_len hr
  rw [List.length_drop] at hrl
  rw [iter_S]
  unfold F_4a
  by_cases hd : done < bs.length
  case neg =>
   obtain rfl : done = bs.length := by omega
   exact tri_f (by simp; omega) (tri_end [0, 0, 0] fun q hq => ⟨(V1, T1, n1, c), ⟨rfl, h⟩, hq⟩)
  refine tri_t (by simp; omega) ?_
  have ek : wr .i64 (((at' + done : Nat) : Int).tdiv 64) = (((at' + done) / 64 : Nat) : Int) := by
   have e1 : ((at' + done : Nat) : Int).tdiv 64 = (((at' + done) / 64 : Nat) : Int) := rfl
   rw [e1, wr64 (by omega) (by omega)]
  have ef : ((at' + done : Nat) : Int).tmod 64 = (((at' + done) % 64 : Nat) : Int) := rfl
  dsimp only
  rw [ek, ef]
  obtain ⟨k, hk⟩ : ∃ k, k = (at' + done) / 64 := ⟨_, rfl⟩
  obtain ⟨f, hf⟩ : ∃ f, f = (at' + done) % 64 := ⟨_, rfl⟩
  obtain ⟨mm, hm⟩ : ∃ mm, mm = min (bs.length - done) (64 - f) := ⟨_, rfl⟩
  rw [← hk, ← hf]
  have hk60 : k < 60 := by omega
  refine tri_call [0, 0] (make_spec (ii := ii) hg ha hN h.fs h.roots hk60) fun r8 => tri_ex fun x => tri_pu fun h8 => tri_flat ?_
  obtain ⟨V2, T2, n2⟩ := x
  dsimp only [sel, rem, nth, del, cat, upd]
  by_cases h80 : r8.2 = 0
  case neg =>
   have F : Fell g V1 T1 T1 (chainK k) a V2 := h8.2 h80
   obtain ⟨u1, h1, e1⟩ := h.al
   obtain ⟨u2, h2, e2, e3⟩ := F.al
   have h3 := wayP_len k
   rw [e1, ← allocN_add] at e2
   rw [e2] at e3
   refine absurd (hroom (u1 + u2) ?_) e3
   rcases h.cnt with h4 | h4 | h4 <;> omega
  obtain ⟨e8, M, hn2, hr2⟩ := h8.1 h80
  have e8 : r8.1 = (T2 ii (lf k) : Nat) := e8
  have M : Made g V1 T1 ii k a V2 T2 := M
  have W := winv_step h hd hk hf hm hk60 M hn2 hr2
  have hz : T2 ii (lf k) ≠ 0 := (M.nz _).2 (.inr (lf_mem hk60))
  have hle := M.fs.le ii (lf k)
  have hnum := M.fs.num hg ii (lf k)
  have hl64 := bk_len M.fs ii (lf k)
  have ebk : bk g V2 (T2 ii (lf k)) = V2.readB g ((T2 ii (lf k) - 1 : Nat) : Int) := by unfold bk; rw [if_neg hz]
  refine tri_f (by simp [h80]) ?_
  have ep : wr .i64 (r8.1 - 1) = ((T2 ii (lf k) - 1 : Nat) : Int) := by
   rw [e8, wr64 (by omega) (by omega)]
   omega
  rw [ep]
  have hre := M.fs.ok.re (T2 ii (lf k) - 1) (by omega)
  refine tri_call [0] (vread_spec hg _) fun r9 => tri_pu fun h9 => tri_flat ?_
  rw [hre] at h9
  rw [if_pos hre, ← ebk]
  dsimp only [sel, rem, nth, del, cat, upd]
  refine tri_f (by simp [h9]) ?_
  obtain ⟨s9, e9⟩ := r9
  dsimp only [sel, rem, nth, del, cat, upd]
  refine tri_own 1 rfl (fun _ h0 => ?_) fun b9 ln9 h0 hl9 => ?_
  ·have := congrArg List.length h0
   rw [bytes_len, hl64] at this
   simp at this
  subst h0
  rw [bytes_len, hl64] at hl9
  obtain rfl : ln9 = 64 := by omega
  refine tri_slc (by omega) (by simp; omega) (by simp) ?_
  rw [Int.toNat_natCast, Int.toNat_natCast]
  have es : subS 1 (⟨some ⟨b9, 0⟩, 64⟩ : Sl) f 64 = ⟨some ⟨b9, f⟩, 64 - f⟩ := by
   unfold subS
   simp [MA.add]
  rw [es]
  refine tri_call [1, 2] (rd_copy (o := f) (k := 64 - f) hr (by rw [bytes_len, hl64]; omega) (bytes_cell _) (by omega)) fun n11 => tri_pu fun h11 => tri_flat ?_
  have e11 : min rest.len (64 - f) = mm := by omega
  rw [e11] at h11 ⊢
  rw [h11]
  have eo : over (bytesOf (bk g V2 (T2 ii (lf k)))) f ((bytesOf (bs.drop done)).take (mm * 1)) = bytesOf (overB (bk g V2 (T2 ii (lf k))) f ((bs.drop done).take mm)) := by
   rw [Nat.mul_one, ← overB_bytes]
   congr 1
   unfold bytesOf
   rw [List.map_take]
  rw [eo]
  have hlen : ((bs.drop done).take mm).length = mm := by rw [List.length_take, List.length_drop]; omega
  have hX : (overB (bk g V2 (T2 ii (lf k))) f ((bs.drop done).take mm)).length = 64 := by rw [overB_len (by omega)]; exact hl64
  have hw : V2.writeE g ((T2 ii (lf k) - 1 : Nat) : Int) (overB (bk g V2 (T2 ii (lf k))) f ((bs.drop done).take mm)) = 0 := by
   unfold VolS.writeE MetaS.usedE
   rw [if_pos hX, if_pos (by omega), Int.toNat_natCast, if_pos (M.fs.used ii _ hz)]
  refine tri_call [2, 0] (vWrite_spec hg M.fs.ok.inv.ok _ (s := ⟨some ⟨b9, 0⟩, 64⟩) (rd_pts0 (by rw [bytes_len, hX])) (by omega)) fun r12 => tri_pu fun h12 => tri_flat ?_
  rw [hw] at h12
  rw [if_pos hw, Int.toNat_natCast]
  dsimp only [sel, rem, nth, del, cat, upd]
  refine tri_f (by simp [h12]) ?_
  refine tri_slc (by omega) (by omega) (by omega) ?_
  rw [Int.toNat_natCast, Int.toNat_natCast]
  have er : wr .i64 (((at' + done : Nat) : Int) + (mm : Nat)) = ((at' + (done + mm) : Nat) : Int) := by
   rw [wr64 (by omega) (by omega)]
   omega
  rw [er]
  have hr' : RdC Tb (subS 1 rest mm rest.len) 1 (bytesOf (bs.drop (done + mm))) := by
   have := rd_subB hr (lo := mm) (hi := rest.len) (by omega) (by omega)
   rw [List.drop_drop, List.take_of_length_le (by rw [List.length_drop]; omega)] at this
   exact this
  exact tri_last [0, 2, 1] (ih (done + mm) (c + 1) _ T2 n2 _ (by omega) (by omega) W hr')
end
end Go.Moat

/- Layer 16: Write. -/
namespace Go.Moat
open Go.Mini
structure FV (g : Geo) (V : VolS) (T : Tree) : Prop where
 fs : FS g V T T
 roots : ∀ i, Roots (inoN V.n.m.ino i) (T i)
structure Wrote (g : Geo) (V : VolS) (T : Tree) (ii at' : Nat) (bs : List UInt8) (V' : VolS) (T' : Tree) : Prop where
 fv : FV g V' T'
 same : ∀ j s, j ≠ ii → T' j s = T j s
 keep : ∀ s, T ii s ≠ 0 → T' ii s = T ii s
 nz : ∀ s, T' ii s ≠ 0 ↔ T ii s ≠ 0 ∨ ∃ k, at' / 64 ≤ k ∧ 64 * k < at' + bs.length ∧ 0 < bs.length ∧ s ∈ chainK k
 fb : ∀ j x, fb g V' T' j x = if j = ii ∧ at' ≤ x ∧ x < at' + bs.length then bs[x - at']?.getD 0 else fb g V T j x
 al : ∃ u n', u ≤ 3 * ((at' % 64 + bs.length + 63) / 64) ∧ V'.n.m = (allocN g (V.n.m.inodeL ii) u V.n.m).set ii n' ∧ n'.k = (inoN V.n.m.ino ii).k ∧ n'.r = (inoN V.n.m.ino ii).r ∧ n'.at 0 = (inoN V.n.m.ino ii).at 0 ∧ n'.at 1 = max ((inoN V.n.m.ino ii).at 1) ((at' + bs.length : Nat) : Int)
 kp : Keeps V V'
section
variable {N : Nat} {β : Type} {l : List HA} {S : β → HA} {v d o : Nat} {g : Geo} {V : VolS} {T P : Tree} {ii a at' : Nat} {n : Ino} {bs : List UInt8} {Tb : HA} {s : Sl}
theorem FS.wM (h : FS g V T P) {m : MetaS} (hi : Inv g m) (hu : m.used = V.n.m.used) : FS g (V.wM m) T P :=
 ⟨h.ok.wM hi (fun b _ hb => by rw [hu] at hb; exact hb), h.le, h.out, h.inj, fun i s hz => by rw [show (V.wM m).n.m.used = m.used from rfl, hu]; exact h.used i s hz, h.tab, h.l64, h.pout⟩
theorem bk_wM (g : Geo) (V : VolS) (m : MetaS) (p : Nat) : bk g (V.wM m) p = bk g V p := rfl
theorem roots_ptr {p : Nat → Nat} (hr : Roots n p) (hp : ∀ s, p s ≤ 512) {i : Nat} (h2 : 2 ≤ i) (hi : i < 12) : 0 ≤ n.at i ∧ n.at i ≤ 512 := by
 obtain ⟨k, hk, e⟩ : ∃ k, k < 60 ∧ wayO k - 4 = i := by
  by_cases h10 : i < 10
  ·exact ⟨i - 2, by omega, by unfold wayO; rw [if_pos (by omega)]; omega⟩
  ·by_cases h : i = 10
   ·exact ⟨8, by omega, by rw [h]; rfl⟩
   ·exact ⟨40, by omega, by rw [show i = 11 by omega]; rfl⟩
 have := hr k hk
 rw [e] at this
 have h5 := hp (rs k)
 omega
theorem inoN_set {l : List Ino} {i : Nat} (hi : i < l.length) (x : Ino) (j : Nat) : inoN (l.set i x) j = if j = i then x else inoN l j := by
 unfold inoN
 rw [List.getElem?_set]
 by_cases e : i = j
 ·subst e; rw [if_pos rfl, if_pos hi, if_pos rfl]; rfl
 ·rw [if_neg e, if_neg fun h => e h.symm]
theorem hasE_lt {m : MetaS} (h : m.hasE (ii : Int) = 0) : ii < m.ino.length ∧ (inoN m.ino ii).k ≠ 0 := by
 unfold MetaS.hasE at h
 split at h
 ·rename_i h1
  refine ⟨by omega, fun e => ?_⟩
  rw [Int.toNat_natCast, if_pos e] at h
  cases h
 ·cases h
theorem inoN_ok (hok : MetaOk g V.n.m) (h : V.n.m.hasE (ii : Int) = 0) : (inoN V.n.m.ino ii).Ok := by
 have h1 := (hasE_lt h).1
 unfold inoN
 rw [List.getElem?_eq_getElem h1]
 exact hok.inok _ (List.getElem_mem h1)
theorem inodeN_at (h : V.n.m.hasE (ii : Int) = 0) : V.n.m.inodeN ii = inoN V.n.m.ino ii := by
 unfold MetaS.inodeN
 rw [if_pos h, Int.toNat_natCast]
theorem set_file (hg : g.ok) (fs : FS g V T T) {n1 n2 : Ino} {T0 : Tree} (h0 : ∀ j, j ≠ ii → Roots (inoN V.n.m.ino j) (T j)) (hr : Roots n1 (T ii)) (hE : V.n.m.hasE (ii : Int) = 0) (hk : n1.k = (inoN V.n.m.ino ii).k) (hrr : n1.r = (inoN V.n.m.ino ii).r) (ha : n1.at 0 = (inoN V.n.m.ino ii).at 0) {sz : Int} (h1 : 0 ≤ sz) (h2 : sz ≤ 3840) :
  V.n.m.setE (ii : Int) (n1.put 1 sz) = 0 ∧ FV g (V.wM (V.n.m.set ii (n1.put 1 sz))) T := by
 have hlt := hasE_lt hE
 have hok := inoN_ok fs.ok.inv.ok hE
 have n2ok : (n1.put 1 sz).ok = true := by
  refine Ino.ok_iff.2 ⟨?_, ?_, ?_, ?_, ?_, ?_, ?_, ?_⟩
  ·show n1.k < 3
   rw [hk]; exact hok.k
  ·intro h
   have : n1.k = 0 := h
   rw [hk] at this
   exact absurd this hlt.2
  ·show n1.r < 16
   rw [hrr]; exact hok.r
  ·rw [Ino.put_at _ (by omega), if_neg (by omega), ha]; exact hok.l0
  ·rw [Ino.put_at _ (by omega), if_neg (by omega), ha]; exact hok.l1
  ·rw [Ino.put_at _ (by omega), if_pos rfl]; exact h1
  ·rw [Ino.put_at _ (by omega), if_pos rfl]; exact h2
  ·intro i hi2 hi12
   rw [Ino.put_at _ (by omega), if_neg (by omega)]
   exact roots_ptr hr (fun s => fs.num hg ii s) hi2 hi12
 have hs : V.n.m.setE (ii : Int) (n1.put 1 sz) = 0 := by
  unfold MetaS.setE
  rw [hE, if_neg (by decide), if_neg, if_neg (by simp), if_neg]
  ·rintro (h | h)
   ·exact h (by rw [Int.toNat_natCast]; exact hk)
   ·exact h (by rw [Int.toNat_natCast]; exact hrr)
  ·rintro (h | h)
   ·rw [n2ok] at h; cases h
   ·exact hlt.2 (by rw [← hk]; exact h)
 have hi := (set_inv hg fs.ok.inv hs).1
 refine ⟨hs, fs.wM hi rfl, fun j => ?_⟩
 show Roots (inoN (V.n.m.ino.set ii (n1.put 1 sz)) j) (T j)
 rw [inoN_set hlt.1]
 by_cases e : j = ii
 ·subst e
  rw [if_pos rfl]
  intro k hk
  rw [Ino.put_at _ (by omega), if_neg (by have := wayO_lt hk; omega)]
  exact hr k hk
 ·rw [if_neg e]
  exact h0 j e
def wE (m : MetaS) (i at' : Int) (k : Nat) : Int := if m.hasE i ≠ 0 then m.hasE i else if at' < 0 then 1 else if 3840 < at' ∨ 3840 - at' < (k : Int) then 4 else 0
theorem wr_cut {x : Int} (h : 0 ≤ x) (h2 : x < 2 ^ 63) : wr .i64 ((3840 : Int) - x) = 3840 - x := by
 rw [wr64 (by omega) (by omega)]
theorem fwrite_none (hg : g.ok) (ok : MetaOk g V.n.m) {i at' : Int} (hat : at' < 2 ^ 63) (hs : s.len = bs.length) (h : wE V.n.m i at' bs.length ≠ 0 ∨ bs = []) :
  Tri (stars [VolA v d g V]) (F_00 N (some ⟨v, 0⟩) i at' s) fun r => pu (r = wE V.n.m i at' bs.length) (stars [VolA v d g V]) := by
 unfold wE at h ⊢
 unfold F_00
 refine tri_call [0] (begin_file hg ok i) fun r5 => tri_ex fun o => tri_pu fun h5 => tri_flat ?_
 by_cases hE : V.n.m.hasE i = 0
 case neg =>
  rw [if_neg hE] at h5
  subst h5
  refine tri_t (by simpa using hE) (tri_end [0] fun q hq => ⟨?_, hq⟩)
  rw [if_pos hE]
 rw [if_pos hE] at h5 ⊢
 subst h5
 have hE' : ¬ (V.n.m.hasE i ≠ 0) := fun c => c hE
 simp only [if_neg hE'] at h ⊢
 refine tri_f (by simp) ?_
 by_cases h0 : at' < 0
 ·rw [if_pos h0]
  exact tri_t (by simpa using h0) (tri_end [0] fun q hq => ⟨rfl, hq⟩)
 rw [if_neg h0] at h ⊢
 refine tri_f (by simpa using h0) ?_
 rw [wr_cut (by omega) hat, hs]
 by_cases h4 : 3840 < at' ∨ 3840 - at' < (bs.length : Int)
 ·rw [if_pos h4]
  exact tri_t (by simpa using h4) (tri_end [0] fun q hq => ⟨rfl, hq⟩)
 rw [if_neg h4] at h ⊢
 have hb : bs = [] := by
  rcases h with h | h
  ·exact absurd rfl h
  ·exact h
 subst hb
 refine tri_f (by simpa using h4) (tri_t (by simp) (tri_end [0] fun q hq => ⟨rfl, hq⟩))
theorem fwrite_spec (hg : g.ok) (hN : 5000 < N) (F : FV g V T) (hE : V.n.m.hasE (ii : Int) = 0) (hmax : at' + bs.length ≤ 3840) (hne : bs ≠ []) (hr : RdC Tb s 1 (bytesOf bs)) (ha : V.n.m.inodeL ii < 65536) (hroom : Room g (V.n.m.inodeL ii) (3 * ((at' % 64 + bs.length + 63) / 64)) V.n.m) :
  Tri (stars [VolA v d g V, Tb]) (F_00 N (some ⟨v, 0⟩) (ii : Int) (at' : Int) s) fun r => exA fun x : VolS × Tree => pu (r = 0 ∧ Wrote g V T ii at' bs x.1 x.2) (stars [VolA v d g x.1, Tb]) := by
 have hlen := bl_len hr
 have hpos : 0 < bs.length := List.length_pos_iff.2 hne
 have hlt := hasE_lt hE
 have hok := inoN_ok F.fs.ok.inv.ok hE
 unfold F_00
 refine tri_call [0] (begin_file hg F.fs.ok.inv.ok (ii : Int)) fun r5 => tri_ex fun o => tri_pu fun h5 => tri_flat ?_
 rw [if_pos hE] at h5 ⊢
 rw [inodeN_at hE]
 subst h5
 dsimp only [sel, rem, nth, del, cat, upd]
 refine tri_f (by simp) ?_
 refine tri_f (by simp) ?_
 rw [wr_cut (by omega) (by omega)]
 refine tri_f (by simp; omega) ?_
 refine tri_f (by simp; omega) ?_
 have W0 : WInv g V T (inoN V.n.m.ino ii) ii (V.n.m.inodeL ii) at' bs 0 0 V T (inoN V.n.m.ino ii) := by
  refine ⟨F.fs, F.roots ii, fun _ _ _ => rfl, fun _ _ => rfl, fun s => ?_, fun j x => ?_, ⟨0, by omega, rfl⟩, keeps_rfl V, ⟨rfl, rfl, rfl, rfl⟩, .inl ⟨rfl, rfl⟩⟩
  ·constructor
   ·exact .inl
   ·rintro (h | ⟨k, _, _, h, _⟩)
    ·exact h
    ·omega
  ·rw [if_neg]
   rintro ⟨_, _, _⟩
   omega
 refine tri_call [0, 0, 0] (write_loop (i := (ii : Int)) hg ha hN hmax hroom N 0 0 V T (inoN V.n.m.ino ii) s (by omega) (by omega) W0 (by rw [List.drop_zero]; exact hr)) fun j14 => tri_ex fun x => tri_pu fun hj => tri_flat ?_
 obtain ⟨V1, T1, n1, c⟩ := x
 obtain ⟨hj, W⟩ := hj
 have W : WInv g V T (inoN V.n.m.ino ii) ii (V.n.m.inodeL ii) at' bs bs.length c V1 T1 n1 := W
 subst hj
 dsimp only [sel, rem, nth, del, cat, upd]
 obtain ⟨w1, w2, w3, w4⟩ := W.node
 obtain ⟨u, hu, eu⟩ := W.al
 have eino : V1.n.m.ino = V.n.m.ino := by rw [eu, allocN_ino]
 refine tri_nn (tri_fl (tri_fl (tri_ldI 1 rfl (open_at (n := n1) (j := 1) (by omega)) ?_)))
 rw [w4]
 refine tri_nn (tri_fl (tri_fl (tri_stc 1 rfl (by rw [openC_len]; omega) rfl ?_)))
 rw [show 0 + 2 + 3 = 4 + 1 from rfl, openC_set v _ n1 _ (by omega)]
 have emax : (if (inoN V.n.m.ino ii).at 1 < ((at' + bs.length : Nat) : Int) then ((at' + bs.length : Nat) : Int) else (inoN V.n.m.ino ii).at 1) = max ((inoN V.n.m.ino ii).at 1) ((at' + bs.length : Nat) : Int) := by
  split <;> omega
 rw [emax]
 have hs0 := hok.s0
 have hs1 := hok.s1
 have hE1 : V1.n.m.hasE (ii : Int) = 0 := by
  unfold MetaS.hasE
  rw [eino]
  exact hE
 obtain ⟨hset, fv⟩ := set_file (V := V1) (n2 := n1) (T0 := T1) hg W.fs (n1 := n1) (sz := max ((inoN V.n.m.ino ii).at 1) ((at' + bs.length : Nat) : Int)) (fun j hj => by
  rw [eino]
  intro k hk
  rw [W.same j _ hj]
  exact F.roots j k hk) W.roots hE1 (by rw [eino]; exact w1) (by rw [eino]; exact w2) (by rw [eino]; exact w3) (by omega) (by omega)
 refine tri_call [0, 0] (done_spec hg W.fs.ok.inv.ok hN) fun r24 => tri_pu fun h24 => tri_flat ?_
 rw [hset] at h24
 rw [if_pos hset, Int.toNat_natCast]
 dsimp only [sel, rem, nth, del, cat, upd]
 refine tri_end [0, 1] fun q hq => ⟨(V1.wM (V1.n.m.set ii (n1.put 1 (max ((inoN V.n.m.ino ii).at 1) ((at' + bs.length : Nat) : Int)))), T1), ⟨h24, fv, W.same, W.keep, W.nz, W.fb, ⟨u, n1.put 1 (max ((inoN V.n.m.ino ii).at 1) ((at' + bs.length : Nat) : Int)), ?_, ?_, w1, w2, ?_, ?_⟩, W.kp.trans (keeps_wM _ _)⟩, hq⟩
 ·have h3 := W.cnt
  have : c ≤ (at' % 64 + bs.length + 63) / 64 := by
   rcases h3 with h | h | h <;> omega
  omega
 ·show V1.n.m.set ii _ = _
  rw [eu]
 ·rw [Ino.put_at _ (by omega), if_neg (by omega)]; exact w3
 ·rw [Ino.put_at _ (by omega), if_pos rfl]
end
end Go.Moat

/- Layer 16: Read. -/
namespace Go.Moat
open Go.Mini
def readL (f : Nat → UInt8) (at' n : Nat) : List UInt8 := (List.range n).map fun j => f (at' + j)
theorem readL_len (f : Nat → UInt8) (at' n : Nat) : (readL f at' n).length = n := by simp [readL]
theorem readL_get (f : Nat → UInt8) (at' n : Nat) {j : Nat} (h : j < n) : (readL f at' n)[j]? = some (f (at' + j)) := by simp [readL, h]
theorem readL_add (f : Nat → UInt8) (at' n m : Nat) : readL f at' (n + m) = readL f at' n ++ readL f (at' + n) m := by
 apply List.ext_getElem?
 intro j
 by_cases h : j < n
 ·rw [List.getElem?_append_left (by rw [readL_len]; exact h), readL_get _ _ _ h, readL_get _ _ _ (by omega)]
 ·rw [List.getElem?_append_right (by rw [readL_len]; omega), readL_len]
  by_cases h2 : j < n + m
  ·rw [readL_get _ _ _ h2, readL_get _ _ _ (by omega)]
   congr 2
   omega
  ·rw [List.getElem?_eq_none (by rw [readL_len]; omega), List.getElem?_eq_none (by rw [readL_len]; omega)]
def rE (m : MetaS) (i at' n : Int) : Int := if m.hasE i ≠ 0 then m.hasE i else if at' < 0 ∨ n < 0 then 1 else 0
def sizeN (m : MetaS) (i : Nat) : Nat := ((inoN m.ino i).at 1).toNat
def rN (m : MetaS) (i at' n : Int) : Nat := if rE m i at' n = 0 then min n.toNat (sizeN m i.toNat - at'.toNat) else 0
section
variable {N : Nat} {β : Type} {l : List HA} {S : β → HA} {v d o : Nat} {g : Geo} {V : VolS} {T P : Tree} {ii a at' : Nat} {n : Ino} {bs : List UInt8} {s : Sl} {i : Int}
theorem bk_piece (fs : FS g V T T) {x m : Nat} (hm : m ≤ 64 - x % 64) : ((bk g V (T ii (lf (x / 64)))).drop (x % 64)).take m = readL (fb g V T ii) x m := by
 have hl := bk_len fs ii (lf (x / 64))
 apply List.ext_getElem?
 intro j
 by_cases h : j < m
 ·rw [readL_get _ _ _ h, List.getElem?_take, if_pos h, List.getElem?_drop]
  unfold fb
  rw [show (x + j) / 64 = x / 64 by omega, show (x + j) % 64 = x % 64 + j by omega, List.getElem?_eq_getElem (by omega)]
  rfl
 ·rw [List.getElem?_eq_none (by rw [List.length_take]; omega), List.getElem?_eq_none (by rw [readL_len]; omega)]
theorem block_file (hg : g.ok) (fs : FS g V T T) (hr : Roots n (T ii)) {k : Nat} (hk : k < 60) (hN : 5000 < N) :
  Tri (stars [VolA v d g V, pts o (.cells (openC v i n a) false)]) (F_2o N (some ⟨o, 0⟩) (k : Int)) fun r => pu (r.2 = 0) (stars [OwnA r.1 1 (bytesOf (bk g V (T ii (lf k)))), VolA v d g V, pts o (.cells (openC v i n a) false)]) := by
 have hle := fs.le ii (lf k)
 have hnum := fs.num hg ii (lf k)
 unfold F_2o
 refine tri_call [0, 0] (find_spec hg hk (hr k hk) (walk_of hg fs hk) hN) fun r3 => tri_pu fun h3 => tri_flat ?_
 subst h3
 dsimp only [sel, rem, nth, del, cat, upd]
 unfold bk
 by_cases hz : T ii (lf k) = 0
 ·rw [if_pos hz]
  refine tri_t (by simp [hz]) (tri_mkB 64 (by omega) fun b => tri_end [0, 0, 0] fun q hq => ⟨rfl, ?_⟩)
  exact stars_imp (.cons (fun _ k => .mk (by rw [bytes_len]; rfl) k) (.cons (fun _ k => k) (.cons (fun _ k => k) .nil))) q hq
 ·rw [if_neg hz]
  refine tri_f (by simp; omega) ?_
  refine tri_nn (tri_fl (tri_ldP 1 rfl rfl ?_))
  have ep : wr .i64 ((T ii (lf k) : Int) - 1) = ((T ii (lf k) - 1 : Nat) : Int) := by
   rw [wr64 (by omega) (by omega)]
   omega
  rw [ep]
  have hre := fs.ok.re (T ii (lf k) - 1) (by omega)
  refine tri_call [0] (vread_spec hg _) fun r7 => tri_pu fun h7 => tri_flat ?_
  rw [hre] at h7
  rw [if_pos hre]
  dsimp only [sel, rem, nth, del, cat, upd]
  exact tri_end [1, 0, 0] fun q hq => ⟨h7, hq⟩
theorem read_loop (hg : g.ok) (hN : 5000 < N) (fs : FS g V T T) (hr : Roots n (T ii)) {y nn : Int} {tot : Nat} (hy : (at' : Int) < y) (hy2 : y ≤ 3840) (hn : 0 ≤ nn) (htot : (tot : Int) = min nn (y - at')) :
  ∀ (K done : Nat) (out : Sl), tot - done < K → done ≤ tot →
  Tri (stars [OwnA out 1 (bytesOf (readL (fb g V T ii) at' done)), VolA v d g V, pts o (.cells (openC v i n a) false)]) (iter K (F_2x N (at' : Int) nn (some ⟨o, 0⟩, 0) y) (((at' + done : Nat) : Int), out)) fun r => exA fun s : Sl => pu (r = .inl s) (stars [OwnA s 1 (bytesOf (readL (fb g V T ii) at' tot)), VolA v d g V, pts o (.cells (openC v i n a) false)]) := by
 have hend : wr .i64 ((at' : Int) + (if wr .i64 (y - (at' : Int)) < nn then wr .i64 (y - (at' : Int)) else nn)) = ((at' + tot : Nat) : Int) := by
  rw [wr64 (n := y - (at' : Int)) (by omega) (by omega)]
  split
  ·rw [wr64 (by omega) (by omega)]; omega
  ·rw [wr64 (by omega) (by omega)]; omega
 intro K
 induction K with
 | zero => intro done out h; omega
 | succ K ih =>
  intro done out hK hdl
  rw [iter_S]
  generalize iter K (F_2x N (at' : Int) nn (some ⟨o, 0⟩, 0) y) = go at ih ⊢
  unfold F_2x
  dsimp only
  rw [hend]
  by_cases hd : done < tot
  case neg =>
   obtain rfl : done = tot := by omega
   exact tri_f (by simp) (tri_end [0, 0, 0] fun q hq => ⟨out, rfl, hq⟩)
  refine tri_t (by simp; omega) ?_
  have ek : wr .i64 (((at' + done : Nat) : Int).tdiv 64) = (((at' + done) / 64 : Nat) : Int) := by
   have e1 : ((at' + done : Nat) : Int).tdiv 64 = (((at' + done) / 64 : Nat) : Int) := rfl
   rw [e1, wr64 (by omega) (by omega)]
  have ef : ((at' + done : Nat) : Int).tmod 64 = (((at' + done) % 64 : Nat) : Int) := rfl
  rw [ek, ef]
  have hm : ∃ mm : Nat, (if wr .i64 (((at' + tot : Nat) : Int) - ((at' + done : Nat) : Int)) < wr .i64 (64 - (((at' + done) % 64 : Nat) : Int)) then wr .i64 (((at' + tot : Nat) : Int) - ((at' + done : Nat) : Int)) else wr .i64 (64 - (((at' + done) % 64 : Nat) : Int))) = (mm : Int) ∧ mm = min (tot - done) (64 - (at' + done) % 64) := by
   refine ⟨_, ?_, rfl⟩
   rw [wr64 (n := ((at' + tot : Nat) : Int) - ((at' + done : Nat) : Int)) (by omega) (by omega), wr64 (n := 64 - (((at' + done) % 64 : Nat) : Int)) (by omega) (by omega)]
   split <;> omega
  obtain ⟨mm, em, hmm⟩ := hm
  rw [em]
  refine tri_call [1, 1] (block_file (ii := ii) hg fs hr (k := (at' + done) / 64) (by omega) hN) fun r12 => tri_pu fun h12 => tri_flat ?_
  dsimp only [sel, rem, nth, del, cat, upd]
  refine tri_f (by simp [h12]) ?_
  refine own_ln 0 rfl fun l12 => ?_
  refine own_ln 3 rfl fun lo => ?_
  rw [bytes_len, readL_len] at lo
  have hbl := bk_len fs ii (lf ((at' + done) / 64))
  rw [bytes_len, hbl] at l12
  have e2 : wr .i64 ((((at' + done) % 64 : Nat) : Int) + (mm : Int)) = (((at' + done) % 64 + mm : Nat) : Int) := by
   rw [wr64 (by omega) (by omega)]
   omega
  rw [e2]
  refine tri_slc (by omega) (by omega) (by omega) ?_
  rw [Int.toNat_natCast, Int.toNat_natCast]
  have hsub := rd_subB (rd_own (s := r12.1) (cs := bytesOf (bk g V (T ii (lf ((at' + done) / 64))))) (by rw [bytes_len, hbl]; omega)) (lo := (at' + done) % 64) (hi := (at' + done) % 64 + mm) (by omega) (by omega)
  rw [show (at' + done) % 64 + mm - (at' + done) % 64 = mm by omega, bk_piece fs (by omega)] at hsub
  have hmost : most = 70368744177664 := rfl
  refine tri_call [3, 0] (rd_app (s := out) (by' := 1) hsub (by omega) (bytes_cell _) (by
   show (out.len + ((at' + done) % 64 + mm - (at' + done) % 64)) * 1 ≤ most
   omega)) fun o2 => tri_flat ?_
  dsimp only [sel, rem, nth, del, cat, upd]
  have e3 : wr .i64 (((at' + done : Nat) : Int) + (mm : Int)) = ((at' + (done + mm) : Nat) : Int) := by
   rw [wr64 (by omega) (by omega)]
   omega
  rw [e3]
  refine tri_last [0, 1, 1] (Tri.pre (ih (done + mm) o2 (by omega) (by omega)) fun q hq => ent_head (fun q h => ?_) hq)
  have e4 : bytesOf (readL (fb g V T ii) at' done) ++ bytesOf (readL (fb g V T ii) (at' + done) mm) = bytesOf (readL (fb g V T ii) at' (done + mm)) := by
   rw [readL_add]
   simp [bytesOf]
  rw [← e4]
  exact h
theorem fread_spec (hg : g.ok) (hN : 5000 < N) (F : FV g V T) {i at' n : Int} (hat : at' < 2 ^ 63) :
  Tri (stars [VolA v d g V]) (F_0n N (some ⟨v, 0⟩) i at' n) fun r => pu (r.2 = rE V.n.m i at' n) (stars [OwnA r.1 1 (bytesOf (readL (fb g V T i.toNat) at'.toNat (rN V.n.m i at' n))), VolA v d g V]) := by
 have enil : ∀ f k, bytesOf (readL f k 0) = [] := fun _ _ => rfl
 unfold F_0n
 refine tri_call [0] (begin_file hg F.fs.ok.inv.ok i) fun r5 => tri_ex fun o => tri_pu fun h5 => tri_flat ?_
 by_cases hE : V.n.m.hasE i = 0
 case neg =>
  rw [if_neg hE] at h5
  subst h5
  have er : rE V.n.m i at' n = V.n.m.hasE i := by unfold rE; rw [if_pos hE]
  have en : rN V.n.m i at' n = 0 := by unfold rN; rw [er, if_neg hE]
  rw [en, enil, er]
  exact tri_t (by simpa using hE) (tri_end [0] fun q hq => ⟨rfl, ent_emp (fun q h => .nil 1 h) hq⟩)
 rw [if_pos hE] at h5 ⊢
 subst h5
 dsimp only [sel, rem, nth, del, cat, upd]
 refine tri_f (by simp) ?_
 by_cases hneg : at' < 0 ∨ n < 0
 ·have er : rE V.n.m i at' n = 1 := by unfold rE; rw [if_neg (by simpa using hE), if_pos hneg]
  have en : rN V.n.m i at' n = 0 := by unfold rN; rw [er, if_neg (by decide)]
  rw [en, enil, er]
  exact tri_t (by simpa using hneg) (tri_end [0] fun q hq => ⟨rfl, ent_emp (fun q h => .nil 1 h) hq⟩)
 refine tri_f (by simpa using hneg) ?_
 rw [not_or] at hneg
 have er : rE V.n.m i at' n = 0 := by unfold rE; rw [if_neg (by simpa using hE), if_neg (by omega)]
 have hi : i = ((i.toNat : Nat) : Int) := by
  unfold MetaS.hasE at hE
  split at hE
  ·omega
  ·cases hE
 obtain ⟨ii, rfl⟩ : ∃ k : Nat, i = k := ⟨_, hi⟩
 obtain ⟨x, rfl⟩ : ∃ k : Nat, at' = k := ⟨at'.toNat, by omega⟩
 rw [inodeN_at hE]
 have hok := inoN_ok F.fs.ok.inv.ok hE
 have h0 := hok.s0
 have h1 := hok.s1
 refine tri_nn (tri_fl (tri_fl (tri_ldI 1 rfl (open_at (n := inoN V.n.m.ino ii) (j := 1) (by omega)) ?_)))
 have en : rN V.n.m ii x n = min n.toNat (((inoN V.n.m.ino ii).at 1).toNat - x) := by
  unfold rN
  rw [er, if_pos rfl]
  rfl
 rw [en, er, Int.toNat_natCast, Int.toNat_natCast]
 by_cases hge : (inoN V.n.m.ino ii).at 1 ≤ (x : Int)
 ·have e0 : min n.toNat (((inoN V.n.m.ino ii).at 1).toNat - x) = 0 := by omega
  rw [e0, enil]
  exact tri_t (by simpa using hge) (tri_end [0] fun q hq => ⟨rfl, ent_emp (fun q h => .nil 1 h) hq⟩)
 refine tri_f (by simpa using hge) ?_
 refine tri_call [0, 0] ((read_loop (i := (ii : Int)) (ii := ii) (nn := n) (y := (inoN V.n.m.ino ii).at 1) (tot := min n.toNat (((inoN V.n.m.ino ii).at 1).toNat - x)) hg hN F.fs (F.roots ii) (by omega) h1 (by omega) (by omega) N 0 ⟨none, 0⟩ (by omega) (by omega)).pre fun q hq => ent_emp (fun q h => .nil 1 h) hq) fun j15 => tri_ex fun s => tri_pu fun hj => tri_flat ?_
 subst hj
 dsimp only [sel, rem, nth, del, cat, upd]
 exact tri_end [0, 0] fun q hq => ⟨rfl, hq⟩
end
end Go.Moat
