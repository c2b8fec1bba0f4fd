/- Layer 15: what is done to a volume is done to the document's. -/
import Derived.Test.YtcaaljlhljemoaaGreatP15q
namespace Go.Moat
open Go.Mini
structure ActS where
 k : Nat
 at_ : Int
 lab : Nat
 c : Nat
 b : Sl
 bs : List UInt8
 n : Ino
 th : Int
structure ActOk (T : HA) (A : ActS) : Prop where
 k : A.k < 256
 lab : A.lab < 65536
 c : A.c < 256
 rd : RdC T A.b 1 (bytesOf A.bs)
 bl : A.bs.length ≤ 200
def actC (A : ActS) : List MV := [.int .u8 A.k, .int .i64 A.at_, .int .u16 A.lab, .int .u8 A.c, .sl A.b.p A.b.len 1] ++ inoC A.n ++ [.int .u64 A.th]
theorem actC_len (A : ActS) : (actC A).length = 20 := by simp [actC, inoC_len]
theorem actC_ino (A : ActS) : ((actC A).drop 5).take 14 = inoC A.n := by
 unfold actC
 rw [List.append_assoc]
 show List.take 14 (inoC A.n ++ [.int .u64 A.th]) = _
 exact List.take_left' (inoC_len _)
theorem actC_cell (A : ActS) : (actC A).all isCell = true := by
 unfold actC
 rw [List.all_append, List.all_append, inoC_cell]
 rfl
def zact : ActS := ⟨0, 0, 0, 0, ⟨none, 0⟩, [], Ino.z, 0⟩
theorem zact_c : ([MV.int .u8 (0 : Int), MV.int .i64 (0 : Int), MV.int .u16 (0 : Int), MV.int .u8 (0 : Int), MV.sl (none : Option MA) 0 1, MV.int .u8 (0 : Int), MV.int .u8 (0 : Int)] ++ reps 12 [MV.int .i64 (0 : Int)] ++ [MV.int .u64 (0 : Int)]) = actC zact := rfl
theorem over_act (A B : ActS) : over (actC A) 0 (actC B) = actC B := over_self (by rw [actC_len, actC_len])
structure VOk (g : Geo) (V : VolS) : Prop where
 inv : Inv g V.n.m
 re : ∀ b : Nat, b < g.B → V.readE g b = 0
 zero : ∀ b : Nat, b < g.B → getBit V.n.m.used b = false → V.readB g b = zeros64
structure Like (g : Geo) (V : VolS) (W : RefS) : Prop where
 ok : VOk g V
 m : W.m = V.n.m
 bl : W.B.length = g.B
 dl : W.D.length = g.B
 rd : ∀ b : Nat, b < g.B → W.B[b]? = some (V.readB g b)
 dt : ∀ b : Nat, b < g.B → W.D[b]? = some (getA V.n.dirty b).isSome
structure Keeps (V V' : VolS) : Prop where
 disk : V'.disk = V.disk
 seq : V'.seq = V.seq
 safe : V'.safe = V.safe
 before : V'.before = V.before
 dead : V'.dead = V.dead
section
variable {N : Nat} {β : Type} {l : List HA} {S : β → HA} {v d w : Nat} {g : Geo} {V : VolS} {W : RefS} {m : M β} {T : HA}
theorem Like.rok (h : Like g V W) : RWok g W := ⟨by rw [h.m]; exact h.ok.inv, h.bl, h.dl⟩
theorem tri_frz0 {α : Type} {m : M α} {Q : α → HA} (t : Tri (stars []) m Q) : Tri (stars []) (frz m) Q := by
 intro h q hq hh
 obtain ⟨a, h', q', e, h1, h2, h3, h4, h5⟩ := t h q hq hh
 exact ⟨a, h', q', frz_of e ⟨h3, fun b hb => h4 b hb (hq b)⟩, h1, h2, h3, h4, h5⟩
theorem sector_spec {c : Nat} (hc : c < 256) (hN : 100 < N) : Tri (stars []) (F_moatlaw15_sector N (c : Int)) fun r => stars [OwnA r 1 (bytesOf (List.replicate 64 (UInt8.ofNat c)))] := by
 unfold F_moatlaw15_sector
 refine tri_mkB 64 (by omega) fun b => ?_
 have loop : ∀ (K k : Nat), 64 - k < K → k ≤ 64 → Tri (stars [pts b (.cells (bytesOf (List.replicate k (UInt8.ofNat c) ++ List.replicate (64 - k) 0)) false)]) (iter K (F_moatlaw15_sector_b1 N (c : Int) ⟨some ⟨b, 0⟩, 64⟩) (k : Int)) fun _ => stars [pts b (.cells (bytesOf (List.replicate 64 (UInt8.ofNat c))) false)] := by
  intro K
  induction K with
  | zero => intro k h; omega
  | succ K ih =>
   intro k h hk
   rw [iter_S]
   unfold F_moatlaw15_sector_b1
   by_cases hk4 : k < 64
   ·refine tri_t (by simp; omega) ?_
    refine tri_idx hk4 (tri_stc 0 rfl (by rw [bytes_len]; simp; omega) rfl ?_)
    rw [wr64 (by omega) (by omega)]
    refine Tri.pre (ih (k + 1) (by omega) (by omega)) fun q hq => ?_
    have e : (bytesOf (List.replicate k (UInt8.ofNat c) ++ List.replicate (64 - k) 0)).set (0 + k * 1) (.int .u8 (c : Int)) = bytesOf (List.replicate (k + 1) (UInt8.ofNat c) ++ List.replicate (64 - (k + 1)) 0) := by
     have hcc : (MV.int .u8 (c : Int)) = .int .u8 ((UInt8.ofNat c).toNat : Int) := by
      rw [UInt8.toNat_ofNat_of_lt' (by simpa using hc)]
     rw [hcc]
     unfold bytesOf
     rw [← List.map_set (f := fun b : UInt8 => MV.int .u8 (b.toNat : Int))]
     congr 1
     rw [show 0 + k * 1 = k by omega, List.set_append_right _ _ (by simp), List.length_replicate, Nat.sub_self, show 64 - k = (64 - (k + 1)) + 1 by omega, List.replicate_succ, List.set_cons_zero, List.replicate_succ', List.append_assoc]
     rfl
    rw [← e]
    exact hq
   ·obtain rfl : k = 64 := by omega
    exact tri_f (by simp) (tri_end [0] fun q hq => by
     rw [show List.replicate (64 - 64) (0 : UInt8) = [] from rfl, List.append_nil] at hq
     exact hq)
 refine tri_call [0] ((loop N 0 (by omega) (by omega)).pre fun q hq => hq) fun _ => tri_flat (tri_end [0] fun q hq => ?_)
 refine stars_imp (.cons (fun _ k => .mk (by rw [bytes_len]; simp) k) .nil) q hq
theorem readE_write (b : Nat) (bs : List UInt8) (c : Nat) (hc : c < g.B) (h : V.readE g c = 0) : (V.write g b bs).readE g c = 0 := by
 unfold VolS.readE VolS.write NowS.write at *
 dsimp only at *
 rw [if_pos (by omega)] at h ⊢
 rw [getA_put]
 by_cases e : (c : Int) = b
 ·rw [if_pos e]
 ·rw [if_neg e]; exact h
theorem readB_write (b : Nat) (bs : List UInt8) (c : Nat) : (V.write g b bs).readB g c = if c = b then bs else V.readB g c := by
 unfold VolS.readB VolS.write NowS.write
 dsimp only
 rw [getA_put]
 by_cases e : c = b
 ·rw [if_pos (by omega), if_pos e]
 ·rw [if_neg (by omega), if_neg e]
theorem dirty_write (b : Nat) (bs : List UInt8) (c : Nat) : (getA (V.write g b bs).n.dirty c).isSome = if c = b then true else (getA V.n.dirty c).isSome := by
 unfold VolS.write NowS.write
 dsimp only
 rw [getA_put]
 by_cases e : c = b
 ·rw [if_pos (by omega), if_pos e]; rfl
 ·rw [if_neg (by omega), if_neg e]
theorem VOk.wM (h : VOk g V) {m : MetaS} (hm : Inv g m) (hu : ∀ b, b < g.B → getBit m.used b = false → getBit V.n.m.used b = false) : VOk g (V.wM m) :=
 ⟨hm, h.re, fun b hb hz => h.zero b hb (hu b hb hz)⟩
theorem Like.wM (h : Like g V W) {m : MetaS} (hm : Inv g m) (hu : ∀ b, b < g.B → getBit m.used b = false → getBit V.n.m.used b = false) : Like g (V.wM m) (W.wM m) :=
 ⟨h.ok.wM hm hu, rfl, h.bl, h.dl, h.rd, h.dt⟩
theorem keeps_wM (V : VolS) (m : MetaS) : Keeps V (V.wM m) := ⟨rfl, rfl, rfl, rfl, rfl⟩
theorem keeps_write (V : VolS) (b : Nat) (bs : List UInt8) : Keeps V (V.write g b bs) := ⟨rfl, rfl, rfl, rfl, rfl⟩
theorem keeps_rfl (V : VolS) : Keeps V V := ⟨rfl, rfl, rfl, rfl, rfl⟩
theorem VOk.write (h : VOk g V) {b : Nat} (hb : b < g.B) (hbit : getBit V.n.m.used b = true) (bs : List UInt8) : VOk g (V.write g b bs) := by
 refine ⟨h.inv, fun c hc => readE_write b bs c hc (h.re c hc), fun c hc hz => ?_⟩
 have hz' : getBit V.n.m.used c = false := hz
 rw [readB_write, if_neg (by rintro rfl; rw [hbit] at hz'; cases hz')]
 exact h.zero c hc hz'
theorem set_get {α : Type} {l : List α} {b c : Nat} {x y : α} (hb : b < l.length) (hy : l[c]? = some y) : (l.set b x)[c]? = some (if c = b then x else y) := by
 rw [List.getElem?_set]
 by_cases e : b = c
 ·rw [if_pos e, if_pos hb, if_pos e.symm]
 ·rw [if_neg e, if_neg (fun k => e k.symm), hy]
theorem Like.write (h : Like g V W) {b : Nat} (hb : b < g.B) (hbit : getBit V.n.m.used b = true) (bs : List UInt8) : Like g (V.write g b bs) (W.write b bs) := by
 have hbl := h.bl
 have hdl := h.dl
 refine ⟨h.ok.write hb hbit bs, h.m, ?_, ?_, fun c hc => ?_, fun c hc => ?_⟩
 ·show (W.B.set b bs).length = _
  rw [List.length_set]; exact h.bl
 ·show (W.D.set b true).length = _
  rw [List.length_set]; exact h.dl
 ·rw [readB_write]
  exact set_get (by omega) (h.rd c hc)
 ·rw [dirty_write]
  exact set_get (by omega) (h.dt c hc)
theorem free_used (b : Nat) (hb : b < 8 * V.n.m.used.length) (c : Nat) : getBit (V.n.m.free g b).used c = if c = b then false else getBit V.n.m.used c := by
 have : (V.n.m.free g b).used = setBit V.n.m.used b false := by
  unfold MetaS.free
  split <;> rfl
 rw [this, getBit_set hb]
theorem VOk.free (hg : g.ok) (h : VOk g V) {b : Nat} (hb : b < g.B) (hbit : getBit V.n.m.used b = true) : VOk g (V.free g b) := by
 have hlt := getBit_lt hbit
 refine ⟨free_inv hg h.inv hb hbit, fun c hc => readE_write b zeros64 c hc (h.re c hc), fun c hc hz => ?_⟩
 have hz' : getBit (V.n.m.free g b).used c = false := hz
 rw [free_used b hlt] at hz'
 show (V.write g b zeros64).readB g c = _
 rw [readB_write]
 by_cases e : c = b
 ·rw [if_pos e]
 ·rw [if_neg e]
  rw [if_neg e] at hz'
  exact h.zero c hc hz'
theorem Like.free (hg : g.ok) (h : Like g V W) {b : Nat} (hb : b < g.B) (hbit : getBit V.n.m.used b = true) : Like g (V.free g b) ((W.write b zeros64).wM (W.m.free g b)) := by
 have h2 := h.write hb hbit zeros64
 refine ⟨h.ok.free hg hb hbit, ?_, h2.bl, h2.dl, h2.rd, h2.dt⟩
 show W.m.free g b = V.n.m.free g b
 rw [h.m]
theorem alloc_used {m : MetaS} (hg : g.ok) (h : Inv g m) (a : Nat) : ∀ b, b < g.B → getBit (m.alloc g a).2.used b = false → getBit m.used b = false := by
 intro b hb
 have hul := h.ok.usedl
 have hgp := hg.gp
 have hB : g.B = g.G * g.P := rfl
 have key : ∀ c, c < g.B → getBit (setBit m.used c true) b = false → getBit m.used b = false := by
  intro c hc
  rw [getBit_set (by omega)]
  split
  ·intro h; cases h
  ·exact id
 unfold MetaS.alloc
 cases hat : m.atB g a with
 | some c =>
  dsimp only
  unfold MetaS.atB at hat
  split at hat
  ·rw [List.find?_range'_eq_some] at hat
   have := List.mem_range'_1.1 hat.2.1
   exact key c (by omega)
  ·cases hat
 | none =>
  dsimp only
  cases hfr : m.own.findIdx? isNone0 with
  | none => exact id
  | some k =>
   dsimp only
   split
   ·have hk := (List.findIdx?_eq_some_iff_getElem.1 hfr).1
    rw [h.ok.ownl] at hk
    have hb : k * g.P + g.P ≤ g.G * g.P := flat_bound hk
    have := hg.p1
    exact key (k * g.P) (by omega)
   ·exact id
theorem make_used (m : MetaS) (kind a : Nat) : (m.make kind a).2.used = m.used := by
 unfold MetaS.make
 split
 ·split
  ·rfl
  ·split <;> rfl
 ·rfl
end
end Go.Moat

/- Layer 15: an act is done to a volume and to the document's alike. -/
namespace Go.Moat
open Go.Mini
section
variable {N : Nat} {β : Type} {l : List HA} {S : β → HA} {v d w : Nat} {g : Geo} {V : VolS} {W : RefS} {m : M β} {T : HA}
theorem like_alloc (hg : g.ok) (h : Like g V W) {a : Nat} (ha : a < 65536) : Like g (V.wM (V.n.m.alloc g a).2) (W.wM (W.m.alloc g a).2) := by
 rw [h.m]
 exact h.wM (alloc_inv hg h.ok.inv ha) (alloc_used hg h.ok.inv a)
def VolS.freeX (g : Geo) (V : VolS) (b : Int) : VolS := if V.n.m.usedE g b = 0 then V.free g b.toNat else V
def RefS.freeX (g : Geo) (W : RefS) (b : Int) : RefS := if W.m.usedE g b = 0 then (W.write b.toNat zeros64).wM (W.m.free g b.toNat) else W
theorem like_free (hg : g.ok) (h : Like g V W) (b : Int) : Like g (V.freeX g b) (W.freeX g b) ∧ Keeps V (V.freeX g b) := by
 unfold VolS.freeX RefS.freeX
 rw [show W.m.usedE g b = V.n.m.usedE g b by rw [h.m]]
 by_cases hE : V.n.m.usedE g b = 0
 ·rw [if_pos hE, if_pos hE]
  obtain ⟨k, rfl, hk, hbit⟩ := usedE_zero hE
  exact ⟨h.free hg hk hbit, ⟨rfl, rfl, rfl, rfl, rfl⟩⟩
 ·rw [if_neg hE, if_neg hE]
  exact ⟨h, keeps_rfl V⟩
def VolS.writeX (g : Geo) (V : VolS) (b : Int) (bs : List UInt8) : VolS := if V.writeE g b bs = 0 then V.write g b.toNat bs else V
def RefS.writeX (g : Geo) (W : RefS) (b : Int) (bs : List UInt8) : RefS := if bs.length = 64 ∧ W.m.usedE g b = 0 then W.write b.toNat bs else W
theorem like_write (hg : g.ok) (h : Like g V W) (b : Int) (bs : List UInt8) : Like g (V.writeX g b bs) (W.writeX g b bs) ∧ Keeps V (V.writeX g b bs) := by
 unfold VolS.writeX RefS.writeX VolS.writeE
 rw [show W.m.usedE g b = V.n.m.usedE g b by rw [h.m]]
 by_cases hl : bs.length = 64
 ·rw [if_pos hl]
  by_cases hE : V.n.m.usedE g b = 0
  ·rw [if_pos hE, if_pos ⟨hl, hE⟩]
   obtain ⟨k, rfl, hk, hbit⟩ := usedE_zero hE
   exact ⟨h.write hk hbit bs, keeps_write V k bs⟩
  ·rw [if_neg hE, if_neg fun c => hE c.2]
   exact ⟨h, keeps_rfl V⟩
 ·rw [if_neg hl, if_neg (by decide), if_neg fun c => hl c.1]
  exact ⟨h, keeps_rfl V⟩
theorem like_make (hg : g.ok) (h : Like g V W) {kind a : Nat} (ha : a < 65536) : Like g (V.wM (V.n.m.make kind a).2) (W.wM (W.m.make kind a).2) := by
 rw [h.m]
 exact h.wM (make_inv hg h.ok.inv ha) fun b _ => by rw [make_used]; exact id
def VolS.unmakeX (V : VolS) (i : Int) : VolS := if V.n.m.hasE i = 0 then V.wM (V.n.m.unmake i.toNat) else V
def RefS.unmakeX (W : RefS) (i : Int) : RefS := if W.m.hasE i = 0 then W.wM (W.m.unmake i.toNat) else W
theorem like_unmake (hg : g.ok) (h : Like g V W) (i : Int) : Like g (V.unmakeX i) (W.unmakeX i) ∧ Keeps V (V.unmakeX i) := by
 unfold VolS.unmakeX RefS.unmakeX
 rw [h.m]
 by_cases hE : V.n.m.hasE i = 0
 ·rw [if_pos hE, if_pos hE]
  obtain ⟨k, hk, rfl, hkk⟩ := hasE_zero hE
  exact ⟨h.wM (unmake_inv hg h.ok.inv hk hkk) fun b _ => id, keeps_wM _ _⟩
 ·rw [if_neg hE, if_neg hE]
  exact ⟨h, keeps_rfl V⟩
def VolS.setX (V : VolS) (i : Int) (n : Ino) : VolS := if V.n.m.setE i n = 0 then V.wM (V.n.m.set i.toNat n) else V
def RefS.setX (W : RefS) (i : Int) (n : Ino) : RefS := if W.m.setE i n = 0 then W.wM (W.m.set i.toNat n) else W
theorem like_set (hg : g.ok) (h : Like g V W) (i : Int) (n : Ino) : Like g (V.setX i n) (W.setX i n) ∧ Keeps V (V.setX i n) := by
 unfold VolS.setX RefS.setX
 rw [h.m]
 by_cases hE : V.n.m.setE i n = 0
 ·rw [if_pos hE, if_pos hE]
  have hi : V.n.m.hasE i ≠ 1 := fun c => by unfold MetaS.setE at hE; rw [if_pos c] at hE; cases hE
  have h0 : 0 ≤ i := by
   unfold MetaS.hasE at hi
   split at hi
   ·rename_i hh; exact hh.1
   ·exact absurd rfl hi
  obtain ⟨k, rfl⟩ : ∃ k : Nat, i = k := ⟨i.toNat, by omega⟩
  exact ⟨h.wM (set_inv hg h.ok.inv hE).1 fun b _ => id, keeps_wM _ _⟩
 ·rw [if_neg hE, if_neg hE]
  exact ⟨h, keeps_rfl V⟩
def Ino.kr (n : Ino) (k r : Nat) : Ino := { n with k := k, r := r }
theorem inoC_kr (n : Ino) (k r : Nat) : ((inoC n).set 0 (.int .u8 k)).set 1 (.int .u8 r) = inoC (n.kr k r) := rfl
theorem does_spec (hg : g.ok) (hN : 5000 < N) (h : Like g V W) {A : ActS} (ha : ActOk T A) :
  Tri (stars [VolA v d g V, RefA w g W, T]) (F_moatlaw15_does N (some ⟨v, 0⟩) (some ⟨w, 0⟩) (actC A)) fun r => exA fun x : VolS × RefS => pu (r = true ∧ Like g x.1 x.2 ∧ Keeps V x.1) (stars [VolA v d g x.1, RefA w g x.2, T]) := by
 have ok := h.ok.inv.ok
 have rf := h.ok.inv.rf
 have gr := h.ok.inv.gr hg
 have hlab := ha.lab
 have hc256 := ha.c
 have g0 : (actC A)[0]? = some (.int .u8 A.k) := rfl
 have g1 : (actC A)[1]? = some (.int .i64 A.at_) := rfl
 have g2 : (actC A)[2]? = some (.int .u16 A.lab) := rfl
 have g3 : (actC A)[3]? = some (.int .u8 A.c) := rfl
 have g4 : (actC A)[4]? = some (.sl A.b.p A.b.len 1) := rfl
 have e19 : 5 + 14 ≤ (actC A).length := by rw [actC_len]; omega
 unfold F_moatlaw15_does
 rw [g0, g1, g2, g3, g4, if_pos e19, actC_ino]
 refine tri_some (tri_dI ?_)
 have em : ((A.k : Nat) : Int).tmod 13 = ((A.k % 13 : Nat) : Int) := rfl
 rw [em]
 have hlt : A.k % 13 < 13 := Nat.mod_lt _ (by omega)
 generalize A.k % 13 = kk at *
 by_cases k0 : kk = 0
 ·refine tri_t (by simp [k0]) ?_
  refine tri_some (tri_dI (tri_call [0] (valloc_spec hg ok hlab hN) fun r8 => tri_pu fun h8 => tri_flat ?_))
  dsimp only [sel, rem, nth, del, cat, upd]
  refine tri_some (tri_dI (tri_call [1] (ralloc_spec hg h.rok hlab hN) fun r11 => tri_pu fun h11 => tri_flat ?_))
  dsimp only [sel, rem, nth, del, cat, upd]
  refine tri_end [1, 0, 0] fun q hq => ⟨(V.wM (V.n.m.alloc g A.lab).2, W.wM (W.m.alloc g A.lab).2), ⟨?_, like_alloc hg h hlab, keeps_wM _ _⟩, hq⟩
  rw [h8, h11, h.m]
  simp
 refine tri_f (by simp; omega) ?_
 by_cases k1 : kk = 1
 ·refine tri_t (by simp [k1]) (tri_hold0 fun _ => ?_)
  refine tri_some (tri_dI (tri_call [0] (vfree_spec hg ok rf gr A.at_ hN) fun r8 => tri_pu fun h8 => tri_flat ?_))
  dsimp only [sel, rem, nth, del, cat, upd]
  refine tri_some (tri_dI (tri_call [1] (rfree_spec hg h.rok A.at_ hN) fun r11 => tri_pu fun h11 => tri_flat ?_))
  dsimp only [sel, rem, nth, del, cat, upd]
  obtain ⟨hl, hk⟩ := like_free hg h A.at_
  refine tri_end [1, 0, 0] fun q hq => ⟨(V.freeX g A.at_, W.freeX g A.at_), ⟨?_, hl, hk⟩, hq⟩
  rw [h8, h11, h.m]
  simp
 refine tri_f (by simp; omega) ?_
 have wr2 : ∀ {bs : List UInt8}, (if bs.length = 64 then W.m.usedE g A.at_ else 1) = V.writeE g A.at_ bs := fun {bs} => by unfold VolS.writeE; rw [h.m]
 by_cases k2 : kk = 2
 ·refine tri_t (by simp [k2]) (tri_hold0 fun _ => ?_)
  refine tri_some (tri_dI (tri_some (tri_dI (tri_call [] (sector_spec hc256 (by omega)) fun s24 => tri_flat ?_))))
  dsimp only [sel, rem, nth, del, cat, upd]
  refine own_ln 0 rfl fun l24 => ?_
  refine tri_call [1, 0] (vWrite_spec hg ok A.at_ (rd_own l24) (by simp)) fun r8 => tri_pu fun h8 => tri_flat ?_
  dsimp only [sel, rem, nth, del, cat, upd]
  refine tri_some (tri_dI (tri_some (tri_dI (tri_call [] (sector_spec hc256 (by omega)) fun s30 => tri_flat ?_))))
  dsimp only [sel, rem, nth, del, cat, upd]
  refine own_ln 0 rfl fun l30 => ?_
  refine tri_call [3, 0] (rwrite_spec hg h.rok A.at_ (rd_own l30) hN) fun r11 => tri_pu fun h11 => tri_flat ?_
  dsimp only [sel, rem, nth, del, cat, upd]
  obtain ⟨hl, hk⟩ := like_write hg h A.at_ (List.replicate 64 (UInt8.ofNat A.c))
  refine tri_end [2, 0, 2] fun q hq => ⟨(V.writeX g A.at_ (List.replicate 64 (UInt8.ofNat A.c)), W.writeX g A.at_ (List.replicate 64 (UInt8.ofNat A.c))), ⟨?_, hl, hk⟩, hq⟩
  rw [h8, h11, wr2]
  simp
 refine tri_f (by simp; omega) ?_
 by_cases k3 : kk = 3
 ·refine tri_t (by simp [k3]) ?_
  refine tri_some (tri_dI (tri_some (tri_dI (tri_call [0] (vmake_spec hg ok hc256 hlab hN) fun r8 => tri_pu fun h8 => tri_flat ?_))))
  dsimp only [sel, rem, nth, del, cat, upd]
  refine tri_some (tri_dI (tri_some (tri_dI (tri_call [1] (rmake_spec hg h.rok hc256 hlab hN) fun r11 => tri_pu fun h11 => tri_flat ?_))))
  dsimp only [sel, rem, nth, del, cat, upd]
  refine tri_end [1, 0, 0] fun q hq => ⟨(V.wM (V.n.m.make A.c A.lab).2, W.wM (W.m.make A.c A.lab).2), ⟨?_, like_make hg h hlab, keeps_wM _ _⟩, hq⟩
  rw [h8, h11, h.m]
  simp
 refine tri_f (by simp; omega) ?_
 by_cases k4 : kk = 4
 ·refine tri_t (by simp [k4]) (tri_hold0 fun _ => ?_)
  refine tri_some (tri_dI (tri_call [0] (vunmake_spec hg ok rf A.at_ hN) fun r8 => tri_pu fun h8 => tri_flat ?_))
  dsimp only [sel, rem, nth, del, cat, upd]
  refine tri_some (tri_dI (tri_call [1] (runmake_spec hg h.rok A.at_ hN) fun r11 => tri_pu fun h11 => tri_flat ?_))
  dsimp only [sel, rem, nth, del, cat, upd]
  obtain ⟨hl, hk⟩ := like_unmake hg h A.at_
  refine tri_end [1, 0, 0] fun q hq => ⟨(V.unmakeX A.at_, W.unmakeX A.at_), ⟨?_, hl, hk⟩, hq⟩
  rw [h8, h11, h.m]
  simp
 refine tri_f (by simp; omega) ?_
 by_cases k5 : kk = 5
 ·refine tri_t (by simp [k5]) ?_
  refine tri_bdret ?_
  rw [zino_c]
  refine ino_copy1 ?_
  refine tri_some (tri_dI (tri_call [1] (rinode_spec hg h.rok A.at_) fun r52 => tri_pu fun h52 => tri_flat ?_))
  subst h52
  dsimp only [sel, rem, nth, del, cat, upd]
  refine ino_copy1 ?_
  rw [over_ino, over_ino]
  let n2 : Ino := if W.m.hasE A.at_ = 0 ∧ A.c % 2 = 0 then A.n.kr (W.m.inodeN A.at_).k (W.m.inodeN A.at_).r else A.n
  refine tri_call [0, 0, 0] (Q := fun c => pu (c = decide (W.m.hasE A.at_ = 0 ∧ A.c % 2 = 0)) (stars [RefA w g W, VolA v d g V, T])) ?_ fun c => tri_pu fun hc => tri_flat ?_
  ·by_cases hE : W.m.hasE A.at_ = 0
   ·refine tri_t (by simp [hE]) (tri_some (tri_dI (tri_end [0, 0, 0] fun q hq => ⟨?_, hq⟩)))
    have e2 : ((A.c : Nat) : Int).tmod 2 = ((A.c % 2 : Nat) : Int) := rfl
    rw [e2]
    by_cases hp : A.c % 2 = 0
    ·simp [hE, hp]
    ·simp [hE, hp]; omega
   ·exact tri_f (by simp [hE]) (tri_end [0, 0, 0] fun q hq => ⟨by simp [hE], hq⟩)
  dsimp only [sel, rem, nth, del, cat, upd]
  refine tri_call [0, 0, 0] (Q := fun r => pu (r = inoC n2) (stars [RefA w g W, VolA v d g V, T])) ?_ fun j => tri_pu fun hj => tri_flat ?_
  ·by_cases hc2 : W.m.hasE A.at_ = 0 ∧ A.c % 2 = 0
   ·have en : n2 = A.n.kr (W.m.inodeN A.at_).k (W.m.inodeN A.at_).r := if_pos hc2
    rw [en]
    refine tri_t (by rw [hc]; simpa using hc2) (tri_hold0 fun _ => ?_)
    rw [inoC0, inoC1]
    refine tri_some (tri_dI (tri_some (tri_dI ?_)))
    rw [if_pos ⟨by rw [inoC_len]; omega, rfl⟩]
    refine tri_bdret ?_
    rw [if_pos ⟨by rw [List.length_set, inoC_len]; omega, rfl⟩]
    refine tri_bdret ?_
    rw [inoC_kr]
    exact tri_end [0, 0, 0] fun q hq => ⟨rfl, hq⟩
   ·have en : n2 = A.n := if_neg hc2
    rw [en]
    exact tri_f (by rw [hc]; simpa using hc2) (tri_end [0, 0, 0] fun q hq => ⟨rfl, hq⟩)
  subst hj
  dsimp only [sel, rem, nth, del, cat, upd]
  have e14 : 0 + 14 ≤ (inoC n2).length := by rw [inoC_len]; omega
  have t14 : ((inoC n2).drop 0).take 14 = inoC n2 := by rw [List.drop_zero, List.take_of_length_le (by rw [inoC_len]; omega)]
  rw [if_pos e14, t14]
  generalize n2 = n3
  refine tri_hold0 fun _ => tri_some (tri_dI (tri_bdret ?_))
  refine tri_call [1] (vset_spec hg ok A.at_ n3 hN) fun r8 => tri_pu fun h8 => tri_flat ?_
  dsimp only [sel, rem, nth, del, cat, upd]
  refine tri_some (tri_dI (tri_bdret ?_))
  refine tri_call [1] (rset_spec hg h.rok A.at_ n3 hN) fun r11 => tri_pu fun h11 => tri_flat ?_
  dsimp only [sel, rem, nth, del, cat, upd]
  obtain ⟨hl, hk⟩ := like_set hg h A.at_ n3
  refine tri_end [1, 0, 0] fun q hq => ⟨(V.setX A.at_ n3, W.setX A.at_ n3), ⟨?_, hl, hk⟩, hq⟩
  rw [h8, h11, h.m]
  simp
 refine tri_f (by simp; omega) ?_
 by_cases k12 : kk = 12
 ·refine tri_t (by simp [k12]) ?_
  refine tri_alloc fun b => ?_
  have hbl := ha.bl
  have hbl2 := bl_len ha.rd
  refine tri_some ?_
  refine tri_some ?_
  refine tri_call [0, 2] ((rd_app (s := ⟨some ⟨b, 0⟩, 0⟩) (by' := 1) (cs := []) ha.rd (by omega) (by simp [bytesOf, isCell]) (by
   have : most = 70368744177664 := rfl
   dsimp only
   omega)).pre fun q hq => ent_head (A := pts b (.cells [] false)) (l := [T]) (fun q h => .mk (by simp) h) hq) fun l74 => tri_flat ?_
  dsimp only [sel, rem, nth, del, cat, upd]
  rw [List.nil_append]
  refine tri_hold0 fun _ => tri_some (tri_dI ?_)
  refine own_ln 0 rfl fun ln74 => ?_
  refine tri_call [2, 0] (vWrite_spec hg ok A.at_ (rd_own ln74) (by omega)) fun r8 => tri_pu fun h8 => tri_flat ?_
  dsimp only [sel, rem, nth, del, cat, upd]
  refine tri_some (tri_dI (tri_some (tri_some ?_)))
  refine tri_call [3, 2] (rwrite_spec hg h.rok A.at_ ha.rd hN) fun r11 => tri_pu fun h11 => tri_flat ?_
  dsimp only [sel, rem, nth, del, cat, upd]
  obtain ⟨hl, hk⟩ := like_write hg h A.at_ A.bs
  have hlen : l74.len = A.bs.length := by rw [bytes_len] at ln74; omega
  have loop : ∀ (K k : Nat) (xs : List UInt8), A.bs.length - k < K → k ≤ A.bs.length → xs.length = A.bs.length → Tri (stars [OwnA l74 1 (bytesOf xs)]) (iter K (F_moatlaw15_does_b1 N l74) (k : Int)) fun _ => stars [] := by
   intro K
   induction K with
   | zero => intro k xs h; omega
   | succ K ih =>
    intro k xs hkk hk hx
    rw [iter_S]
    unfold F_moatlaw15_does_b1
    by_cases hkl : k < A.bs.length
    ·refine tri_t (by simp; omega) ?_
     refine tri_own 0 rfl (fun h1 h2 => ?_) fun b ln h1 h2 => ?_
     ·have := congrArg List.length h2
      rw [bytes_len, List.length_nil] at this
      omega
     subst h1
     rw [bytes_len] at h2
     dsimp only [sel, rem, nth, del, cat, upd]
     refine tri_rI 0 rfl (rd_pts0 (k := ln) (by rw [bytes_len]; exact h2)) (bytes_get (by omega)) ?_
     have hb := bit_nat (k := .u8) (a := xs[k].toNat) (b := 85) rfl xs[k].toNat_lt (by decide)
     obtain ⟨y, hy, hyl⟩ : ∃ y : Nat, bitI .xor .u8 (xs[k].toNat : Int) 85 = y ∧ y < 256 := ⟨_, hb.2.2, Nat.xor_lt_two_pow (n := 8) xs[k].toNat_lt (by decide)⟩
     rw [hy]
     refine tri_idx (by omega) (tri_stc 0 rfl (by rw [bytes_len]; omega) rfl ?_)
     rw [wr64 (by omega) (by omega)]
     refine Tri.pre (ih (k + 1) (xs.set k (UInt8.ofNat y)) (by omega) (by omega) (by rw [List.length_set]; exact hx)) fun q hq => ?_
     have e : (bytesOf xs).set (0 + k * 1) (.int .u8 (y : Int)) = bytesOf (xs.set k (UInt8.ofNat y)) := by
      have hcc : (MV.int .u8 (y : Int)) = .int .u8 ((UInt8.ofNat y).toNat : Int) := by
       rw [UInt8.toNat_ofNat_of_lt' (by simpa using hyl)]
      rw [hcc, show 0 + k * 1 = k by omega]
      unfold bytesOf
      rw [← List.map_set (f := fun b : UInt8 => MV.int .u8 (b.toNat : Int))]
     rw [← e]
     refine stars_imp (.cons (fun _ k => .mk (by rw [List.length_set, bytes_len]; exact h2) k) .nil) q hq
    ·obtain rfl : k = A.bs.length := by omega
     exact tri_f (by simp [hlen]) (tri_end [] fun q hq => hq)
  refine tri_call [3] (loop N 0 A.bs (by omega) (by omega) rfl) fun _ => tri_flat ?_
  dsimp only [sel, rem, nth, del, cat, upd]
  refine tri_end [2, 0, 0] fun q hq => ⟨(V.writeX g A.at_ A.bs, W.writeX g A.at_ A.bs), ⟨?_, hl, hk⟩, hq⟩
  rw [h8, h11, wr2]
  simp
 refine tri_f (by simp; omega) ?_
 exact tri_end [0, 0, 0] fun q hq => ⟨(V, W), ⟨rfl, h, keeps_rfl V⟩, hq⟩
end
end Go.Moat

/- Layer 15: few; a block that is taken is bytes 0. -/
namespace Go.Moat
open Go.Mini
structure ActIn (T : HA) (A : ActS) : Prop where
 k : A.k < 256
 lab : A.lab < 65536
 c : A.c < 256
 rd : RdC T A.b 1 (bytesOf A.bs)
theorem ActIn.ok {T : HA} {A : ActS} (h : ActIn T A) (hl : A.b.len ≤ 200) : ActOk T A := ⟨h.k, h.lab, h.c, h.rd, by have := bl_len h.rd; omega⟩
section
variable {N : Nat} {β : Type} {l : List HA} {S : β → HA} {v d w : Nat} {g : Geo} {V : VolS} {W : RefS} {m : M β} {T : HA} {s : Sl} {acts : List ActS} {e : Nat} {cs : List MV}
theorem tri_rFL (n : Nat) (hl : l[n]? = some T) (hr : RdC T s e cs) {i o e' ln : Nat} {p : Option MA} (hi : i < s.len) (ho : o < e) (hv : cs[i * e + o]? = some (.sl p ln e')) {f : Sl → M β} (kk : Tri (stars l) (f ⟨p, ln⟩) S) : Tri (stars l) (bd (idx e s (i : Int)) fun q => bd (fld q o) fun q => bd (ldL e' q) f) S := by
 have e1 : (bd (idx e s (i : Int)) fun q => bd (fld q o) fun q => bd (ldL e' q) f) = bd (bd (idx e s (i : Int)) fun q => bd (fld q o) fun q => ldL e' q) f := by
  rw [bd_bd]
  congr 1
  funext q
  rw [bd_bd]
 rw [e1]
 refine tri_rdw n hl (fun h q hq hh => ?_) kk
 obtain ⟨a, r, ro, h1, h2, h3, h4⟩ := hr.elem hq hh hi
 have h5 := take_get h4 ho
 simp only [bd, h1, fld, ret]
 exact ldL_eq h2 (h5.trans hv)
structure FewOk (T : HA) (acts : List ActS) (r : Sl) (k : Nat) : Prop where
 le : k ≤ acts.length
 k100 : k ≤ 100
 small : ∀ (i : Nat) (hi : i < acts.length), i < k → acts[i].b.len ≤ 200
 len : r.len = k
 rd : 0 < k → RdC T r 20 (catL actC (acts.take k))
theorem few_spec (hr : acts ≠ [] → RdC T s 20 (catL actC acts)) (hlen : s.len = acts.length) (hN : 200 < N) : Tri (stars [T]) (F_moatlaw15_few N s) fun r => exA fun k : Nat => pu (FewOk T acts r k) (stars [T]) := by
 have hne : ∀ {k : Nat}, k < acts.length → acts ≠ [] := fun h c => by subst c; simp at h
 unfold F_moatlaw15_few
 have cut : ∀ k : Nat, k ≤ acts.length → k ≤ 100 → (∀ (i : Nat) (hi : i < acts.length), i < k → acts[i].b.len ≤ 200) → FewOk T acts (subS 20 s 0 k) k := by
  intro k hk h100 hs
  refine ⟨hk, h100, hs, by simp [subS], fun hk0 => ?_⟩
  have := (hr (hne (k := 0) (by omega))).sub (lo := 0) (hi := k) (Nat.zero_le _) (by omega)
  rw [Nat.zero_mul, List.drop_zero, Nat.sub_zero] at this
  have e1 : (catL actC acts).take (k * 20) = catL actC (acts.take k) := by
   have e2 : catL actC acts = catL actC (acts.take k) ++ catL actC (acts.drop k) := by rw [← catL_app, List.take_append_drop]
   rw [e2]
   exact List.take_left' (by rw [catL_len actC_len, List.length_take, Nat.min_eq_left hk])
  rw [e1] at this
  exact this
 have loop' : ∀ (K k : Nat), 101 - k < K → k ≤ acts.length → k ≤ 100 → (∀ (i : Nat) (hi : i < acts.length), i < k → acts[i].b.len ≤ 200) →
   Tri (stars [T]) (iter K (F_moatlaw15_few_b1 N s) (k : Int)) fun r => pu (match r with | .inl _ => FewOk T acts s acts.length | .inr z => ∃ k : Nat, FewOk T acts z k) (stars [T]) := by
  intro K
  induction K with
  | zero => intro k h; omega
  | succ K ih =>
   intro k h hk h100 hs
   rw [iter_S]
   unfold F_moatlaw15_few_b1
   by_cases hkl : k < acts.length
   ·refine tri_t (by simp [hlen]; omega) ?_
    refine tri_call [0] (Q := fun c => pu (c = (decide (100 ≤ k) || decide (200 < acts[k].b.len))) (stars [T])) ?_ fun c => tri_pu fun hc => tri_flat ?_
    ·by_cases h1 : 100 ≤ k
     ·exact tri_f (by simp; omega) (tri_end [0] fun q hq => ⟨by simp [h1], hq⟩)
     ·refine tri_t (by simp; omega) ?_
      refine tri_rFL 0 rfl (hr (hne hkl)) (i := k) (o := 4) (by omega) (by omega) (by rw [catL_get actC_len hkl (by omega)]; rfl) ?_
      refine tri_end [0] fun q hq => ⟨?_, hq⟩
      simp [h1]
      omega
    dsimp only [sel, rem, nth, del, cat, upd]
    by_cases hbad : 100 ≤ k ∨ 200 < acts[k].b.len
    ·refine tri_t (by rw [hc]; simpa using hbad) ?_
     refine tri_slc (by omega) (by omega) (by omega) ?_
     rw [Int.toNat_natCast]
     exact tri_end [0] fun q hq => ⟨⟨k, cut k (by omega) h100 hs⟩, hq⟩
    ·refine tri_f (by rw [hc]; simpa using hbad) ?_
     rw [not_or] at hbad
     rw [wr64 (by omega) (by omega)]
     refine ih (k + 1) (by omega) (by omega) (by omega) fun i hi hik => ?_
     by_cases e : i = k
     ·subst e; omega
     ·exact hs i hi (by omega)
   ·obtain rfl : k = acts.length := by omega
    refine tri_f (by simp [hlen]) (tri_end [0] fun q hq => ⟨⟨Nat.le_refl _, h100, hs, hlen, fun h0 => ?_⟩, hq⟩)
    rw [List.take_length]
    exact hr (hne h0)
 refine tri_call [0] (loop' N 0 (by omega) (by omega) (by omega) fun i _ h => by omega) fun r => tri_pu fun hr' => tri_flat ?_
 cases r with
 | inl _ => exact tri_end [0] fun q hq => ⟨acts.length, hr', hq⟩
 | inr z => obtain ⟨k, hk⟩ := hr'; exact tri_end [0] fun q hq => ⟨k, hk, hq⟩
theorem cnt_set {bs : List UInt8} {b : Nat} (hb : b < 8 * bs.length) (h0 : getBit bs b = false) : ∀ n, cntB (setBit bs b true) 0 n = cntB bs 0 n + if b < n then 1 else 0
 | 0 => by simp [cntB]
 | n + 1 => by
  rw [cnt_succ _ (Nat.zero_le _), cnt_succ _ (Nat.zero_le _), cnt_set hb h0 n, getBit_set hb]
  by_cases e : n = b
  ·subst e
   simp [h0]
  ·rw [if_neg e]
   by_cases h1 : b < n
   ·rw [if_pos h1, if_pos (show b < n + 1 by omega)]
    omega
   ·rw [if_neg h1, if_neg (show ¬ b < n + 1 by omega)]
    omega
theorem alloc_ok {m : MetaS} (hg : g.ok) (h : Inv g m) {a : Nat} (h0 : (m.alloc g a).1.2 = 0) : ∃ b : Nat, (m.alloc g a).1.1 = b ∧ b < g.B ∧ getBit m.used b = false ∧ (m.alloc g a).2.used = setBit m.used b true := by
 have hB : g.B = g.G * g.P := rfl
 have hp1 := hg.p1
 unfold MetaS.alloc at h0 ⊢
 cases hat : m.atB g a with
 | some c =>
  rw [hat] at h0
  dsimp only
  unfold MetaS.atB at hat
  split at hat
  ·rw [List.find?_range'_eq_some] at hat
   have h1 := List.mem_range'_1.1 hat.2.1
   have h2 := hat.1
   unfold MetaS.isAt at h2
   simp only [Bool.and_eq_true] at h2
   exact ⟨c, rfl, by omega, by simpa using h2.2, rfl⟩
  ·cases hat
 | none =>
  rw [hat] at h0
  dsimp only at h0 ⊢
  cases hfr : m.own.findIdx? isNone0 with
  | none => rw [hfr] at h0; simp at h0
  | some k =>
   rw [hfr] at h0
   dsimp only at h0 ⊢
   by_cases hE : retE m.rows a = 0
   ·rw [if_pos hE]
    obtain ⟨hk, hk0, _⟩ := List.findIdx?_eq_some_iff_getElem.1 hfr
    have hkG : k < g.G := by rw [← h.ok.ownl]; exact hk
    have hb : k * g.P + g.P ≤ g.G * g.P := flat_bound hkG
    refine ⟨k * g.P, rfl, by omega, ?_, rfl⟩
    cases hbit : getBit m.used (k * g.P) with
    | false => rfl
    | true =>
     have := (h.grp k hkG).2 ⟨k * g.P, Nat.le_refl _, by rw [Nat.add_mul]; omega, hbit⟩
     rw [List.getElem?_eq_getElem hk] at this
     unfold isNone0 at hk0
     simp at hk0
     rw [hk0] at this
     simp at this
   ·rw [if_neg hE] at h0
    exact absurd h0 hE
theorem alloc_err (m : MetaS) (a : Nat) (h : (m.alloc g a).1.2 ≠ 0) : (m.alloc g a).1.2 = 5 ∨ (m.alloc g a).1.2 = 4 := by
 unfold MetaS.alloc at h ⊢
 cases hat : m.atB g a with
 | some c => rw [hat] at h; exact absurd rfl h
 | none =>
  rw [hat] at h
  dsimp only at h ⊢
  cases hfr : m.own.findIdx? isNone0 with
  | none => exact .inl rfl
  | some k =>
   rw [hfr] at h
   dsimp only at h ⊢
   by_cases hE : retE m.rows a = 0
   ·rw [if_pos hE] at h; exact absurd rfl h
   ·rw [if_neg hE]
    unfold retE at hE ⊢
    split
    ·exact .inl rfl
    ·rename_i i hi
     rw [hi] at hE
     dsimp only at hE
     split
     ·exact .inr rfl
     ·rename_i hne
      rw [if_neg hne] at hE
      exact absurd rfl hE
theorem zsector : List.replicate 64 (UInt8.ofNat 0) = zeros64 := rfl
theorem zero_b2 (hg : g.ok) (hN : 5000 < N) {a : Nat} (ha : a < 65536) : ∀ (K i : Nat) (V : VolS), 17 - i < K → i ≤ 17 → g.B ≤ 16 → VOk g V → i ≤ cntB V.n.m.used 0 g.B →
  Tri (stars [VolA v d g V]) (iter K (F_moatlaw15_VolumeZero_b2 N (a : Int) true (some ⟨d, 0⟩, some ⟨v, 0⟩, true)) (i : Int)) fun r => pu (r = .inr true) (stars []) := by
 intro K
 induction K with
 | zero => intro i V h; omega
 | succ K ih =>
  intro i V h hi hB16 ok hcnt
  have hgp := hg.gp
  have hB : g.B = g.G * g.P := rfl
  have hul := ok.inv.ok.usedl
  have hle := cnt_le' V.n.m.used 0 g.B
  rw [iter_S]
  unfold F_moatlaw15_VolumeZero_b2
  refine tri_t (by simp; omega) ?_
  refine tri_call [0] (valloc_spec hg ok.inv.ok ha hN) fun r21 => tri_pu fun h21 => tri_flat ?_
  dsimp only [sel, rem, nth, del, cat, upd]
  by_cases hE : (V.n.m.alloc g a).1.2 = 0
  case neg =>
   refine tri_t (by rw [h21]; simpa using hE) (tri_end [] fun q hq => ⟨?_, hq⟩)
   rw [h21]
   rcases alloc_err V.n.m a hE with e | e <;> rw [e] <;> rfl
  refine tri_f (by rw [h21]; simpa using hE) ?_
  obtain ⟨b, eb, hb, hbit, eu⟩ := alloc_ok hg ok.inv hE
  rw [h21, eb]
  have inv1 := alloc_inv hg ok.inv ha
  have ok1 : VOk g (V.wM (V.n.m.alloc g a).2) := ok.wM inv1 (alloc_used hg ok.inv a)
  have eU : (V.wM (V.n.m.alloc g a).2).n.m.used = setBit V.n.m.used b true := eu
  have hcn : cntB (V.wM (V.n.m.alloc g a).2).n.m.used 0 g.B = cntB V.n.m.used 0 g.B + 1 := by
   rw [eU, cnt_set (by omega) hbit, if_pos hb]
  have hbit1 : getBit (V.wM (V.n.m.alloc g a).2).n.m.used b = true := by rw [eU, getBit_set (by omega), if_pos rfl]
  have hrB : (V.wM (V.n.m.alloc g a).2).readB g b = zeros64 := ok.zero b hb hbit
  have hle2 := cnt_le' (V.wM (V.n.m.alloc g a).2).n.m.used 0 g.B
  generalize (V.wM (V.n.m.alloc g a).2) = V1 at *
  refine tri_call [0] (vread_spec hg (b : Int)) fun r22 => tri_pu fun h22 => tri_flat ?_
  have hre := ok1.re b hb
  rw [hre] at h22
  rw [if_pos hre, hrB]
  dsimp only [sel, rem, nth, del, cat, upd]
  refine tri_hold fun vb => ?_
  refine tri_call [1, 1] (Q := fun c => pu (c = false) (stars [VolA v d g V1])) ?_ fun c => tri_pu fun hc => tri_flat ?_
  ·refine tri_t (by simp [h22]) ?_
   refine own_ln 1 rfl fun l22 => ?_
   refine tri_rStr 1 rfl (bs := zeros64) (rd_own l22) ?_
   refine tri_call [] (tri_frz0 (sector_spec (c := 0) (by omega) (by omega))) fun r25 => tri_flat ?_
   rw [zsector]
   dsimp only [sel, rem, nth, del, cat, upd]
   refine own_ln 0 rfl fun l25 => ?_
   refine tri_rStr 0 rfl (bs := zeros64) (rd_own l25) ?_
   exact tri_end [1] fun q hq => ⟨by simp, hq⟩
  subst hc
  dsimp only [sel, rem, nth, del, cat, upd]
  refine tri_call [0] (Q := fun c => pu (c = false) (stars [VolA v d g (V1.write g b (List.replicate 64 (UInt8.ofNat 9)))])) ?_ fun c => tri_pu fun hc => tri_flat ?_
  ·refine tri_t rfl ?_
   refine tri_call [] (tri_frz0 (sector_spec (c := 9) (by omega) (by omega))) fun r28 => tri_flat ?_
   dsimp only [sel, rem, nth, del, cat, upd]
   refine own_ln 0 rfl fun l28 => ?_
   have hw : V1.writeE g (b : Int) (List.replicate 64 (UInt8.ofNat 9)) = 0 := by
    unfold VolS.writeE MetaS.usedE
    rw [if_pos (by simp), if_pos (by omega), Int.toNat_natCast, if_pos hbit1]
   refine tri_call [1, 0] (vWrite_spec hg ok1.inv.ok (b : Int) (rd_own l28) (by simp)) fun r29 => tri_pu fun h29 => tri_flat ?_
   rw [hw] at h29
   rw [if_pos hw, Int.toNat_natCast]
   dsimp only [sel, rem, nth, del, cat, upd]
   exact tri_end [0] fun q hq => ⟨by rw [h29]; rfl, hq⟩
  subst hc
  dsimp only [sel, rem, nth, del, cat, upd]
  refine tri_f (by simp) ?_
  rw [wr64 (by omega) (by omega)]
  have hn := ih (i + 1) (V1.write g b (List.replicate 64 (UInt8.ofNat 9))) (by omega) (by omega) hB16 (ok1.write hb hbit1 _) (by
   show i + 1 ≤ cntB V1.n.m.used 0 g.B
   omega)
  exact tri_last [0] hn
theorem newV_ok (hg : g.ok) : VOk g (newV g) := by
 have inv := newM_inv g
 have hga : g.all = g.blk + g.B := rfl
 have hblk : g.blk = 4 + g.J + g.I / 2 := rfl
 refine ⟨inv, fun b hb => ?_, fun b hb _ => ?_⟩
 ·unfold VolS.readE
  rw [if_pos (by omega)]
  show getE (fmtD g) ((g.blk : Int) + b) = 0
  rw [show ((g.blk : Int) + b) = ((g.blk + b : Nat) : Int) by simp]
  exact getE_ok rfl (by rw [fmt_len]; omega)
 ·unfold VolS.readB
  show (getS (fmtD g) ((g.blk : Int) + b)).b = zeros64
  rw [show ((g.blk : Int) + b) = ((g.blk + b : Nat) : Int) by simp, getS_fmt (by omega) (by omega)]
  rfl
theorem new_like (hg : g.ok) : Like g (newV g) (newW g) := by
 have hga : g.all = g.blk + g.B := rfl
 have hblk : g.blk = 4 + g.J + g.I / 2 := rfl
 refine ⟨newV_ok hg, rfl, by simp [newW], by simp [newW], fun b hb => ?_, fun b hb => ?_⟩
 ·have e : (newV g).readB g b = zeros64 := (newV_ok hg).zero b hb (zeros_bit b)
  rw [e]
  show (List.replicate g.B zeros64)[b]? = _
  rw [List.getElem?_replicate, if_pos hb]
 ·show (List.replicate g.B false)[b]? = _
  rw [List.getElem?_replicate, if_pos hb]
  rfl
theorem zero_b1 (hg : g.ok) (hN : 5000 < N) {r : Sl} {k : Nat} (hin : ∀ A ∈ acts, ActIn T A) (hf : FewOk T acts r k) : ∀ (K i : Nat) (V : VolS) (W : RefS), k - i < K → i ≤ k → Like g V W →
  Tri (stars [VolA v d g V, RefA w g W, T]) (iter K (F_moatlaw15_VolumeZero_b1 N (some ⟨d, 0⟩, some ⟨v, 0⟩, true) (some ⟨w, 0⟩) r) (i : Int)) fun _ => exA fun V' : VolS => pu (VOk g V') (stars [VolA v d g V']) := by
 intro K
 induction K with
 | zero => intro i V W h; omega
 | succ K ih =>
  intro i V W h hi like
  have hle := hf.le
  have hlen := hf.len
  rw [iter_S]
  unfold F_moatlaw15_VolumeZero_b1
  have h100 := hf.k100
  by_cases hik : i < k
  ·have hia : i < acts.length := by omega
   have hit : i < (acts.take k).length := by rw [List.length_take]; omega
   have hA := (hin _ (List.getElem_mem hia)).ok (hf.small i hia hik)
   have eA : (acts.take k)[i] = acts[i] := by simp
   refine tri_t (by simp; omega) ?_
   refine tri_rn 2 rfl (hf.rd (by omega)) (i := i) (by omega) ?_
   rw [catL_at actC_len hit, eA, zact_c, if_pos ⟨actC_len _, by rw [actC_len]; omega, actC_cell _⟩]
   refine tri_bdret ?_
   rw [over_act]
   have g0 : (actC acts[i])[0]? = some (.int .u8 acts[i].k) := rfl
   rw [g0]
   refine tri_some (tri_dI ?_)
   have e20 : 0 + 20 ≤ (actC acts[i]).length := by rw [actC_len]; omega
   have t20 : ((actC acts[i]).drop 0).take 20 = actC acts[i] := by rw [List.drop_zero, List.take_of_length_le (by rw [actC_len]; omega)]
   refine tri_call [0, 0, 0] (Q := fun _ => exA fun x : VolS × RefS => pu (Like g x.1 x.2) (stars [VolA v d g x.1, RefA w g x.2, T])) ?_ fun _ => tri_ex fun x => tri_pu fun hx => tri_flat ?_
   ·by_cases hc : ((decide (((acts[i].k : Nat) : Int).tmod 13 < 6)) || (decide (((acts[i].k : Nat) : Int).tmod 13 = 12))) = true
    ·refine tri_t hc ?_
     rw [if_pos e20, t20]
     refine tri_bdret ?_
     refine tri_call [0, 0, 0] (does_spec hg hN like hA) fun r => tri_ex fun x => tri_pu fun hx => tri_flat ?_
     dsimp only [sel, rem, nth, del, cat, upd]
     exact tri_end [0, 0, 0] fun q hq => ⟨x, hx.2.1, hq⟩
    ·exact tri_f hc (tri_end [0, 0, 0] fun q hq => ⟨(V, W), like, hq⟩)
   dsimp only [sel, rem, nth, del, cat, upd]
   rw [wr64 (n := (i : Int) + 1) (by omega) (by omega)]
   exact tri_last [0, 0, 0] (ih (i + 1) x.1 x.2 (by omega) (by omega) hx)
  ·obtain rfl : i = k := by omega
   exact tri_f (by simp; omega) (tri_end [0] fun q hq => ⟨V, like.ok, hq⟩)
theorem zero_law (hN : 5000 < N) (hin : ∀ A ∈ acts, ActIn T A) (hr : acts ≠ [] → RdC T s 20 (catL actC acts)) (hlen : s.len = acts.length) {a : Nat} (ha : a < 65536) : Tri (stars [T]) (F_moatlaw15_VolumeZero N s (a : Int)) fun r => pu (r = true) emp := by
 unfold F_moatlaw15_VolumeZero
 refine tri_call [] (shown_spec hN) fun r3 => tri_pu fun h3 => tri_flat ?_
 subst h3
 dsimp only [sel, rem, nth, del, cat, upd]
 refine tri_op (a := g6.t) (fun h => rfl) ?_
 refine tri_call [] (built_spec (N := N) g6_ok g6_roomy hN) fun r5 => tri_ex fun x => tri_pu fun h5 => tri_flat ?_
 obtain ⟨d, v⟩ := x
 subst h5
 dsimp only [sel, rem, nth, del, cat, upd]
 refine tri_f (by simp) ?_
 refine tri_op (a := g6.t) (fun h => rfl) ?_
 refine tri_call [] (rnew_spec (N := N) g6_ok hN) fun r7 => tri_ex fun w => tri_pu fun h7 => tri_flat ?_
 subst h7
 dsimp only [sel, rem, nth, del, cat, upd]
 refine tri_call [2] (few_spec hr hlen (by omega)) fun r8 => tri_ex fun k => tri_pu fun h8 => tri_flat ?_
 dsimp only [sel, rem, nth, del, cat, upd]
 refine tri_call [2, 1, 0] (zero_b1 g6_ok hN hin h8 N 0 (newV g6) (newW g6) (by have := h8.k100; omega) (by omega) (new_like g6_ok)) fun _ => tri_ex fun V => tri_pu fun hV => tri_flat ?_
 dsimp only [sel, rem, nth, del, cat, upd]
 refine tri_call [0] (zero_b2 g6_ok hN ha N 0 V (by omega) (by omega) (by decide) hV (by omega)) fun j => tri_pu fun hj => tri_flat ?_
 subst hj
 exact tri_end [] fun q hq => ⟨rfl, hq⟩
end
end Go.Moat
