/- Regions whose order is drawn: what fills a block that was held, and what changes one. -/
import Derived.Test.YtpnppebjcenkkaaMX2
namespace Go.Mini
universe u

section
variable {α β γ : Type}

/-- It fills one block, with what hangs on nothing in the heap. -/
def Fl (b : Nat) (m : M α) : Prop := ∀ h a h', m h = some (a, h') → ∃ blk : Blk, blk ≠ .dead ∧ h' = h.set b blk ∧ h.get b = .dead ∧ b < h.size ∧ ∀ h2 : Hp, h2.get b = .dead → b < h2.size → m h2 = some (a, h2.set b blk)

theorem fl_fail (b : Nat) : Fl b (fail : M α) := fun h a h' e => by cases e

theorem fl_put {b : Nat} {blk : Blk} (hb : blk ≠ .dead) (a : α) : Fl b (bd (putAt b blk) fun _ => ret a) := by
  intro h x h' e
  obtain ⟨_, h1, e1, e2⟩ := bd_some e
  cases e2
  unfold putAt at e1
  split at e1
  · rename_i hd
    split at e1
    · rename_i hl
      cases e1
      refine ⟨blk, hb, rfl, hd, hl, fun h2 k1 k2 => ?_⟩
      unfold bd putAt
      rw [k1]
      simp only [k2, if_true]
      rfl
    · cases e1
  · cases e1

theorem fl_bd {b : Nat} {m : M α} {f : α → M β} (k : Fl b m) (kf : ∀ a, Pu (f a)) : Fl b (bd m f) := fun h x h' e => by
  obtain ⟨a, h1, e1, e2⟩ := bd_some e
  obtain ⟨blk, k1, k2, k3, k4, k5⟩ := k _ _ _ e1
  obtain ⟨rfl, k6⟩ := kf a _ _ _ e2
  exact ⟨blk, k1, k2, k3, k4, fun h2 g1 g2 => by simp only [bd, k5 h2 g1 g2]; exact k6 _⟩
theorem fl_ite {b : Nat} {c : Prop} [Decidable c] {m n : M α} (k : Fl b m) (l : Fl b n) : Fl b (if c then m else n) := by
  split
  · exact k
  · exact l
theorem fl_okOf {b : Nat} {ε : Type u} {x : Option ε} {f : ε → M β} (k : ∀ v, Fl b (f v)) : Fl b (okOf x f) := by
  cases x with
  | none => exact fl_fail b
  | some v => exact k v
theorem fl_wInt {b : Nat} {x : Option MV} {f : IntKind → Int → M β} (k : ∀ a c, Fl b (f a c)) : Fl b (wInt x f) := by
  unfold wInt; split
  · exact k _ _
  · exact fl_fail b
theorem fl_wStr {b : Nat} {x : Option MV} {f : List UInt8 → M β} (k : ∀ a, Fl b (f a)) : Fl b (wStr x f) := by
  unfold wStr; split
  · exact k _
  · exact fl_fail b
theorem fl_wAgg {b : Nat} {x : Option MV} {f : List MV → M β} (k : ∀ a, Fl b (f a)) : Fl b (wAgg x f) := by
  unfold wAgg; split
  · exact k _
  · exact fl_fail b

theorem fl_allocAt (b : Nat) (cs : List MV) : Fl b (allocAt b cs) := fl_put (by simp) _
theorem fl_alloc1At (b : Nat) (v : MV) : Fl b (alloc1At b v) := fl_ite (fl_put (by simp) _) (fl_fail b)
theorem fl_mkMapAt (b : Nat) : Fl b (mkMapAt b) := fl_put (by simp) _
theorem fl_mkSlAt (b e n : Nat) (z : List MV) (l c : Int) : Fl b (mkSlAt b e n z l c) := fl_ite (fl_put (by simp) _) (fl_fail b)
theorem fl_toBytesAt (b : Nat) (s : List UInt8) : Fl b (toBytesAt b s) := fl_ite (fl_put (by simp) _) (fl_fail b)

/-- The number of the block that an operation fills. -/
def Ins.fb : Ins → Option Nat
  | .allocA _ b _ | .boxA _ b _ _ | .bsliceA _ b _ _ _ _ | .mkSlA _ b _ _ _ _ _ | .toBytesA _ b _ | .mkMapA _ b => some b
  | _ => none

variable {C : List (Nat × Entry)}

theorem fl_ins {x : Ins} (hc : x.cls = 2) (A : Fr) : ∃ b, x.fb = some b ∧ Fl b (evIns C x A tp) := by
  cases x with
  | allocA d b z => exact ⟨b, rfl, fl_bd (fl_allocAt b z) fun _ => pu_ret _⟩
  | boxA d b a x =>
    refine ⟨b, rfl, ?_⟩
    cases a <;> simp only [evIns, tp_set]
    · exact fl_okOf fun _ => fl_bd (fl_alloc1At _ _) fun _ => pu_ret _
    · exact fl_wAgg fun _ => fl_bd (fl_allocAt _ _) fun _ => pu_ret _
  | bsliceA d b e len z parts => exact ⟨b, rfl, fl_okOf fun _ => fl_okOf fun _ => fl_bd (fl_allocAt b _) fun _ => pu_ret _⟩
  | mkSlA d b e bytes z len cap => exact ⟨b, rfl, fl_wInt fun _ _ => fl_wInt fun _ _ => fl_bd (fl_mkSlAt _ _ _ _ _ _) fun _ => pu_ret _⟩
  | toBytesA d b x => exact ⟨b, rfl, fl_wStr fun _ => fl_bd (fl_toBytesAt _ _) fun _ => pu_ret _⟩
  | mkMapA d b => exact ⟨b, rfl, fl_bd (fl_mkMapAt b) fun _ => pu_ret _⟩
  | _ => simp [Ins.cls] at hc

/-- It changes one block at most. -/
def Ch (ob : Option Nat) (m : M α) : Prop := ∀ h a h', m h = some (a, h') → h.size ≤ h'.size ∧ ∀ b, b < h.size → ob ≠ some b → h'.get b = h.get b

theorem ch_fail (ob : Option Nat) : Ch ob (fail : M α) := fun h a h' e => by cases e
theorem ch_ret (ob : Option Nat) (a : α) : Ch ob (ret a) := fun h x h' e => by cases e; exact ⟨Nat.le_refl _, fun _ _ _ => rfl⟩
theorem ch_bd {ob : Option Nat} {m : M α} {f : α → M β} (k : Ch ob m) (kf : ∀ a, Ch ob (f a)) : Ch ob (bd m f) := fun h x h' e => by
  obtain ⟨a, h1, e1, e2⟩ := bd_some e
  obtain ⟨k1, k2⟩ := k _ _ _ e1
  obtain ⟨k3, k4⟩ := kf a _ _ _ e2
  exact ⟨Nat.le_trans k1 k3, fun b hb hn => (k4 b (Nat.lt_of_lt_of_le hb k1) hn).trans (k2 b hb hn)⟩
theorem ch_ite {ob : Option Nat} {c : Prop} [Decidable c] {m n : M α} (k : Ch ob m) (l : Ch ob n) : Ch ob (if c then m else n) := by
  split
  · exact k
  · exact l
theorem Pu.ch {ob : Option Nat} {m : M α} (k : Pu m) : Ch ob m := fun h a h' e => by
  obtain ⟨rfl, _⟩ := k _ _ _ e
  exact ⟨Nat.le_refl _, fun _ _ _ => rfl⟩
theorem Rd.ch {T : Nat → Prop} {ob : Option Nat} {m : M α} (k : Rd T m) : Ch ob m := fun h a h' e => by
  obtain ⟨rfl, _⟩ := k _ _ _ e
  exact ⟨Nat.le_refl _, fun _ _ _ => rfl⟩

theorem set_ch {h : Hp} {a : MA} {x : Blk} : h.size ≤ (h.set a.blk x).size ∧ ∀ b, b < h.size → some a.blk ≠ some b → (h.set a.blk x).get b = h.get b :=
  ⟨Nat.le_refl _, fun b _ hn => by rw [Hp.get_set, if_neg (fun c => hn (by rw [c]))]⟩

theorem ch_stc (q : Option MA) (v : MV) : Ch (q.map MA.blk) (stc q v) := by
  intro h a h' e
  unfold stc at e
  cases q with
  | none => cases e
  | some q =>
    dsimp only at e
    split at e
    · split at e
      · cases e; exact set_ch
      · cases e
    · cases e
theorem ch_stn (n : Nat) (q : Option MA) (v : List MV) : Ch (q.map MA.blk) (stn n q v) := by
  intro h a h' e
  unfold stn at e
  cases q with
  | none => cases e
  | some q =>
    dsimp only at e
    split at e
    · split at e
      · cases e; exact set_ch
      · cases e
    · cases e
theorem ch_mapPut (r : Option Nat) (k v : MV) : Ch r (mapPut r k v) := by
  intro h a h' e
  unfold mapPut at e
  cases r with
  | none => cases e
  | some q =>
    dsimp only at e
    split at e
    · split at e
      · cases e; exact set_ch (a := ⟨q, 0⟩)
      · cases e; exact set_ch (a := ⟨q, 0⟩)
      · cases e
    · cases e
theorem ch_mapDel (r : Option Nat) (k : MV) : Ch r (mapDel r k) := by
  intro h a h' e
  unfold mapDel at e
  cases r with
  | none => cases e; exact ⟨Nat.le_refl _, fun _ _ _ => rfl⟩
  | some q =>
    dsimp only at e
    split at e
    · split at e
      · cases e; exact set_ch (a := ⟨q, 0⟩)
      · cases e; exact ⟨Nat.le_refl _, fun _ _ _ => rfl⟩
      · cases e
    · cases e
theorem ch_mapClr (r : Option Nat) : Ch r (mapClr r) := by
  intro h a h' e
  unfold mapClr at e
  cases r with
  | none => cases e; exact ⟨Nat.le_refl _, fun _ _ _ => rfl⟩
  | some q =>
    dsimp only at e
    split at e
    · cases e; exact set_ch (a := ⟨q, 0⟩)
    · cases e
theorem ch_markB (s : Sl) : Ch (s.p.map MA.blk) (markB s) := by
  intro h a h' e
  unfold markB at e
  split at e
  · cases e
  · rename_i q hq
    rw [hq]
    split at e
    · split at e
      · cases e; exact set_ch
      · cases e
    · cases e
theorem ch_appc (e n : Nat) (s : Sl) (new : List MV) : Ch (s.p.map MA.blk) (appc e n s new) := by
  intro h a h' e
  unfold appc at e
  split at e
  · cases e; exact ⟨Nat.le_refl _, fun _ _ _ => rfl⟩
  · split at e
    · split at e
      · split at e
        · cases e; exact ⟨by simp, fun b hb _ => by rw [Hp.get_push, if_neg (by omega)]⟩
        · cases e
      · rename_i q hq
        rw [hq]
        split at e
        · split at e
          · cases e
            exact ⟨by simp, fun b hb hn => by rw [Hp.get_push, if_neg (by simp; omega)]; exact set_ch.2 b hb hn⟩
          · cases e
        · cases e
    · cases e
theorem ch_cellsOf {ob : Option Nat} (e : Nat) (s : Sl) : Ch ob (cellsOf e s) := (rd_cellsOf (T := fun _ => True) (fun _ _ => trivial)).ch
theorem ch_app (e n : Nat) (s t : Sl) : Ch (s.p.map MA.blk) (app e n s t) := ch_bd (ch_cellsOf e t) fun _ => ch_ite (ch_appc _ _ _ _) (ch_fail _)
theorem ch_copy (e : Nat) (d s : Sl) : Ch (d.p.map MA.blk) (copy e d s) := by
  unfold copy
  exact ch_ite (ch_ret _ _) (ch_bd (ch_cellsOf _ _) fun _ => ch_bd (ch_stn _ _ _) fun _ => ch_ret _ _)
theorem ch_copyS (d : Sl) (s : List UInt8) : Ch (d.p.map MA.blk) (copyS d s) := by
  unfold copyS
  exact ch_ite (ch_ret _ _) (ch_bd (ch_stn _ _ _) fun _ => ch_ret _ _)

/-- The block of the place that an operation changes. -/
def obOf (A : Fr) (p : Opd) : Option Nat := match p.mv A with
  | some v => blkM v
  | none => none

theorem ch_okOf {ob : Option Nat} {ε : Type u} {x : Option ε} {f : ε → M β} (k : ∀ v, Ch ob (f v)) : Ch ob (okOf x f) := by
  cases x with
  | none => exact ch_fail _
  | some v => exact k v
theorem ch_wIf {ob : Option Nat} {b : Bool} {m : M β} (k : Ch ob m) : Ch ob (wIf b m) := by
  unfold wIf; split
  · exact k
  · exact ch_fail _

theorem ch_pstore {ob : Option Nat} {pv : PV} {n : Option Nat} {o : Nat} {v : MV} {k : PV → M β} (kk : ∀ v, Ch ob (k v)) : Ch ob (pstore pv n o v k) := by
  unfold pstore
  split
  · exact ch_ite (kk _) (ch_fail _)
  · exact ch_ite (kk _) (ch_fail _)
  · exact ch_ite (ch_bd (ch_ite (ch_ret _ _) (ch_fail _)) fun _ => kk _) (ch_fail _)
  · exact ch_bd (ch_ite (ch_ret _ _) (ch_fail _)) fun _ => kk _
  · exact ch_bd (ch_ite (ch_ret _ _) (ch_fail _)) fun _ => kk _
  · exact ch_fail _

/-- What one that changes memory leaves. -/
theorem ch_ins {x : Ins} (hc : x.cls = 4) {p : Opd} (hp : x.pl = some p) {A A' : Fr} {h h' : Hp} (e : evIns C x A ret h = some (A', h')) : h.size ≤ h'.size ∧ ∀ b, b < h.size → obOf A p ≠ some b → h'.get b = h.get b := by
  have key : ∀ {m : M Fr}, Ch (obOf A p) m → m h = some (A', h') → h.size ≤ h'.size ∧ ∀ b, b < h.size → obOf A p ≠ some b → h'.get b = h.get b := fun k e => k _ _ _ e
  cases x with
  | store n p x =>
    cases hp
    cases n with
    | none =>
      simp only [evIns] at e
      rcases wPlace_some e with ⟨q, hv, e1⟩ | ⟨s, o, hv, e1⟩
      · have ho : obOf A p = q.map MA.blk := by simp only [obOf, mv_of_val hv, blkM]
        refine key ?_ e1
        rw [ho]
        exact ch_okOf fun _ => ch_bd (ch_stc _ _) fun _ => ch_ret _ _
      · refine key (ch_okOf fun pv => ch_wIf (ch_okOf fun v => ?_)) e1
        exact ch_pstore fun _ => ch_ret _ _
    | some n =>
      simp only [evIns] at e
      rcases wPlace_some e with ⟨q, hv, e1⟩ | ⟨s, o, hv, e1⟩
      · have ho : obOf A p = q.map MA.blk := by simp only [obOf, mv_of_val hv, blkM]
        obtain ⟨vs, _, e2⟩ := wAgg_some e1
        refine key ?_ e2
        rw [ho]
        exact ch_bd (ch_stn _ _ _) fun _ => ch_ret _ _
      · refine key (ch_okOf fun pv => ch_wIf (ch_okOf fun v => ?_)) e1
        exact ch_pstore fun _ => ch_ret _ _
  | mapPut kt m kk x =>
    cases hp
    simp only [evIns] at e
    obtain ⟨r, hv, e1⟩ := wMap_some e
    have ho : obOf A p = r := by simp only [obOf, hv, blkM]
    refine key ?_ e1
    rw [ho]
    exact ch_okOf fun _ => ch_okOf fun _ => ch_wIf (ch_bd (ch_mapPut _ _ _) fun _ => ch_ret _ _)
  | mapDel kt m kk =>
    cases hp
    simp only [evIns] at e
    obtain ⟨r, hv, e1⟩ := wMap_some e
    have ho : obOf A p = r := by simp only [obOf, hv, blkM]
    refine key ?_ e1
    rw [ho]
    exact ch_okOf fun _ => ch_wIf (ch_bd (ch_mapDel _ _) fun _ => ch_ret _ _)
  | mapClr m =>
    cases hp
    simp only [evIns] at e
    obtain ⟨r, hv, e1⟩ := wMap_some e
    have ho : obOf A p = r := by simp only [obOf, hv, blkM]
    refine key ?_ e1
    rw [ho]
    exact ch_bd (ch_mapClr _) fun _ => ch_ret _ _
  | app d el by' s t =>
    cases hp
    simp only [evIns] at e
    obtain ⟨q, l, z, hv, e1⟩ := wSl_some e
    have ho : obOf A p = q.map MA.blk := by simp only [obOf, hv, blkM]
    obtain ⟨q2, l2, z2, hv2, e2⟩ := wSl_some e1
    refine key ?_ e2
    rw [ho]
    exact ch_ite (ch_bd (ch_app _ _ ⟨q, l⟩ _) fun _ => ch_ret _ _) (ch_fail _)
  | appS d s t =>
    cases hp
    simp only [evIns] at e
    obtain ⟨q, l, z, hv, e1⟩ := wSl_some e
    have ho : obOf A p = q.map MA.blk := by simp only [obOf, hv, blkM]
    obtain ⟨l2, hv2, e2⟩ := wStr_some e1
    refine key ?_ e2
    rw [ho]
    exact ch_ite (ch_bd (ch_appc _ _ ⟨q, l⟩ _) fun _ => ch_ret _ _) (ch_fail _)
  | copy d el s t =>
    cases hp
    simp only [evIns] at e
    obtain ⟨q, l, z, hv, e1⟩ := wSl_some e
    have ho : obOf A p = q.map MA.blk := by simp only [obOf, hv, blkM]
    obtain ⟨q2, l2, z2, hv2, e2⟩ := wSl_some e1
    refine key ?_ e2
    rw [ho]
    exact ch_ite (ch_bd (ch_copy _ ⟨q, l⟩ _) fun _ => ch_ret _ _) (ch_fail _)
  | copyS d s t =>
    cases hp
    simp only [evIns] at e
    obtain ⟨q, l, z, hv, e1⟩ := wSl_some e
    have ho : obOf A p = q.map MA.blk := by simp only [obOf, hv, blkM]
    obtain ⟨l2, hv2, e2⟩ := wStr_some e1
    refine key ?_ e2
    rw [ho]
    exact ch_ite (ch_bd (ch_copyS ⟨q, l⟩ _) fun _ => ch_ret _ _) (ch_fail _)
  | markB d s =>
    cases hp
    simp only [evIns] at e
    obtain ⟨q, l, z, hv, e1⟩ := wSl_some e
    have ho : obOf A p = q.map MA.blk := by simp only [obOf, hv, blkM]
    refine key ?_ e1
    rw [ho]
    exact ch_ite (ch_bd (ch_markB ⟨q, l⟩) fun _ => ch_ret _ _) (ch_fail _)
  | _ => first | (simp [Ins.cls] at hc; done) | (simp [Ins.pl] at hp; done)

end
end Go.Mini
