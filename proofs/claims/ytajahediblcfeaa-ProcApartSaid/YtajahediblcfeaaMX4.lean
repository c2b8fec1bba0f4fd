/- Regions whose order is drawn (4): whichever order comes, the same is found. -/
import Derived.Test.YtajahediblcfeaaMX3
namespace Go.Mini
universe u

section
variable {β : Type} {C : List (Nat × Entry)}

theorem runz_run {e : Entry} {vs : List MV} {k : MV → M β} {h : Hp} {res : β × Hp} (he : e.runz vs k h = some res) : e.run vs k h = some res := by
  unfold Entry.runz at he
  unfold Entry.run
  cases hd : e.dec vs with
  | none => rw [hd] at he; cases he
  | some a =>
    rw [hd] at he
    obtain ⟨r, h1, e1, e2⟩ := bd_some he
    simp only [bd, (frz_some e1).1]
    exact e2

theorem unz {w : Bool} {x : Ins} {fr : Fr} {k : Fr → M β} {h : Hp} {res : β × Hp} (e : evIns C (zIns w x) fr k h = some res) : evIns C x fr k h = some res := by
  cases x with
  | mv d x =>
    simp only [zIns, evIns] at e ⊢
    cases hv : x.val fr with
    | none => rw [hv] at e; cases e
    | some v => rw [hv] at e; cases v <;> first | exact e | cases e
  | call d f args =>
    cases w with
    | false => exact e
    | true =>
      simp only [zIns, cond_true, evIns] at e ⊢
      obtain ⟨vs, h1, e⟩ := okOf_some e
      obtain ⟨en, h2, e⟩ := okOf_some e
      rw [h1, h2]
      exact runz_run e
  | callv d f args =>
    cases w with
    | false => exact e
    | true =>
      simp only [zIns, cond_true, evIns] at e ⊢
      obtain ⟨g, caps, h0, e⟩ := wFn_some e
      obtain ⟨vs, h1, e⟩ := okOf_some e
      obtain ⟨en, h2, e⟩ := okOf_some e
      rw [h0, h1]
      simp only [wFn, okOf]
      rw [h2]
      exact runz_run e
  | _ => exact e

/-- What is given is known. -/
def NG (m : M FV) : Prop := ∀ h V h', m h = some (V, h') → V ≠ .gone

theorem ng_ret (v : MV) : NG (ret (.v v)) := fun h V h' e => by cases e; simp
theorem ng_loc (a b : Nat) : NG (ret (.loc a b)) := fun h V h' e => by cases e; simp
theorem ng_fail : NG fail := fun h V h' e => by cases e
theorem ng_bd {α : Type} {m : M α} {f : α → M FV} (k : ∀ a, NG (f a)) : NG (bd m f) := fun h V h' e => by
  obtain ⟨a, h1, _, e2⟩ := bd_some e
  exact k a _ _ _ e2
theorem ng_ite {c : Prop} [Decidable c] {m n : M FV} (k : NG m) (l : NG n) : NG (if c then m else n) := by
  split
  · exact k
  · exact l
theorem ng_okOf {ε : Type u} {x : Option ε} {f : ε → M FV} (k : ∀ v, NG (f v)) : NG (okOf x f) := by
  cases x with
  | none => exact ng_fail
  | some v => exact k v
theorem ng_wInt {x : Option MV} {f : IntKind → Int → M FV} (k : ∀ a b, NG (f a b)) : NG (wInt x f) := by
  unfold wInt; split
  · exact k _ _
  · exact ng_fail
theorem ng_wStr {x : Option MV} {f : List UInt8 → M FV} (k : ∀ a, NG (f a)) : NG (wStr x f) := by
  unfold wStr; split
  · exact k _
  · exact ng_fail
theorem ng_wSl {x : Option MV} {f : Option MA → Nat → Nat → M FV} (k : ∀ a b c, NG (f a b c)) : NG (wSl x f) := by
  unfold wSl; split
  · exact k _ _ _
  · exact ng_fail
theorem ng_wTup {x : Option MV} {f : List MV → M FV} (k : ∀ a, NG (f a)) : NG (wTup x f) := by
  unfold wTup; split
  · exact k _
  · exact ng_fail
theorem ng_wAgg {x : Option MV} {f : List MV → M FV} (k : ∀ a, NG (f a)) : NG (wAgg x f) := by
  unfold wAgg; split
  · exact k _
  · exact ng_fail
theorem ng_wMap {x : Option MV} {f : Option Nat → M FV} (k : ∀ a, NG (f a)) : NG (wMap x f) := by
  unfold wMap; split
  · exact k _
  · exact ng_fail
theorem ng_wPtr {x : Option MV} {f : Option MA → M FV} (k : ∀ a, NG (f a)) : NG (wPtr x f) := by
  unfold wPtr; split
  · exact k _
  · exact ng_fail
theorem ng_wFn {x : Option MV} {f : FuncId → List MV → M FV} (k : ∀ a b, NG (f a b)) : NG (wFn x f) := by
  unfold wFn; split
  · exact k _ _
  · exact ng_fail
theorem ng_wPlace {x : Option FV} {f : Option MA → M FV} {g : Nat → Nat → M FV} (k : ∀ a, NG (f a)) (l : ∀ a b, NG (g a b)) : NG (wPlace x f g) := by
  unfold wPlace; split
  · exact k _
  · exact l _ _
  · exact ng_fail
theorem ng_wIf {b : Bool} {m : M FV} (k : NG m) : NG (wIf b m) := by
  unfold wIf; split
  · exact k
  · exact ng_fail
theorem ng_wLive {x : Option FV} {f : FV → M FV} (k : ∀ v, v ≠ .gone → NG (f v)) : NG (wLive x f) := by
  unfold wLive; split
  · exact k _ (by simp)
  · exact k _ (by simp)
  · exact ng_fail
theorem ng_retF {v : FV} (h : v ≠ .gone) : NG (ret v) := fun _ V _ e => by cases e; exact h
theorem ng_intOf {fr : Fr} {x : Option Opd} {e : Int} {f : Int → M FV} (k : ∀ a, NG (f a)) : NG (intOf fr x e f) := by
  unfold intOf; split
  · exact k _
  · exact ng_wInt fun _ _ => k _
theorem ng_evPtr {p q : Option MA} {f : Bool → M FV} (k : ∀ b, NG (f b)) : NG (evPtr p q f) := by
  unfold evPtr; split
  · exact k _
  · exact ng_bd k
theorem ng_evUn {op : UnOp} {x : MV} {f : MV → M FV} (k : ∀ a, NG (f a)) : NG (evUn op x f) := by
  unfold evUn; split <;> first | exact k _ | exact ng_fail
theorem ng_evBin {op : BinOp} {x y : MV} {f : MV → M FV} (k : ∀ a, NG (f a)) : NG (evBin op x y f) := by
  unfold evBin
  split
  · exact ng_ite ng_fail (k _)
  · exact ng_ite ng_fail (k _)
  · refine ng_ite ?_ ng_fail
    split <;> first | exact k _ | exact ng_ite ng_fail (k _)
  all_goals first | exact k _ | exact ng_evPtr fun _ => k _ | exact ng_fail
theorem ng_pload {pv : PV} {t : Ty} {o : Nat} {f : MV → M FV} (k : ∀ a, NG (f a)) : NG (pload pv t o f) := by
  unfold pload
  split
  · exact ng_okOf k
  · exact ng_ite (k _) ng_fail
  · exact ng_ite (ng_bd fun _ => k _) ng_fail
  · exact ng_bd fun _ => ng_bd fun _ => k _
  · exact ng_bd fun _ => ng_bd fun _ => k _
  · exact ng_bd fun _ => k _
  · exact ng_fail
theorem ng_run {e : Entry} {vs : List MV} {f : MV → M FV} (k : ∀ v, NG (f v)) : NG (e.run vs f) := by
  unfold Entry.run; split
  · exact ng_bd fun _ => k _
  · exact ng_fail
theorem ng_runz {e : Entry} {vs : List MV} {f : MV → M FV} (k : ∀ v, NG (f v)) : NG (e.runz vs f) := by
  unfold Entry.runz; split
  · exact ng_bd fun _ => k _
  · exact ng_fail

theorem ng_ins {x : Ins} {d : Nat} (hd : x.val = some d) (hc : x.cls < 4) (A : Fr) : NG (evIns C x A tp) := by
  cases x with
  | palloc d pv => cases hd
  | pbox d n x => cases hd
  | store n p x => cases hd
  | mapPut kt m k x => cases hd
  | mv d x => simp [Ins.cls] at hc
  | box d a x => cases a <;> simp only [evIns, tp_set] <;> first | exact ng_okOf fun _ => ng_bd fun _ => ng_ret _ | exact ng_wAgg fun _ => ng_bd fun _ => ng_ret _
  | fldV d' off t x => cases t <;> simp only [evIns, tp_set] <;> first | exact ng_fail | exact ng_wAgg fun _ => ng_okOf fun _ => ng_ret _ | exact ng_wAgg fun _ => ng_ite (ng_ret _) ng_fail
  | _ =>
    simp only [evIns, tp_set, tp_setF, tp_setL]
    repeat (first
      | exact ng_ret _
      | exact ng_loc _ _
      | exact ng_fail
      | (exact ng_retF (by assumption))
      | refine ng_okOf fun _ => ?_
      | refine ng_wInt fun _ _ => ?_
      | refine ng_wStr fun _ => ?_
      | refine ng_wSl fun _ _ _ => ?_
      | refine ng_wTup fun _ => ?_
      | refine ng_wAgg fun _ => ?_
      | refine ng_wMap fun _ => ?_
      | refine ng_wPtr fun _ => ?_
      | refine ng_wFn fun _ _ => ?_
      | refine ng_wLive fun _ _ => ?_
      | refine ng_wIf ?_
      | refine ng_evBin fun _ => ?_
      | refine ng_evUn fun _ => ?_
      | refine ng_pload fun _ => ?_
      | refine ng_intOf fun _ => ?_
      | refine ng_run fun _ => ?_
      | refine ng_runz fun _ => ?_
      | refine ng_ite ?_ ?_
      | refine ng_bd fun _ => ?_
      | refine ng_wPlace (fun _ => ?_) (fun _ _ => ?_))

/-! ### What is checked of a region -/

theorem befOf_bit {o : Oper} {acc : List Nat} {j : Nat} (h : (befOf o acc).testBit j = true) : ∃ e ∈ o.after.toList, Region.binds .any e = true ∧ (j = e.on ∨ (acc.getD e.on 0).testBit j = true) := by
  unfold befOf at h
  generalize o.after.toList = l at h
  induction l with
  | nil => simp at h
  | cons e r ih =>
    simp only [List.foldr_cons] at h
    cases hb : Region.binds .any e with
    | false =>
      rw [hb] at h
      obtain ⟨e', h1, h2⟩ := ih h
      exact ⟨e', by simp [h1], h2⟩
    | true =>
      rw [hb] at h
      simp only [cond_true, Nat.testBit_or, Bool.or_eq_true] at h
      rcases h with (h | h) | h
      · obtain ⟨e', h1, h2⟩ := ih h
        exact ⟨e', by simp [h1], h2⟩
      · rw [Nat.one_shiftLeft, Nat.testBit_two_pow] at h
        simp at h
        exact ⟨e, by simp, hb, .inl h.symm⟩
      · exact ⟨e, by simp, hb, .inr h⟩

def Waits (L : Nat → Prop) (o : Oper) : Prop := ∀ e ∈ o.after.toList, Region.binds .any e = true → L e.on

theorem befs_dc {ops : List Oper} {L : Nat → Prop} (hdc : ∀ (i : Nat) o, ops[i]? = some o → L i → Waits L o) : ∀ (l : List Oper) (acc : List Nat), (∀ (i : Nat) o, l[i]? = some o → ops[acc.length + i]? = some o) →
    (∀ (i : Nat) m o, acc[i]? = some m → ops[i]? = some o → Waits L o → ∀ j, m.testBit j = true → L j) → ∀ (i : Nat) m o, (befs l acc)[i]? = some m → ops[i]? = some o → Waits L o → ∀ j, m.testBit j = true → L j
  | [], acc, _, ha => ha
  | o :: r, acc, hl, ha => by
    refine befs_dc hdc r (acc ++ [befOf o acc]) (fun i o' h => ?_) (fun i m o' hm ho hw j hj => ?_)
    · have := hl (i + 1) o' (by simpa using h)
      simpa [Nat.add_assoc, Nat.add_comm 1 i] using this
    · have h0 : ops[acc.length]? = some o := by have := hl 0 o rfl; simpa using this
      by_cases hi : i < acc.length
      · rw [List.getElem?_append_left hi] at hm
        exact ha i m o' hm ho hw j hj
      · have hi2 : i = acc.length := by
          have := (List.getElem?_eq_some_iff.1 hm).1
          simp at this
          omega
        subst hi2
        rw [List.getElem?_append_right (Nat.le_refl _)] at hm
        simp at hm
        subst hm
        rw [h0] at ho
        cases ho
        obtain ⟨e, he, hb, hor⟩ := befOf_bit hj
        have hL := hw e he hb
        rcases hor with rfl | hor
        · exact hL
        · cases hx : acc[e.on]? with
          | none => simp [List.getD_eq_getElem?_getD, hx] at hor
          | some m' =>
            have hlt : e.on < acc.length := (List.getElem?_eq_some_iff.1 hx).1
            have hlt2 : e.on < ops.length := Nat.lt_trans hlt (List.getElem?_eq_some_iff.1 h0).1
            obtain ⟨o'', ho''⟩ : ∃ o'', ops[e.on]? = some o'' := ⟨_, List.getElem?_eq_getElem hlt2⟩
            refine ha e.on m' o'' hx ho'' (hdc e.on o'' ho'' hL) j ?_
            simpa [List.getD_eq_getElem?_getD, hx] using hor

theorem opersOk_get : ∀ (l : List Oper) (i : Nat) (ds : List DD) (ms : List Nat), opersOk i l ds ms = true → ∀ (k : Nat) o, l[k]? = some o → ∃ a m, ds[k]? = some a ∧ ms[k]? = some m ∧ a.c < 4 ∧ optMem a.d a.us = false ∧
    (∀ e ∈ o.after.toList, Region.binds .any e = true → e.on < i + k) ∧ ∀ j wt, o.guard = some (j, wt) → j < i + k ∧ m.testBit j = true
  | [], _, _, _, _, k, o, ho => by simp at ho
  | o :: r, i, [], _, h, _, _, _ => by simp [opersOk] at h
  | o :: r, i, a :: ds, [], h, _, _, _ => by simp [opersOk] at h
  | o :: r, i, a :: ds, m :: ms, h, k, o', ho => by
    simp only [opersOk, Bool.and_eq_true, Bool.not_eq_true', List.all_eq_true, Bool.or_eq_true] at h
    obtain ⟨h1, h2, h3, h4, h5⟩ := h
    cases k with
    | zero =>
      simp at ho
      subst ho
      refine ⟨a, m, rfl, rfl, by simpa using h1, h2, fun e he hb => ?_, fun j wt hg => ?_⟩
      · rcases h3 e he with h | h
        · rw [hb] at h; cases h
        · simpa using h
      · rw [hg] at h4
        simp only [Bool.and_eq_true] at h4
        exact ⟨by simpa using h4.1, h4.2⟩
    | succ k =>
      obtain ⟨a', m', g1, g2, g3, g4, g5, g6⟩ := opersOk_get r (i + 1) ds ms h5 k o' (by simpa using ho)
      refine ⟨a', m', by simpa using g1, by simpa using g2, g3, g4, fun e he hb => ?_, fun j wt hg => ?_⟩
      · have := g5 e he hb; omega
      · have := g6 j wt hg; exact ⟨by omega, this.2⟩

theorem pairOk_get {a : DD} {i : Nat} : ∀ (r : List DD) (ms : List Nat), pairOk a i r ms = true → ∀ (k : Nat) b m, r[k]? = some b → ms[k]? = some m → sameO a.d b.d = false ∧ (clash a b = true → m.testBit i = true)
  | [], _, _, k, b, m, hb, _ => by simp at hb
  | _ :: _, [], h, _, _, _, _, _ => by simp [pairOk] at h
  | b :: r, m :: ms, h, k, b', m', hb, hm => by
    simp only [pairOk, Bool.and_eq_true, Bool.not_eq_true', Bool.or_eq_true] at h
    cases k with
    | zero =>
      simp at hb hm
      subst hb; subst hm
      refine ⟨h.1, fun hc => ?_⟩
      rcases h.2.1 with h1 | h1
      · rw [hc] at h1; cases h1
      · exact h1
    | succ k => exact pairOk_get r ms h.2.2 k b' m' (by simpa using hb) (by simpa using hm)

theorem pairsOk_get : ∀ (ds : List DD) (i : Nat) (ms : List Nat), pairsOk i ds ms = true → ∀ (k k' : Nat) a b m, k < k' → ds[k]? = some a → ds[k']? = some b → ms[k']? = some m → sameO a.d b.d = false ∧ (clash a b = true → m.testBit (i + k) = true)
  | [], _, _, _, k, k', a, b, m, _, ha, _, _ => by simp at ha
  | _ :: _, _, [], h, _, _, _, _, _, _, _, _, _ => by simp [pairsOk] at h
  | a :: r, i, m0 :: ms, h, k, k', a', b, m, hlt, ha, hb, hm => by
    simp only [pairsOk, Bool.and_eq_true] at h
    cases k' with
    | zero => omega
    | succ k' =>
      cases k with
      | zero =>
        simp at ha
        subst ha
        exact pairOk_get r ms h.1 k' b m (by simpa using hb) (by simpa using hm)
      | succ k =>
        have := pairsOk_get r (i + 1) ms h.2 k k' a' b m (by omega) (by simpa using ha) (by simpa using hb) (by simpa using hm)
        refine ⟨this.1, fun hc => ?_⟩
        have h2 := this.2 hc
        rwa [show i + 1 + k = i + (k + 1) by omega] at h2

section
variable {P : Program} {priv pu : List Nat} {ntmps : Nat} {w : Bool} {ops : Array Oper}

theorem ddOf_comp {o : Oper} {x : Ins} (hx : compOp P priv o = some x) : ddOf P w priv o = bif plainOpds (zIns w x).opds then ⟨(zIns w x).cls, slotsOf (zIns w x).opds, o.dst⟩ else ⟨9, [], none⟩ := by
  obtain ⟨dst, op, type, pos, after, guard⟩ := o
  unfold ddOf
  split
  · rename_i hop
    have hop' : op = _ := hop
    subst hop'
    cases dst <;> cases hx
  · rename_i hop
    have hop' : op = _ := hop
    subst hop'
    cases dst <;> cases hx
  · rw [hx]

theorem ddOf_pick {o : Oper} {wt : Bool} {gs n d : Nat} (h : pickOf o wt gs = some (n, d)) : ddOf P w priv o = ⟨0, [gs, n], o.dst⟩ := by
  obtain ⟨_, ⟨_, hop⟩ | ⟨_, hop⟩⟩ := pickOf_spec h
  · unfold ddOf; rw [hop]
  · unfold ddOf; rw [hop]

theorem ddOf_d {o : Oper} (h : (ddOf P w priv o).c < 4) : (ddOf P w priv o).d = o.dst := by
  unfold ddOf at h ⊢
  split
  · rfl
  · rfl
  · rename_i h1 h2
    split at h
    · rename_i hop; exact absurd hop (h1 _ _)
    · rename_i hop; exact absurd hop (h2 _ _)
    · split
      · rename_i x hx
        rw [hx] at h
        dsimp only at h
        cases hp : plainOpds (zIns w x).opds with
        | true => rfl
        | false => rw [hp] at h; simp at h
      · rename_i hx
        rw [hx] at h
        simp at h

/-- What is checked of a region whose order is drawn. -/
structure Facts (P : Program) (w : Bool) (priv : List Nat) (ops : Array Oper) : Prop where
  cls : ∀ (i : Nat) o, ops[i]? = some o → (ddOf P w priv o).c < 4
  own : ∀ (i : Nat) o d, ops[i]? = some o → o.dst = some d → d ∉ (ddOf P w priv o).us
  aft : ∀ (i : Nat) o, ops[i]? = some o → Waits (· < i) o
  grd : ∀ (i : Nat) o j wt, ops[i]? = some o → o.guard = some (j, wt) → j < i ∧ ∀ L : Nat → Prop, (∀ (i : Nat) o, ops[i]? = some o → L i → Waits L o) → Waits L o → L j
  dis : ∀ (i j : Nat) oi oj d, i < j → ops[i]? = some oi → ops[j]? = some oj → oi.dst = some d → oj.dst ≠ some d
  clh : ∀ (i j : Nat) oi oj, i < j → ops[i]? = some oi → ops[j]? = some oj → clash (ddOf P w priv oi) (ddOf P w priv oj) = true → ∀ L : Nat → Prop, (∀ (i : Nat) o, ops[i]? = some o → L i → Waits L o) → Waits L oj → L i

theorem facts_of {l : List Item} (h : drawOk P w priv ops l = true) : Facts P w priv ops ∧ P.follows .mixedOrders = true ∧ ∀ (i : Nat) o d, ops[i]? = some o → o.dst = some d → d ∈ itemsDsts l := by
  simp only [drawOk, Bool.and_eq_true] at h
  obtain ⟨h1, h2, h3, h4⟩ := h
  have hds : ∀ (k : Nat) o, ops[k]? = some o → (ops.toList.map (ddOf P w priv))[k]? = some (ddOf P w priv o) := fun k o ho => by
    rw [List.getElem?_map]
    have : ops.toList[k]? = some o := by simpa using ho
    rw [this]; rfl
  have get := fun (k : Nat) o (ho : ops[k]? = some o) => opersOk_get _ _ _ _ h3 k o (by simpa using ho)
  have mask : ∀ (i : Nat) m o, (befs ops.toList [])[i]? = some m → ops[i]? = some o → ∀ L : Nat → Prop, (∀ (i : Nat) o, ops[i]? = some o → L i → Waits L o) → Waits L o → ∀ j, m.testBit j = true → L j := by
    intro i m o hm ho L hdc hw j hj
    exact befs_dc (ops := ops.toList) (fun i o h => hdc i o (by simpa using h)) ops.toList [] (by simp) (by simp) i m o hm (by simpa using ho) hw j hj
  refine ⟨⟨?_, ?_, ?_, ?_, ?_, ?_⟩, h1, ?_⟩
  · intro i o ho
    obtain ⟨a, m, g1, _, g3, _⟩ := get i o ho
    rw [hds i o ho] at g1
    cases g1
    exact g3
  · intro i o d ho hd
    obtain ⟨a, m, g1, _, g3, g4, _⟩ := get i o ho
    rw [hds i o ho] at g1
    cases g1
    rw [ddOf_d g3, hd] at g4
    intro c
    have := (mem_iff _ _).2 c
    simp only [optMem] at g4
    rw [this] at g4
    cases g4
  · intro i o ho e he hb
    obtain ⟨a, m, _, _, _, _, g5, _⟩ := get i o ho
    have := g5 e he hb
    show e.on < i
    omega
  · intro i o j wt ho hg
    obtain ⟨a, m, _, g2, _, _, _, g6⟩ := get i o ho
    have := g6 j wt hg
    exact ⟨by omega, fun L hdc hw => mask i m o g2 ho L hdc hw j this.2⟩
  · intro i j oi oj d hlt hi hj hdi hdj
    obtain ⟨_, m, g1, g2, g3, _⟩ := get j oj hj
    obtain ⟨_, _, g4, _, g5, _⟩ := get i oi hi
    rw [hds j oj hj] at g1
    cases g1
    rw [hds i oi hi] at g4
    cases g4
    have := (pairsOk_get _ _ _ h4 i j _ _ m hlt (hds i oi hi) (hds j oj hj) g2).1
    rw [ddOf_d g3, ddOf_d g5, hdi, hdj] at this
    simp [sameO] at this
  · intro i j oi oj hlt hi hj hcl L hdc hw
    obtain ⟨_, m, _, g2, _⟩ := get j oj hj
    have := (pairsOk_get _ _ _ h4 i j _ _ m hlt (hds i oi hi) (hds j oj hj) g2).2 hcl
    rw [Nat.zero_add] at this
    exact mask j m oj g2 hj L hdc hw i this
  · intro i o d ho hd
    have := List.all_eq_true.1 h2 o (by
      have : ops.toList[i]? = some o := by simpa using ho
      exact List.mem_of_getElem? this)
    rw [hd] at this
    exact (mem_iff _ _).1 this

/-! ### What one operation turns, in the text's order -/

theorem step_w {i : Nat} {S S' : TS} (h : Step P priv ntmps w ops C i S S') {o : Oper} (ho : ops[i]? = some o) : ∀ x, o.dst ≠ some x → S'.W x = S.W x := by
  obtain ⟨o', ho', h⟩ := h
  rw [ho] at ho'
  cases ho'
  intro x hx
  rcases h with ⟨_, rfl⟩ | ⟨_, y, A, h', _, _, _, ⟨d, V, _, hd, _, rfl⟩ | ⟨_, _, A', u, _, _, rfl⟩⟩ | ⟨_, wt, gs, n, d, b, z, hp, _, _, _, _, rfl⟩
  · show putW S.W o.dst none x = S.W x
    unfold putW; rw [if_neg hx]
  · exact putW_ne _ _ (fun c => hx (by rw [hd, c]))
  · rfl
  · exact putW_ne _ _ (fun c => hx (by rw [(pickOf_spec hp).1, c]))

theorem step_hp (F : Facts P w priv ops) {i : Nat} {S S' : TS} (h : Step P priv ntmps w ops C i S S') {o : Oper} (ho : ops[i]? = some o) : ((ddOf P w priv o).c < 2 → S'.h = S.h ∧ S'.p = S.p) ∧ ((ddOf P w priv o).c < 3 → Grows S.h S'.h ∧ S'.p = S.p) := by
  obtain ⟨o', ho', h⟩ := h
  rw [ho] at ho'
  cases ho'
  have hcl := F.cls i o ho
  rcases h with ⟨_, rfl⟩ | ⟨_, y, A, h', hy, _, _, ⟨d, V, hv, hd, e, rfl⟩ | ⟨hn, _, A', u, _, _, rfl⟩⟩ | ⟨_, wt, gs, n, d, b, z, hp, _, _, _, _, rfl⟩
  · exact ⟨fun _ => ⟨rfl, rfl⟩, fun _ => ⟨Grows.refl _, rfl⟩⟩
  · have hdd := ddOf_comp (w := w) hy
    cases hp : plainOpds (zIns w y).opds with
    | false => rw [hp] at hdd; rw [hdd] at hcl; simp at hcl
    | true =>
      rw [hp] at hdd
      have hc : (ddOf P w priv o).c = (zIns w y).cls := by rw [hdd]; rfl
      rw [hc]
      refine ⟨fun h2 => ⟨(rd_ins hv h2 A _ _ _ e).1, rfl⟩, fun h3 => ⟨?_, rfl⟩⟩
      by_cases h2 : (zIns w y).cls < 2
      · show Grows S.h h'
        rw [(rd_ins hv h2 A _ _ _ e).1]; exact Grows.refl _
      · exact gr_ins hv (by omega) A _ _ _ e
  · have hdd := ddOf_comp (w := w) hy
    cases hp : plainOpds (zIns w y).opds with
    | false => rw [hp] at hdd; rw [hdd] at hcl; simp at hcl
    | true =>
      rw [hp] at hdd
      have hc : (ddOf P w priv o).c = 3 := by
        rw [hdd]
        show (zIns w y).cls = 3
        generalize zIns w y = q at hn
        cases q <;> first | rfl | cases hn
      rw [hc]
      exact ⟨fun c => by omega, fun c => by omega⟩
  · exact ⟨fun _ => ⟨rfl, rfl⟩, fun _ => ⟨Grows.refl _, rfl⟩⟩

end
end
end Go.Mini
