/- Maps: what is found under a key; entries that are put. -/
import Derived.Test.YtfieiaijdalkbaaGreatML3
namespace Go.Mini
section
variable {P : Program} {ρ : Rho} {w : World}
def KeyOf (d : TypeDesc) (key : MV) : Prop := (∃ k n, key = .int k n ∧ d = .int k) ∨ (∃ s, key = .str s ∧ d = .string) ∨ ∃ b, key = .bool b ∧ d = .bool
theorem keyOf_of {t : TypeId} {c : CTy} (h : cty P t = some c) {key : MV} (hk : keyKind c key = true) : ∃ d, P.underlying t = some d ∧ KeyOf d key := by
 unfold keyKind at hk
 split at hk
 ·have := of_decide_eq_true hk
  subst this
  exact ⟨_, cty_int h, .inl ⟨_, _, rfl, rfl⟩⟩
 ·exact ⟨_, cty_str h, .inr (.inl ⟨_, rfl, rfl⟩)⟩
 ·exact ⟨_, cty_bool h, .inr (.inr ⟨_, rfl, rfl⟩)⟩
 ·cases hk
theorem keyEq_eq {a b : MV} (h : keyEq a b = some true) : b = a := by
 unfold keyEq at h
 split at h
 ·split at h
  ·rename_i e; subst e; simp at h; rw [h]
  ·cases h
 ·simp at h; rw [h]
 ·simp at h; rw [h]
 ·cases h
theorem sameNow_of {d : TypeDesc} {key k : MV} (hd : KeyOf d key) {rk re : Value} (h1 : VRel ρ key rk) (h2 : VRel ρ k re) {b : Bool} (h : keyEq key k = some b) : Instr.sameNow d rk re = some b := by
 rcases hd with ⟨kd, n, rfl, rfl⟩ | ⟨s, rfl, rfl⟩ | ⟨x, rfl, rfl⟩
 ·cases h1
  cases k <;> simp only [keyEq] at h <;> first | (cases h; done) | skip
  cases h2
  split at h
  ·rename_i e
   subst e
   cases h
   simp only [Instr.sameNow, if_true]
   congr 1
  ·cases h
 ·cases h1
  cases k <;> simp only [keyEq] at h <;> first | (cases h; done) | skip
  cases h2
  cases h
  simp only [Instr.sameNow, bytes_beq]
 ·cases h1
  cases k <;> simp only [keyEq] at h <;> first | (cases h; done) | skip
  cases h2
  cases h
  simp only [Instr.sameNow]
  congr 1
theorem findNow_spec {d : TypeDesc} {key : MV} (hd : KeyOf d key) {rk : Value} (h1 : VRel ρ key rk) {es : List (MV × MV)} {rs : List MapEntry} (hr : ERel ρ es rs) :
  ∀ {r : Option (Nat × MV)}, findK key es = some r → ∀ i, ∃ r', Instr.findNow d rk rs i = some r' ∧ ((r = none ∧ r' = none) ∨ ∃ j v x e, r = some (j, v) ∧ r' = some (i + j, x) ∧ VRel ρ v x ∧ rs[j]? = some e ∧ VRel ρ key e.key) := by
 induction hr with
 | nil => intro r h i; cases h; exact ⟨none, rfl, .inl ⟨rfl, rfl⟩⟩
 | cons k v e es rs hk hv h ih =>
  intro r hf i
  simp only [findK] at hf
  simp only [Instr.findNow]
  cases hq : keyEq key k with
  | none => rw [hq] at hf; cases hf
  | some b =>
   rw [hq] at hf
   rw [sameNow_of hd h1 hk hq]
   cases b with
   | true =>
    cases hf
    have := keyEq_eq hq
    subst this
    exact ⟨_, rfl, .inr ⟨0, v, e.val, e, rfl, rfl, hv, rfl, hk⟩⟩
   | false =>
    dsimp only at hf ⊢
    cases hg : findK key es with
    | none => rw [hg] at hf; cases hf
    | some r0 =>
     rw [hg] at hf
     obtain ⟨r', h2, h3⟩ := ih hg (i + 1)
     refine ⟨r', h2, ?_⟩
     rcases h3 with ⟨rfl, rfl⟩ | ⟨j, u, x, e', rfl, rfl, h4, h5, h6⟩
     ·cases hf; exact .inl ⟨rfl, rfl⟩
     ·cases hf
      exact .inr ⟨j + 1, u, x, e', rfl, by rw [show i + 1 + j = i + (j + 1) by omega], h4, by simpa using h5, h6⟩
theorem findKey_run {t : TypeId} {d : TypeDesc} (hu : P.underlying t = some d) {rk : Value} {rs : List MapEntry} {r' : Option (Nat × Value)} (h : Instr.findNow d rk rs 0 = some r') : (Instr.findKey t rk rs).run P w = .ok r' w := by
 unfold Instr.findKey
 simp [und_run hu, h]
theorem checkKey_run {t : TypeId} {d : TypeDesc} (hu : P.underlying t = some d) {key : MV} (hd : KeyOf d key) {rk : Value} (n : Nat) (b : Bool) : (Instr.checkKey b (n + 1) t rk).run P w = .ok () w := by
 rcases hd with ⟨kd, m, rfl, rfl⟩ | ⟨s, rfl, rfl⟩ | ⟨x, rfl, rfl⟩ <;> simp [Instr.checkKey, und_run hu]
theorem look_sound {h : Hp} (kh : HRel ρ h w.heap) {t kt E : TypeId} (hu : P.underlying t = some (.map kt E)) {c : CTy} (hc : cty P kt = some c) {m : Option Nat} {key : MV} (hk : keyKind c key = true) {rm rk : Value} (hm : VRel ρ (.map m) rm) (hr : VRel ρ key rk)
  {zi : TypeInfo} {zv : Value} (hi : P.info? E = some zi) (hz : zi.zero = some zv) {z : MV} (hzr : VRel ρ z zv) {o : Option MV} {h' : Hp} (e : mapLook m key h = some (o, h')) :
  h' = h ∧ ∃ x, VRel ρ (o.getD z) x ∧ ∀ ok : Bool, (Instr.lookup t rm rk ok).run P w = .ok (if ok then .tuple #[x, .bool o.isSome] else x) w := by
 obtain ⟨d, hd, hkd⟩ := keyOf_of hc hk
 obtain ⟨es, h1, e1, e2⟩ := bd_some e
 have key0 : ∀ (rs : Array MapEntry), ERel ρ es rs.toList → h1 = h → (∀ (ok : Bool) (r' : Option (Nat × Value)), Instr.findNow d rk rs.toList 0 = some r' →
   (Instr.lookup t rm rk ok).run P w = .ok (if ok then .tuple #[(match r' with | some (_, v) => v | none => zv), .bool r'.isSome] else (match r' with | some (_, v) => v | none => zv)) w) →
   h' = h ∧ ∃ x, VRel ρ (o.getD z) x ∧ ∀ ok : Bool, (Instr.lookup t rm rk ok).run P w = .ok (if ok then .tuple #[x, .bool o.isSome] else x) w := by
  intro rs hers hh hrun
  subst hh
  cases hf : findK key es with
  | none => rw [hf] at e2; cases e2
  | some r =>
   rw [hf] at e2
   obtain ⟨r', h3, h4⟩ := findNow_spec hkd hr hers hf 0
   rcases h4 with ⟨rfl, rfl⟩ | ⟨j, v, x, e', rfl, rfl, h5, _⟩
   ·cases e2
    exact ⟨rfl, zv, hzr, fun ok => hrun ok none h3⟩
   ·cases e2
    exact ⟨rfl, x, h5, fun ok => hrun ok _ h3⟩
 cases hm with
 | mapNil =>
  cases e1
  refine key0 #[] .nil rfl fun ok r' h3 => ?_
  cases r' <;> cases ok <;> simp [Instr.lookup, und_run hu, checkKey_run hd hkd 9999, findKey_run hd h3, zeroValue_run hi hz]
 | map b rb hb =>
  simp only [mapGet] at e1
  split at e1
  ·rename_i es' hg
   cases e1
   have hbk := kh.blk _ _ hb
   rw [hg] at hbk
   obtain ⟨rs, ck, h3, h4⟩ := hbk
   refine key0 rs h4 rfl fun ok r' h5 => ?_
   cases r' <;> cases ok <;> simp [Instr.lookup, und_run hu, getObj, Sem.run, h3, checkKey_run hd hkd 9999, findKey_run hd h5, zeroValue_run hi hz]
  ·cases e1
theorem ERel.set {es : List (MV × MV)} {rs : List MapEntry} (hr : ERel ρ es rs) {key v : MV} {x : Value} (hv : VRel ρ v x) : ∀ (j : Nat) (f : MapEntry → MapEntry), (∀ e, rs[j]? = some e → VRel ρ key (f e).key ∧ (f e).val = x) → ERel ρ (es.set j (key, v)) (rs.modify j f) := by
 induction hr with
 | nil => intro j f _; cases j <;> exact .nil
 | cons k u e es rs hk hu h ih =>
  intro j f hf
  cases j with
  | zero =>
   obtain ⟨h1, h2⟩ := hf e rfl
   exact .cons _ _ _ _ _ h1 (by rw [h2]; exact hv) h
  | succ j => exact .cons _ _ _ _ _ hk hu (ih j f fun e' he => hf e' (by simpa using he))
theorem ERel.push {es : List (MV × MV)} {rs : List MapEntry} (hr : ERel ρ es rs) {key v : MV} {e : MapEntry} (hk : VRel ρ key e.key) (hv : VRel ρ v e.val) : ERel ρ (es ++ [(key, v)]) (rs ++ [e]) := by
 induction hr with
 | nil => exact .cons _ _ _ _ _ hk hv .nil
 | cons k u e' es rs hk' hu h ih => exact .cons _ _ _ _ _ hk' hu ih
theorem sameBits_key {d : TypeDesc} {key : MV} (hd : KeyOf d key) {a b : Value} (h1 : VRel ρ key a) (h2 : VRel ρ key b) : a = b ∧ ∀ n, Instr.sameBits n a b = true := by
 rcases hd with ⟨kd, n, rfl, rfl⟩ | ⟨s, rfl, rfl⟩ | ⟨x, rfl, rfl⟩ <;> cases h1 <;> cases h2 <;> refine ⟨rfl, fun n => ?_⟩ <;> simp [Instr.sameBits, bytes_beq]
theorem heap_setBlock (w : World) (b : Nat) (o : Obj) (hb : b < w.heap.size) : (w.heap.setIfInBounds b o)[b]? = some o := by
 simp [Array.getElem?_setIfInBounds, hb]
theorem put_sound {h : Hp} (kh : HRel ρ h w.heap) {t kt E : TypeId} (hu : P.underlying t = some (.map kt E)) {c : CTy} (hc : cty P kt = some c) {m : Option Nat} {key v : MV} (hk : keyKind c key = true) {rm rk rv : Value} (hm : VRel ρ (.map m) rm) (hr : VRel ρ key rk) (hv : VRel ρ v rv)
  {h' : Hp} {u : Unit} (e : mapPut m key v h = some (u, h')) : ∃ w', (Instr.mapUpdate t rm rk rv).run P w = .ok () w' ∧ HRel ρ h' w'.heap ∧ HStp ρ h w ρ h' w' := by
 obtain ⟨d, hd, hkd⟩ := keyOf_of hc hk
 cases hm with
 | mapNil => cases e
 | map b rb hb =>
  simp only [mapPut] at e
  split at e
  ·rename_i es hg
   have hbk := kh.blk _ _ hb
   rw [hg] at hbk
   obtain ⟨rs, ck, h3, h4⟩ := hbk
   have hlt : rb.r < w.heap.size := (Array.getElem?_eq_some_iff.1 h3).1
   have fin : ∀ (es' : List (MV × MV)) (rs' : Array MapEntry) (ck' : Nat), h' = h.set b (.map es') → ERel ρ es' rs'.toList →
     (Instr.mapUpdate t (.map (some rb.r)) rk rv).run P w = (setObj rb.r (.map rs' ck') : Sem Unit).run P w → ∃ w', (Instr.mapUpdate t (.map (some rb.r)) rk rv).run P w = .ok () w' ∧ HRel ρ h' w'.heap ∧ HStp ρ h w ρ h' w' := by
    intro es' rs' ck' hh her hrun
    subst hh
    refine ⟨{ w with heap := w.heap.setIfInBounds rb.r (.map rs' ck') }, ?_, ?_⟩
    ·rw [hrun]
     simp [setObj, Sem.run, h3]
    ·exact kh.write (w' := { w with heap := w.heap.setIfInBounds rb.r (.map rs' ck') }) (.map es') hb (.inr ⟨es, hg⟩) (by simp) (by simp) (by simp) (fun i hi => by simp [Array.getElem?_setIfInBounds, Ne.symm hi]) rfl rfl rfl
      ⟨rs', ck', heap_setBlock w rb.r _ hlt, her⟩
   cases hf : findK key es with
   | none => rw [hf] at e; cases e
   | some r =>
    rw [hf] at e
    obtain ⟨r', h5, h6⟩ := findNow_spec hkd hr h4 hf 0
    rcases h6 with ⟨rfl, rfl⟩ | ⟨j, u', x, e', rfl, rfl, _, h7, h8⟩
    ·cases e
     refine fin _ (rs.push { key := rk, val := rv, born := ck }) (ck + 1) rfl ?_ ?_
     ·rw [Array.toList_push]
      exact h4.push hr hv
     ·simp [Instr.mapUpdate, und_run hu, getObj, Sem.run, h3, checkKey_run hd hkd 9999, findKey_run hd h5]
    ·cases e
     obtain ⟨rfl, hsb⟩ := sameBits_key hkd h8 hr
     have hj : rs[j]? = some e' := by simpa using h7
     refine fin _ (rs.modify j fun e => { e with key := e'.key, val := rv }) ck rfl ?_ ?_
     ·rw [Array.toList_modify]
      exact h4.set hv j _ fun e he => ⟨hr, rfl⟩
     ·simp [Instr.mapUpdate, und_run hu, getObj, Sem.run, h3, checkKey_run hd hkd 9999, findKey_run hd h5, hj, Instr.keyThatStays, hsb]
  ·cases e
theorem ERel.erase {es : List (MV × MV)} {rs : List MapEntry} (hr : ERel ρ es rs) : ∀ j, ERel ρ (es.eraseIdx j) (rs.eraseIdx j) := by
 induction hr with
 | nil => intro j; exact .nil
 | cons k u e es rs hk hu h ih =>
  intro j
  cases j with
  | zero => exact h
  | succ j => exact .cons _ _ _ _ _ hk hu (ih j)
theorem toList_eraseIn (rs : Array MapEntry) (j : Nat) : (rs.eraseIdxIfInBounds j).toList = rs.toList.eraseIdx j := by
 unfold Array.eraseIdxIfInBounds
 split
 ·simp
 ·rename_i h
  rw [List.eraseIdx_of_length_le (by simp at h ⊢; omega)]
theorem heap_same (w : World) (b : Nat) (o : Obj) (h : w.heap[b]? = some o) : ({ w with heap := w.heap.setIfInBounds b o } : World) = w := by
 have : w.heap.setIfInBounds b o = w.heap := by
  apply Array.ext_getElem?
  intro i
  rw [Array.getElem?_setIfInBounds]
  split
  ·rename_i e; subst e
   split
   ·exact h.symm
   ·rename_i hi; exact absurd (Array.getElem?_eq_some_iff.1 h).1 hi
  ·rfl
 rw [this]
theorem del_sound {h : Hp} (kh : HRel ρ h w.heap) {t t2 kt E ty : TypeId} (hu : P.underlying t = some (.map kt E)) {c : CTy} (hc : cty P kt = some c) {m : Option Nat} {key : MV} (hk : keyKind c key = true) {rm rk : Value} (hm : VRel ρ (.map m) rm) (hr : VRel ρ key rk)
  {h' : Hp} {u : Unit} (e : mapDel m key h = some (u, h')) : ∃ w', (Builtin.delete_ #[t, t2] ty #[rm, rk]).run P w = .ok (.tuple #[]) w' ∧ HRel ρ h' w'.heap ∧ HStp ρ h w ρ h' w' := by
 obtain ⟨d, hd, hkd⟩ := keyOf_of hc hk
 cases hm with
 | mapNil =>
  cases e
  refine ⟨w, ?_, kh, HStp.refl _ _ _⟩
  simp [Builtin.delete_, und_run hu, checkKey_run hd hkd 9999]
 | map b rb hb =>
  simp only [mapDel] at e
  split at e
  ·rename_i es hg
   have hbk := kh.blk _ _ hb
   rw [hg] at hbk
   obtain ⟨rs, ck, h3, h4⟩ := hbk
   have hlt : rb.r < w.heap.size := (Array.getElem?_eq_some_iff.1 h3).1
   cases hf : findK key es with
   | none => rw [hf] at e; cases e
   | some r =>
    rw [hf] at e
    obtain ⟨r', h5, h6⟩ := findNow_spec hkd hr h4 hf 0
    rcases h6 with ⟨rfl, rfl⟩ | ⟨j, u', x, e', rfl, rfl, _, h7, h8⟩
    ·cases e
     refine ⟨w, ?_, kh, HStp.refl _ _ _⟩
     simp [Builtin.delete_, und_run hu, getObj, setObj, Sem.run, h3, checkKey_run hd hkd 9999, findKey_run hd h5, heap_same w rb.r _ h3]
    ·cases e
     refine ⟨{ w with heap := w.heap.setIfInBounds rb.r (.map (rs.eraseIdxIfInBounds j) ck) }, ?_, ?_⟩
     ·simp [Builtin.delete_, und_run hu, getObj, setObj, Sem.run, h3, checkKey_run hd hkd 9999, findKey_run hd h5]
     ·exact kh.write (w' := { w with heap := w.heap.setIfInBounds rb.r (.map (rs.eraseIdxIfInBounds j) ck) }) (.map (es.eraseIdx j)) hb (.inr ⟨es, hg⟩) (by simp) (by simp) (by simp) (fun i hi => by simp [Array.getElem?_setIfInBounds, Ne.symm hi]) rfl rfl rfl
       ⟨_, ck, heap_setBlock w rb.r _ hlt, by rw [toList_eraseIn]; exact h4.erase j⟩
  ·cases e
theorem clr_sound {h : Hp} (kh : HRel ρ h w.heap) {t kt E ty : TypeId} (hu : P.underlying t = some (.map kt E)) {m : Option Nat} {rm : Value} (hm : VRel ρ (.map m) rm)
  {h' : Hp} {u : Unit} (e : mapClr m h = some (u, h')) : ∃ w', (Builtin.clear_ #[t] ty #[rm]).run P w = .ok (.tuple #[]) w' ∧ HRel ρ h' w'.heap ∧ HStp ρ h w ρ h' w' := by
 cases hm with
 | mapNil =>
  cases e
  refine ⟨w, ?_, kh, HStp.refl _ _ _⟩
  simp [Builtin.clear_, und_run hu]
 | map b rb hb =>
  simp only [mapClr] at e
  split at e
  ·rename_i es hg
   have hbk := kh.blk _ _ hb
   rw [hg] at hbk
   obtain ⟨rs, ck, h3, h4⟩ := hbk
   have hlt : rb.r < w.heap.size := (Array.getElem?_eq_some_iff.1 h3).1
   cases e
   refine ⟨{ w with heap := w.heap.setIfInBounds rb.r (.map #[] ck) }, ?_, ?_⟩
   ·simp [Builtin.clear_, und_run hu, getObj, setObj, Sem.run, h3]
   ·exact kh.write (w' := { w with heap := w.heap.setIfInBounds rb.r (.map #[] ck) }) (.map []) hb (.inr ⟨es, hg⟩) (by simp) (by simp) (by simp) (fun i hi => by simp [Array.getElem?_setIfInBounds, Ne.symm hi]) rfl rfl rfl
     ⟨_, ck, heap_setBlock w rb.r _ hlt, .nil⟩
  ·cases e
theorem slClr_sound {h : Hp} (kh : HRel ρ h w.heap) {t E ty : TypeId} (hu : P.underlying t = some (.slice E)) {z : List MV} (hz : zeroOf P E = some z) (hl : z.length = P.cellsOf E) {p : Option MA} {l e : Nat} {rm : Value} (hm : VRel ρ (.sl p l e) rm)
  {h' : Hp} {u : Unit} (e1 : slClr (P.cellsOf E) z ⟨p, l⟩ h = some (u, h')) : ∃ w', (Builtin.clear_ #[t] ty #[rm]).run P w = .ok (.tuple #[]) w' ∧ HRel ρ h' w'.heap ∧ HStp ρ h w ρ h' w' := by
 unfold slClr at e1
 by_cases h0 : l = 0
 ·subst h0
  rw [if_pos rfl] at e1
  cases e1
  refine ⟨w, ?_, kh, HStp.refl _ _ _⟩
  cases hm with
  | slNil => simp [Builtin.clear_, und_run hu]
  | sl a rb _ _ cap ra hb hlc hca => simp [Builtin.clear_, und_run hu]
 ·rw [if_neg h0] at e1
  cases hm with
  | slNil => exact absurd rfl h0
  | sl a rb _ _ cap ra hb hlc hca =>
   obtain ⟨i, v, hi, hv, hr⟩ := zeroOf_spec hz
   have hrel := reps_rel (ρ := ρ) l (hr ρ) (P.cellsOf E) hl
   simp only [stn] at e1
   split at e1
   ·rename_i cs hg
    split at e1
    ·rename_i hcc
     cases e1
     obtain ⟨w', hr2, h1, h2⟩ := row_store (P := P) kh hb hg a.off hrel hcc.2.2 hcc.1
     refine ⟨w', ?_, h1, h2⟩
     have hsz : v.cells.size = P.cellsOf E := by
      have := (hr ρ).length
      rw [← hl, this]
      simp
     rcases hca with hca | ⟨rfl, hca⟩
     ·omega
     have hne : ∃ n, l = n + 1 := ⟨l - 1, by omega⟩
     obtain ⟨n, rfl⟩ := hne
     simp only [Builtin.clear_, Sem.run_bind, und_run hu, Result.andThen_ok, zeroValue_run hi hv, Builtin.zeroCells, hsz]
     simp [und_run hu, zeroValue_run hi hv, hsz]
     simp [hsz] at hr2
     rw [hr2]
     rfl
    ·cases e1
   ·cases e1
end
end Go.Mini
