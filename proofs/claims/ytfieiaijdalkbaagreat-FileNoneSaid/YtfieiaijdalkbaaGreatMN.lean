/- All single operations in one; regions. -/
import Derived.Test.YtfieiaijdalkbaaGreatMM
namespace Go.Mini
universe u
section
variable {P : Program} {β : Type} {s : S} {res : β × Hp} {next : Act → World → Prop} {Q : Exit → Act → World → Prop} {C : List (Nat × Entry)} {priv : List Nat}
theorem s_lookup {k : Fr → M β} {type : TypeId} {pos : String} {after : Array Edge} {guard : Option (Nat × Bool)} {ins : Ins} {d : Nat} {t : TypeId} {m kk : Operand} {okk : Bool} (ok : Ok s)
  (hc : compOp P priv ⟨some d, .lookup t m kk okk, type, pos, after, guard⟩ = some ins) (hn : insOk s.t.size ins = true) (e : evIns C ins s.fr k s.h = some res) (h : After s ins.dst k res next) :
  (⟨some d, .lookup t m kk okk, type, pos, after, guard⟩ : Oper).wp P ⟨s.t, []⟩ s.w next Q := by
 simp only [compOp] at hc
 split at hc
 ·rename_i kt E n hu
  split at hc
  ·rename_i c z key ktc hcE hz hkey hkt
   obtain ⟨zi, zv, hi, hzv, hzr⟩ := zeroOf_spec hz
   split at hc
   case h_2 => cases hc
   rename_i z1 hz1
   have hzz : VRel s.ρ z1 zv := by
    have h0 := hzr s.ρ
    unfold zeroV at hz1
    rw [hi] at hz1
    dsimp only at hz1
    rw [hzv] at hz1
    cases zv with
    | agg vs =>
     cases hz1
     have := VRel.agg z vs.toList h0
     simpa using this
    | _ =>
     simp only [Value.cells] at h0
     cases h0 with
     | cons _ _ _ _ h1 h2 =>
      cases h2
      cases hz1
      exact h1
   cases okk with
   | true =>
    cases hc
    obtain ⟨r, hv, e1⟩ := wMap_some e
    obtain ⟨kv, hk, e2⟩ := okOf_some e1
    obtain ⟨hkk, e3⟩ := wIf_some e2
    obtain ⟨o, h1, e4, e5⟩ := bd_some e3
    obtain ⟨y, h2, e6, e7⟩ := bd_some e5
    obtain ⟨e8, rfl⟩ := someOr_some e6
    obtain ⟨rfl, x, hx, hrun⟩ := look_sound (P := P) (w := s.w) ok.heap hu hkt hkk (tmp_mv ok hv) (opd_mv ok hkey hk) hi hzv hzz e4
    have hen := Ty.enc_dec e8
    rw [hen] at e7
    exact pure_step ok rfl (lt_of_insOk1 rfl hn) (rv := .tuple #[x, .bool o.isSome]) (by simp [execOp, hrun true]) (.tup _ [x, .bool o.isSome] (.cons _ _ _ _ hx (.cons _ _ _ _ (.bool _) .nil))) e7 h
   | false =>
    cases hc
    obtain ⟨r, hv, e1⟩ := wMap_some e
    obtain ⟨kv, hk, e2⟩ := okOf_some e1
    obtain ⟨hkk, e3⟩ := wIf_some e2
    obtain ⟨o, h1, e4, e5⟩ := bd_some e3
    obtain ⟨y, h2, e6, e7⟩ := bd_some e5
    obtain ⟨e8, rfl⟩ := someOr_some e6
    obtain ⟨rfl, x, hx, hrun⟩ := look_sound (P := P) (w := s.w) ok.heap hu hkt hkk (tmp_mv ok hv) (opd_mv ok hkey hk) hi hzv hzz e4
    have hen := Ty.enc_dec e8
    rw [hen] at e7
    exact pure_step ok rfl (lt_of_insOk1 rfl hn) (rv := x) (by simp [execOp, hrun false]) hx e7 h
  ·cases hc
 ·cases hc
theorem s_mapUpdate {k : Fr → M β} {type : TypeId} {pos : String} {after : Array Edge} {guard : Option (Nat × Bool)} {ins : Ins} {t : TypeId} {m kk x : Operand} (ok : Ok s)
  (hc : compOp P priv ⟨none, .mapUpdate t m kk x, type, pos, after, guard⟩ = some ins) (hn : insOk s.t.size ins = true) (e : evIns C ins s.fr k s.h = some res) (h : After s ins.dst k res next) :
  (⟨none, .mapUpdate t m kk x, type, pos, after, guard⟩ : Oper).wp P ⟨s.t, []⟩ s.w next Q := by
 simp only [compOp] at hc
 split at hc
 ·rename_i kt E n hu
  split at hc
  ·rename_i key a ktc hkey ha hkt
   cases hc
   obtain ⟨r, hv, e1⟩ := wMap_some e
   obtain ⟨kv, hk, e2⟩ := okOf_some e1
   obtain ⟨v, hv2, e3⟩ := okOf_some e2
   obtain ⟨hkk, e4⟩ := wIf_some e3
   obtain ⟨u, h1, e5, e6⟩ := bd_some e4
   obtain ⟨w', hrun, k1, k2⟩ := put_sound (P := P) (w := s.w) ok.heap hu hkt hkk (tmp_mv ok hv) (opd_mv ok hkey hk) (opd_mv ok ha hv2) e5
   obtain ⟨ok2, st⟩ := ok.step k1 k2
   exact fin_skip rfl (w' := w') (by simp [execOp, hrun]) (h _ ok2 st e6)
  ·cases hc
 ·cases hc
theorem fin_drop {o : Oper} (hd : o.dst = none) {y : Value} {w' : World} (hrun : (execOp (Act.eval ⟨s.t, []⟩) o).run P s.w = .ok (.value y) w') (h : next ⟨s.t, []⟩ w') : o.wp P ⟨s.t, []⟩ s.w next Q := by
 unfold Oper.wp
 rw [hrun, Oper.upon_value]
 simpa [Act.put, hd] using h
theorem s_delete {k : Fr → M β} {type : TypeId} {pos : String} {after : Array Edge} {guard : Option (Nat × Bool)} {ins : Ins} {args : Array Operand} {argTypes : Array TypeId} (ok : Ok s)
  (hc : compOp P priv ⟨none, .call ⟨.builtin .delete, args, argTypes⟩, type, pos, after, guard⟩ = some ins) (hn : insOk s.t.size ins = true) (e : evIns C ins s.fr k s.h = some res) (h : After s ins.dst k res next) :
  (⟨none, .call ⟨.builtin .delete, args, argTypes⟩, type, pos, after, guard⟩ : Oper).wp P ⟨s.t, []⟩ s.w next Q := by
 simp only [compOp] at hc
 split at hc
 ·rename_i t t2 x y ht hx
  obtain rfl : args = #[x, y] := arr_of_list hx
  obtain rfl : argTypes = #[t, t2] := arr_of_list ht
  split at hc
  ·rename_i kt E a hu ha
   split at hc
   ·rename_i key ktc hkey hkt
    cases hc
    obtain ⟨r, hv, e1⟩ := wMap_some e
    obtain ⟨kv, hk, e2⟩ := okOf_some e1
    obtain ⟨hkk, e4⟩ := wIf_some e2
    obtain ⟨u, h1, e5, e6⟩ := bd_some e4
    obtain ⟨w', hrun, k1, k2⟩ := del_sound (P := P) (w := s.w) (ty := type) (t2 := t2) ok.heap hu hkt hkk (opd_mv ok ha hv) (opd_mv ok hkey hk) e5
    obtain ⟨ok2, st⟩ := ok.step k1 k2
    exact fin_drop rfl (y := .tuple #[]) (w' := w') (by simp [execOp, resolve, invoke, builtin, hrun]) (h _ ok2 st e6)
   ·cases hc
  ·cases hc
 ·cases hc
theorem s_clear {k : Fr → M β} {type : TypeId} {pos : String} {after : Array Edge} {guard : Option (Nat × Bool)} {ins : Ins} {args : Array Operand} {argTypes : Array TypeId} (ok : Ok s)
  (hc : compOp P priv ⟨none, .call ⟨.builtin .clear, args, argTypes⟩, type, pos, after, guard⟩ = some ins) (hn : insOk s.t.size ins = true) (e : evIns C ins s.fr k s.h = some res) (h : After s ins.dst k res next) :
  (⟨none, .call ⟨.builtin .clear, args, argTypes⟩, type, pos, after, guard⟩ : Oper).wp P ⟨s.t, []⟩ s.w next Q := by
 simp only [compOp] at hc
 split at hc
 ·rename_i t x ht hx
  obtain rfl : args = #[x] := arr_of_list hx
  obtain rfl : argTypes = #[t] := arr_of_list ht
  split at hc
  ·rename_i kt E a hu ha
   cases hc
   obtain ⟨r, hv, e1⟩ := wMap_some e
   obtain ⟨u, h1, e5, e6⟩ := bd_some e1
   obtain ⟨w', hrun, k1, k2⟩ := clr_sound (P := P) (w := s.w) (ty := type) ok.heap hu (opd_mv ok ha hv) e5
   obtain ⟨ok2, st⟩ := ok.step k1 k2
   exact fin_drop rfl (y := .tuple #[]) (w' := w') (by simp [execOp, resolve, invoke, builtin, hrun]) (h _ ok2 st e6)
  ·rename_i E a hu ha
   split at hc
   ·rename_i z hz
    split at hc
    ·rename_i hl
     cases hc
     obtain ⟨p, l, z', hv, e1⟩ := wSl_some e
     obtain ⟨u, h1, e5, e6⟩ := bd_some e1
     obtain ⟨w', hrun, k1, k2⟩ := slClr_sound (P := P) (w := s.w) (ty := type) ok.heap hu hz hl (opd_mv ok ha hv) e5
     obtain ⟨ok2, st⟩ := ok.step k1 k2
     exact fin_drop rfl (y := .tuple #[]) (w' := w') (by simp [execOp, resolve, invoke, builtin, hrun]) (h _ ok2 st e6)
    ·cases hc
   ·cases hc
  ·cases hc
 ·cases hc
theorem ins_sound {k : Fr → M β} (hC : ∀ f en, look C f = some en → Sound P f en) {o : Oper} {ins : Ins} (ok : Ok s) (hc : compOp P priv o = some ins) (hn : insOk s.t.size ins = true) (e : evIns C ins s.fr k s.h = some res) (h : After s ins.dst k res next) :
  o.wp P ⟨s.t, []⟩ s.w next Q := by
 obtain ⟨dst, op, type, pos, after, guard⟩ := o
 cases dst with
 | none =>
  cases op with
  | store t a x => exact s_store ok hc hn e h
  | mapUpdate t m kk x => exact s_mapUpdate ok hc hn e h
  | call c =>
   obtain ⟨callee, args, argTypes⟩ := c
   cases callee with
   | builtin b =>
    cases b with
    | delete => exact s_delete ok hc hn e h
    | clear => exact s_clear ok hc hn e h
    | _ => cases hc
   | _ => cases hc
  | _ => cases hc
 | some d =>
  cases op with
  | move x => exact s_move ok hc hn e h
  | assign x => exact s_assign ok hc hn e h
  | unOp op t x => exact s_unOp ok hc hn e h
  | binOp op t x y u => exact s_binOp ok hc hn e h
  | convert a b x => exact s_convert ok hc hn e h
  | extract x i => exact s_extract ok hc hn e h
  | sliceToArrayPointer t x => exact s_arrAt ok hc hn e h
  | alloc t => exact s_alloc ok hc hn e h
  | box t x => exact s_box ok hc hn e h
  | build t parts => exact s_build ok hc hn e h
  | buildSlice t len parts => exact s_buildSlice ok hc hn e h
  | load t x => exact s_load ok hc hn e h
  | nilCheck x => exact s_nilCheck ok hc hn e h
  | fieldAddr t x i => exact s_fieldAddr ok hc hn e h
  | field t x i => exact s_field ok hc hn e h
  | indexAddr t x i => exact s_indexAddr ok hc hn e h
  | index t x i => exact s_index ok hc hn e h
  | slice t x lo hi mx =>
   cases mx with
   | none => exact s_slice ok hc hn e h
   | some m => cases hc
  | makeSlice t a b => exact s_makeSlice ok hc hn e h
  | makeMap t r =>
   cases r with
   | none => exact s_makeMap ok hc hn e h
   | some r => cases hc
  | lookup t m kk okk => exact s_lookup ok hc hn e h
  | makeFunc fn first caps =>
   cases fn with
   | func f => exact s_makeFunc ok hc hn e h
   | _ => cases hc
  | makeInterface t x => exact s_makeInterface ok hc hn e h
  | call c =>
   obtain ⟨callee, args, argTypes⟩ := c
   cases callee with
   | value f =>
    cases f with
    | func f => exact s_call_func ok hC hc hn e h
    | tmp n => exact s_call_tmp ok hC hc hn e h
    | _ => cases hc
   | invoke r m => cases hc
   | builtin b =>
    cases b with
    | len => exact s_len ok hc hn e h
    | min => exact s_min ok hc hn e h
    | max => exact s_max ok hc hn e h
    | append => exact s_append ok hc hn e h
    | copy => exact s_copy ok hc hn e h
    | _ => cases hc
  | _ => cases hc
end
end Go.Mini
