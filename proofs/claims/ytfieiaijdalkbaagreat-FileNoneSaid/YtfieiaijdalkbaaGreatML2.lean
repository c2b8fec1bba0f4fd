/- Single operations: calls, builtins, slices, structs, maps. -/
import Derived.Test.YtfieiaijdalkbaaGreatML
namespace Go.Mini
universe u
section
variable {P : Program} {β : Type} {s : S} {res : β × Hp} {next : Act → World → Prop} {Q : Exit → Act → World → Prop} {k : Fr → M β} {C : List (Nat × Entry)} {priv : List Nat}
variable {type : TypeId} {pos : String} {after : Array Edge} {guard : Option (Nat × Bool)} {ins : Ins} {d : Nat}
theorem opd_int (ok : Ok s) {t : TypeId} {x : Operand} {o : Opd} (ho : opd P t x = some o) {kd : IntKind} {n : Int} (hv : o.mv s.fr = some (.int kd n)) : Act.eval ⟨s.t, []⟩ x = .int kd n := by
 have h := opd_mv ok ho hv
 generalize Act.eval ⟨s.t, []⟩ x = q at h
 cases h
 rfl
theorem arr_of_list {α : Type} {a : Array α} {l : List α} (h : a.toList = l) : a = l.toArray := by rw [← h]
theorem map_arr {α γ : Type} (a : Array α) (f : α → γ) : a.map f = (a.toList.map f).toArray := by cases a; simp
theorem call_fin (ok : Ok s) {o : Oper} (hd : o.dst = some d) (hlt : d < s.t.size) {f : FuncId} {en : Entry} (hs : Sound P f en) {vs : List MV} {xs : List Value} (hv : VRels s.ρ vs xs)
  (hrun : (execOp (Act.eval ⟨s.t, []⟩) o).run P s.w = (callFunc f xs.toArray).run P s.w) (e : en.run vs (fun v => k (s.fr.set d v)) s.h = some res) (h : After s [d] k res next) : o.wp P ⟨s.t, []⟩ s.w next Q := by
 obtain ⟨v, h1, e1, e2⟩ := Entry.run_some e
 unfold Oper.wp
 rw [hrun, hs.enter, Oper.upon_enter]
 refine (hs.calls vs v s.h h1 e1 s.ρ s.w xs ok.heap hv).mono ?_
 rintro en w' ⟨rv, ρ', rfl, hr, kh, st⟩
 obtain ⟨k1, st1⟩ := ok.step kh st
 obtain ⟨k2, st2⟩ := k1.set (d := d) hlt hr
 have := h _ k2 ((st1.trans st2).mono (by simp)) e2
 simpa [Act.put, hd] using this
theorem s_call_func (ok : Ok s) (hC : ∀ f en, look C f = some en → Sound P f en) {f : FuncId} {args : Array Operand} {argTypes : Array TypeId}
  (hc : compOp P priv ⟨some d, .call ⟨.value (.func f), args, argTypes⟩, type, pos, after, guard⟩ = some ins) (hn : insOk s.t.size ins = true) (e : evIns C ins s.fr k s.h = some res) (h : After s ins.dst k res next) :
  (⟨some d, .call ⟨.value (.func f), args, argTypes⟩, type, pos, after, guard⟩ : Oper).wp P ⟨s.t, []⟩ s.w next Q := by
 obtain ⟨os, hos, rfl⟩ := map_some hc
 obtain ⟨vs, hvs, e1⟩ := okOf_some e
 obtain ⟨en, hen, e2⟩ := okOf_some e1
 have hv := opds_rel ok hos hvs
 refine call_fin ok rfl (lt_of_insOk1 rfl hn) (hC f en hen) hv ?_ e2 h
 simp only [execOp, resolve, map_arr, Deferred.ofValue, Act.eval, invoke, Sem.run_bind, Sem.run_pure, Result.andThen_ok, Array.empty_append, Array.append_empty]
theorem s_call_tmp (ok : Ok s) (hC : ∀ f en, look C f = some en → Sound P f en) {n : Nat} {args : Array Operand} {argTypes : Array TypeId}
  (hc : compOp P priv ⟨some d, .call ⟨.value (.tmp n), args, argTypes⟩, type, pos, after, guard⟩ = some ins) (hn : insOk s.t.size ins = true) (e : evIns C ins s.fr k s.h = some res) (h : After s ins.dst k res next) :
  (⟨some d, .call ⟨.value (.tmp n), args, argTypes⟩, type, pos, after, guard⟩ : Oper).wp P ⟨s.t, []⟩ s.w next Q := by
 obtain ⟨os, hos, rfl⟩ := map_some hc
 obtain ⟨g, caps, hg, e0⟩ := wFn_some e
 obtain ⟨vs, hvs, e1⟩ := okOf_some e0
 obtain ⟨en, hen, e2⟩ := okOf_some e1
 have hv := opds_rel ok hos hvs
 have hf := tmp_mv ok hg
 generalize hq : Act.eval ⟨s.t, []⟩ (.tmp n) = q at hf
 cases hf with
 | fn _ _ cs hcs =>
  refine call_fin ok rfl (lt_of_insOk1 rfl hn) (hC g en hen) (hv.append hcs) ?_ e2 h
  simp only [execOp, resolve, map_arr, hq, Deferred.ofValue, invoke, Sem.run_bind, Sem.run_pure, Result.andThen_ok, Array.empty_append, List.append_toArray, List.nil_append]
theorem s_len (ok : Ok s) {args : Array Operand} {argTypes : Array TypeId} (hc : compOp P priv ⟨some d, .call ⟨.builtin .len, args, argTypes⟩, type, pos, after, guard⟩ = some ins) (hn : insOk s.t.size ins = true) (e : evIns C ins s.fr k s.h = some res) (h : After s ins.dst k res next) :
  (⟨some d, .call ⟨.builtin .len, args, argTypes⟩, type, pos, after, guard⟩ : Oper).wp P ⟨s.t, []⟩ s.w next Q := by
 simp only [compOp] at hc
 split at hc
 ·rename_i t x ht hx
  obtain rfl : args = #[x] := arr_of_list hx
  obtain rfl : argTypes = #[t] := arr_of_list ht
  split at hc
  ·rename_i a hu ho
   cases hc
   obtain ⟨l, hv, e1⟩ := wStr_some e
   have hr := opd_mv ok ho hv
   generalize hq : Act.eval ⟨s.t, []⟩ x = q at hr
   cases hr
   exact pure_step ok rfl (lt_of_insOk1 rfl hn) (rv := .int .i64 l.length) (by simp [execOp, resolve, invoke, builtin, hq, Builtin.len_, und_run hu, goInt, show (⟨l.toArray⟩ : ByteArray).size = l.length from by simp [ByteArray.size]]) (.int _ _) e1 h
  ·rename_i E a hu ho
   cases hc
   obtain ⟨p, l, z, hv, e1⟩ := wSl_some e
   have hr := opd_mv ok ho hv
   generalize hq : Act.eval ⟨s.t, []⟩ x = q at hr
   cases hr with
   | slNil => exact pure_step ok rfl (lt_of_insOk1 rfl hn) (rv := .int .i64 0) (by simp [execOp, resolve, invoke, builtin, hq, Builtin.len_, und_run hu, goInt]) (.int _ _) e1 h
   | sl => exact pure_step ok rfl (lt_of_insOk1 rfl hn) (rv := .int .i64 l) (by simp [execOp, resolve, invoke, builtin, hq, Builtin.len_, und_run hu, goInt]) (.int _ _) e1 h
  ·rename_i m E o hu ho
   cases hc
   have e1 : k (s.fr.set d (.int .i64 m)) s.h = some res := e
   exact pure_step ok rfl (lt_of_insOk1 rfl hn) (rv := .int .i64 m) (by simp [execOp, resolve, invoke, builtin, Builtin.len_, und_run hu, goInt]) (.int _ _) e1 h
  ·rename_i K E a hu ho
   cases hc
   obtain ⟨r, hv, e1⟩ := wMap_some e
   obtain ⟨m, h1, e2, e3⟩ := bd_some e1
   have hr := opd_mv ok ho hv
   obtain ⟨es, h2, e4, e5⟩ := bd_some e2
   cases e5
   generalize hq : Act.eval ⟨s.t, []⟩ x = q at hr
   cases hr with
   | mapNil =>
    cases e4
    exact pure_step ok rfl (lt_of_insOk1 rfl hn) (rv := .int .i64 0) (by simp [execOp, resolve, invoke, builtin, hq, Builtin.len_, und_run hu, goInt]) (.int _ _) e3 h
   | map b rb hb =>
    simp only [mapGet] at e4
    split at e4
    ·rename_i es' hg
     cases e4
     have hk := ok.heap.blk _ _ hb
     rw [hg] at hk
     obtain ⟨rs, ck, h1, h2⟩ := hk
     have hl : es.length = rs.size := by have := h2.length; simpa using this
     exact pure_step ok rfl (lt_of_insOk1 rfl hn) (rv := .int .i64 es.length) (by simp [execOp, resolve, invoke, builtin, hq, Builtin.len_, und_run hu, goInt, getObj, Sem.run, h1, hl]) (.int _ _) e3 h
    ·cases e4
  ·cases hc
 ·cases hc
theorem s_min (ok : Ok s) {args : Array Operand} {argTypes : Array TypeId} (hc : compOp P priv ⟨some d, .call ⟨.builtin .min, args, argTypes⟩, type, pos, after, guard⟩ = some ins) (hn : insOk s.t.size ins = true) (e : evIns C ins s.fr k s.h = some res) (h : After s ins.dst k res next) :
  (⟨some d, .call ⟨.builtin .min, args, argTypes⟩, type, pos, after, guard⟩ : Oper).wp P ⟨s.t, []⟩ s.w next Q := by
 simp only [compOp] at hc
 split at hc
 ·rename_i t u x y ht hx
  obtain rfl : args = #[x, y] := arr_of_list hx
  split at hc
  ·rename_i a b hoa hob
   cases hc
   obtain ⟨k1, m, hm, e1⟩ := wInt_some e
   obtain ⟨k2, n, hn', e2⟩ := wInt_some e1
   have h1 := opd_int ok hoa hm
   have h2 := opd_int ok hob hn'
   exact pure_step ok rfl (lt_of_insOk1 rfl hn) (by simp [execOp, resolve, invoke, builtin, h1, h2, Builtin.min_, Builtin.min2]) (.int _ _) e2 h
  ·cases hc
 ·cases hc
theorem s_max (ok : Ok s) {args : Array Operand} {argTypes : Array TypeId} (hc : compOp P priv ⟨some d, .call ⟨.builtin .max, args, argTypes⟩, type, pos, after, guard⟩ = some ins) (hn : insOk s.t.size ins = true) (e : evIns C ins s.fr k s.h = some res) (h : After s ins.dst k res next) :
  (⟨some d, .call ⟨.builtin .max, args, argTypes⟩, type, pos, after, guard⟩ : Oper).wp P ⟨s.t, []⟩ s.w next Q := by
 simp only [compOp] at hc
 split at hc
 ·rename_i t u x y ht hx
  obtain rfl : args = #[x, y] := arr_of_list hx
  split at hc
  ·rename_i a b hoa hob
   cases hc
   obtain ⟨k1, m, hm, e1⟩ := wInt_some e
   obtain ⟨k2, n, hn', e2⟩ := wInt_some e1
   have h1 := opd_int ok hoa hm
   have h2 := opd_int ok hob hn'
   exact pure_step ok rfl (lt_of_insOk1 rfl hn) (by simp [execOp, resolve, invoke, builtin, h1, h2, Builtin.max_, Builtin.max2]) (.int _ _) e2 h
  ·cases hc
 ·cases hc
theorem s_append (ok : Ok s) {args : Array Operand} {argTypes : Array TypeId} (hc : compOp P priv ⟨some d, .call ⟨.builtin .append, args, argTypes⟩, type, pos, after, guard⟩ = some ins) (hn : insOk s.t.size ins = true) (e : evIns C ins s.fr k s.h = some res) (h : After s ins.dst k res next) :
  (⟨some d, .call ⟨.builtin .append, args, argTypes⟩, type, pos, after, guard⟩ : Oper).wp P ⟨s.t, []⟩ s.w next Q := by
 simp only [compOp] at hc
 split at hc
 ·rename_i t u x y ht hx
  obtain rfl : args = #[x, y] := arr_of_list hx
  obtain rfl : argTypes = #[t, u] := arr_of_list ht
  split at hc
  ·rename_i E F a b hu hu2 hoa hob
   split at hc
   ·rename_i z hz
    split at hc
    ·rename_i hcond
     obtain ⟨hzl, hb0, he0, hund⟩ := hcond
     obtain ⟨dE, hE⟩ := hasUnd hund
     cases hc
     obtain ⟨p, l, z1, hv, e1⟩ := wSl_some e
     obtain ⟨q, m, z2, hv2, e2⟩ := wSl_some e1
     split at e2
     ·rename_i hzz
      obtain ⟨hz1, hz2⟩ := hzz
      rw [← hz1] at hv
      rw [← hz2] at hv2
      obtain ⟨r, h1, e3, e4⟩ := bd_some e2
      refine out_step ok rfl (lt_of_insOk1 rfl hn) (app_sound (P := P) (R := type) (s := ⟨p, l⟩) (t := ⟨q, m⟩) ok.heap hu hE hu2 hz hzl hb0 he0 (opd_mv ok hoa hv) (opd_mv ok hob hv2) e3) ?_ e4 h
      intro rv w' hrun
      simp [execOp, resolve, invoke, builtin, hrun]
     ·cases e2
    ·cases hc
   ·cases hc
  ·rename_i E a b hu hu2 hoa hob
   split at hc
   ·rename_i z kd hz hE
    split at hc
    ·rename_i hcond
     obtain ⟨hzl, hb1, he1⟩ := hcond
     cases hc
     obtain ⟨p, l, z1, hv, e1⟩ := wSl_some e
     obtain ⟨tt, hv2, e2⟩ := wStr_some e1
     split at e2
     ·rename_i hz1
      subst hz1
      obtain ⟨r, h1, e3, e4⟩ := bd_some e2
      refine out_step ok rfl (lt_of_insOk1 rfl hn) (appS_sound (P := P) (R := type) (s := ⟨p, l⟩) (t := tt) ok.heap hu hE hu2 he1 hb1 hz hzl (opd_mv ok hoa hv) (opd_mv ok hob hv2) e3) ?_ e4 h
      intro rv w' hrun
      simp [execOp, resolve, invoke, builtin, hrun]
     ·cases e2
    ·cases hc
   ·cases hc
  ·cases hc
 ·cases hc
theorem s_copy (ok : Ok s) {args : Array Operand} {argTypes : Array TypeId} (hc : compOp P priv ⟨some d, .call ⟨.builtin .copy, args, argTypes⟩, type, pos, after, guard⟩ = some ins) (hn : insOk s.t.size ins = true) (e : evIns C ins s.fr k s.h = some res) (h : After s ins.dst k res next) :
  (⟨some d, .call ⟨.builtin .copy, args, argTypes⟩, type, pos, after, guard⟩ : Oper).wp P ⟨s.t, []⟩ s.w next Q := by
 simp only [compOp] at hc
 split at hc
 ·rename_i t u x y ht hx
  obtain rfl : args = #[x, y] := arr_of_list hx
  obtain rfl : argTypes = #[t, u] := arr_of_list ht
  split at hc
  ·rename_i E F a b hu hu2 hoa hob
   split at hc
   ·rename_i hcond
    obtain ⟨he0, hund⟩ := hcond
    obtain ⟨dE, hE⟩ := hasUnd hund
    cases hc
    obtain ⟨p, l, z1, hv, e1⟩ := wSl_some e
    obtain ⟨q, m, z2, hv2, e2⟩ := wSl_some e1
    split at e2
    ·rename_i hzz
     obtain ⟨hz1, hz2⟩ := hzz
     rw [← hz1] at hv
     rw [← hz2] at hv2
     obtain ⟨r, h1, e3, e4⟩ := bd_some e2
     refine out_step ok rfl (lt_of_insOk1 rfl hn) (copy_sound (P := P) (U := u) (R := type) (s := ⟨p, l⟩) (t := ⟨q, m⟩) ok.heap hu hE he0 (opd_mv ok hoa hv) (opd_mv ok hob hv2) e3) ?_ e4 h
     intro rv w' hrun
     simp [execOp, resolve, invoke, builtin, hrun]
    ·cases e2
   ·cases hc
  ·rename_i E a b hu hu2 hoa hob
   split at hc
   ·rename_i hcond
    obtain ⟨he1, hund⟩ := hcond
    obtain ⟨dE, hE⟩ := hasUnd hund
    cases hc
    obtain ⟨p, l, z1, hv, e1⟩ := wSl_some e
    obtain ⟨tt, hv2, e2⟩ := wStr_some e1
    split at e2
    ·rename_i hz1
     subst hz1
     obtain ⟨r, h1, e3, e4⟩ := bd_some e2
     refine out_step ok rfl (lt_of_insOk1 rfl hn) (copyS_sound (P := P) (U := u) (R := type) (s := ⟨p, l⟩) (t := tt) ok.heap hu hE he1 (opd_mv ok hoa hv) (opd_mv ok hob hv2) e3) ?_ e4 h
     intro rv w' hrun
     simp [execOp, resolve, invoke, builtin, hrun]
    ·cases e2
   ·cases hc
  ·cases hc
 ·cases hc
theorem bnd_of (ok : Ok s) {t : TypeId} {lo : Option Operand} {a : Option Opd} (ho : optOpd P t lo = some a) {els : Int} {kk : Int → M β} {hh : Hp} (e : intOf s.fr a els kk hh = some res) :
  ∃ n, BndOk (lo.map (Act.eval ⟨s.t, []⟩)) els n ∧ kk n hh = some res := by
 cases lo with
 | none => cases ho; exact ⟨els, .inl ⟨rfl, rfl⟩, e⟩
 | some x =>
  obtain ⟨o, ho2, rfl⟩ := map_some ho
  obtain ⟨kd, n, hv, e1⟩ := wInt_some e
  exact ⟨n, .inr ⟨kd, by simp [opd_int ok ho2 hv]⟩, e1⟩
theorem s_slice (ok : Ok s) {t : TypeId} {x : Operand} {lo hi : Option Operand} (hc : compOp P priv ⟨some d, .slice t x lo hi none, type, pos, after, guard⟩ = some ins) (hn : insOk s.t.size ins = true) (e : evIns C ins s.fr k s.h = some res) (h : After s ins.dst k res next) :
  (⟨some d, .slice t x lo hi none, type, pos, after, guard⟩ : Oper).wp P ⟨s.t, []⟩ s.w next Q := by
 simp only [compOp] at hc
 split at hc
 ·rename_i a b hoa hob
  split at hc
  ·rename_i hu
   obtain ⟨o, ho, rfl⟩ := map_some hc
   obtain ⟨l, hv, e1⟩ := wStr_some e
   obtain ⟨m, hm, e2⟩ := bnd_of ok hoa e1
   obtain ⟨n, hn', e3⟩ := bnd_of ok hob e2
   obtain ⟨r, h1, e4, e5⟩ := bd_some e3
   have hr := opd_mv ok ho hv
   unfold slcS at e4
   split at e4
   ·rename_i hb
    obtain ⟨hb0, hb1, hb2⟩ := hb
    cases e4
    generalize hq : Act.eval ⟨s.t, []⟩ x = q at hr
    cases hr
    have hsz : (⟨l.toArray⟩ : ByteArray).size = l.length := by simp [ByteArray.size]
    have hbd := bounds_run (P := P) (w := s.w) (isS := false) (len := l.length) (cap := l.length) hm hn' hb0 hb1 hb2 (Nat.le_refl _)
    have hext : (⟨l.toArray⟩ : ByteArray).extract m.toNat n.toNat = ⟨((l.drop m.toNat).take (n - m).toNat).toArray⟩ := by
     apply ByteArray.ext
     rw [ByteArray.data_extract]
     apply Array.ext'
     simp [List.take_drop]
     congr 2
     omega
    refine pure_step ok rfl (lt_of_insOk1 rfl hn) (rv := .string ⟨((l.drop m.toNat).take (n - m).toNat).toArray⟩) ?_ (.str _) e5 h
    simp only [execOp, hq, Instr.sliceAt, Sem.run_bind, und_run hu, Result.andThen_ok, Instr.slice, Option.map_none, Option.isSome_none, Bool.false_eq_true, if_false, Sem.run_pure, hsz, hbd, hext]
   ·cases e4
  ·rename_i E hu
   split at hc
   ·rename_i hund
    obtain ⟨dE, hE⟩ := hasUnd hund
    obtain ⟨o, ho, rfl⟩ := map_some hc
    obtain ⟨p, l, z, hv, e1⟩ := wSl_some e
    split at e1
    ·rename_i hz
     rw [← hz] at hv
     obtain ⟨m, hm, e2⟩ := bnd_of ok hoa e1
     obtain ⟨n, hn', e3⟩ := bnd_of ok hob e2
     obtain ⟨r, h1, e4, e5⟩ := bd_some e3
     refine out_step ok rfl (lt_of_insOk1 rfl hn) (slc_sound (P := P) (s := ⟨p, l⟩) ok.heap hu hE (opd_mv ok ho hv) hm hn' e4) ?_ e5 h
     intro rv w' hrun
     simp [execOp, hrun]
    ·cases e1
   ·cases hc
  ·rename_i m0 E hu
   split at hc
   ·split at hc
    ·rename_i hund
     obtain ⟨dE, hE⟩ := hasUnd hund
     cases hc
     obtain ⟨p, hv, e1⟩ := wPtr_some e
     obtain ⟨m, hm, e2⟩ := bnd_of ok hoa e1
     obtain ⟨n, hn', e3⟩ := bnd_of ok hob e2
     obtain ⟨r, h1, e4, e5⟩ := bd_some e3
     refine out_step ok rfl (lt_of_insOk1 rfl hn) (slcA_sound (P := P) ok.heap hu hE (tmp_mv ok hv) hm hn' e4) ?_ e5 h
     intro rv w' hrun
     simp [execOp, hrun]
    ·cases hc
   ·cases hc
  ·cases hc
 ·cases hc
theorem s_index (ok : Ok s) {t : TypeId} {x i : Operand} (hc : compOp P priv ⟨some d, .index t x i, type, pos, after, guard⟩ = some ins) (hn : insOk s.t.size ins = true) (e : evIns C ins s.fr k s.h = some res) (h : After s ins.dst k res next) :
  (⟨some d, .index t x i, type, pos, after, guard⟩ : Oper).wp P ⟨s.t, []⟩ s.w next Q := by
 simp only [compOp] at hc
 split at hc
 ·rename_i m E hu
  split at hc
  ·rename_i c a j hty hoa hoj
   split at hc
   ·rename_i h1c
    cases hc
    obtain ⟨cs, hv, e1⟩ := wAgg_some e
    obtain ⟨kd, n, hj, e2⟩ := wInt_some e1
    obtain ⟨v, h1, e3, e4⟩ := bd_some e2
    obtain ⟨y, h2, e5, e6⟩ := bd_some e4
    obtain ⟨e7, rfl⟩ := someOr_some e5
    have hr := opd_mv ok hoa hv
    have hi := opd_int ok hoj hj
    unfold idxV at e3
    split at e3
    ·rename_i hb
     obtain ⟨e8, rfl⟩ := someOr_some e3
     generalize hq : Act.eval ⟨s.t, []⟩ x = q at hr
     cases hr with
     | agg _ xs hxs =>
      obtain ⟨d0, hE, hd0⟩ := vty_spec hty
      rcases hd0 with ⟨hd0, c', hc', _⟩ | ⟨_, ⟨_, hc', _⟩ | hc'⟩
      ·obtain ⟨rv, hrv, hrr⟩ := hxs.get _ _ e8
       have hp := part_run_one (P := P) (w := s.w) hE hd0 (cs := xs.toArray) (off := n.toNat) (by simpa using hrv)
       have hen := CTy.enc_dec e7
       rw [hen] at e6
       exact pure_step ok rfl (lt_of_insOk1 rfl hn) (rv := rv) (by simp [execOp, hq, hi, Instr.index, asIntOf, und_run hu, hb, sizeOf_run hE, h1c, hp]) hrr e6 h
      ·cases hc'
      ·cases hc'
    ·cases e3
   ·cases hc
  ·rename_i ty a j hno hty hoa hoj
   cases hc
   obtain ⟨cs, hv, e1⟩ := wAgg_some e
   obtain ⟨kd, n, hj, e2⟩ := wInt_some e1
   obtain ⟨v, h1, e3, e4⟩ := bd_some e2
   obtain ⟨y, h2, e5, e6⟩ := bd_some e4
   obtain ⟨e7, rfl⟩ := someOr_some e5
   have hr := opd_mv ok hoa hv
   have hi := opd_int ok hoj hj
   unfold idxVn at e3
   split at e3
   ·rename_i hb
    split at e3
    ·rename_i hle
     cases e3
     generalize hq : Act.eval ⟨s.t, []⟩ x = q at hr
     cases hr with
     | agg _ xs hxs =>
      obtain ⟨d0, hE, hd0⟩ := vty_spec hty
      have hagg : aggD d0 = true := by
       rcases hd0 with ⟨hd0, c', hc', _⟩ | ⟨hd0, _⟩
       ·exact absurd hc' (hno c' · )
       ·exact hd0
      have hp := part_run_agg (P := P) (w := s.w) hE hagg xs.toArray (n.toNat * P.cellsOf E)
      have hen := Ty.enc_dec e7
      rw [hen] at e6
      exact pure_step ok rfl (lt_of_insOk1 rfl hn) (by simp [execOp, hq, hi, Instr.index, asIntOf, und_run hu, hb, sizeOf_run hE, hp]) (part_rel hxs _ _ hle) e6 h
    ·cases e3
   ·cases e3
  ·cases hc
 ·rename_i hu
  split at hc
  ·rename_i a j hoa hoj
   cases hc
   obtain ⟨l, hv, e1⟩ := wStr_some e
   obtain ⟨kd, n, hj, e2⟩ := wInt_some e1
   obtain ⟨v, h1, e3, e4⟩ := bd_some e2
   have hr := opd_mv ok hoa hv
   have hi := opd_int ok hoj hj
   unfold idxS at e3
   split at e3
   ·rename_i hb
    obtain ⟨b, h2, e5, e6⟩ := bd_some e3
    obtain ⟨hb2, rfl⟩ := someOr_some e5
    cases e6
    ·generalize hq : Act.eval ⟨s.t, []⟩ x = q at hr
     cases hr
     have hg : (⟨l.toArray⟩ : ByteArray)[n.toNat]? = some b := by
      have hlt : n.toNat < l.length := (List.getElem?_eq_some_iff.1 hb2).1
      rw [getElem?_pos (⟨l.toArray⟩ : ByteArray) n.toNat (by simpa [ByteArray.size] using hlt)]
      have := List.getElem?_eq_getElem hlt
      rw [this] at hb2
      exact hb2
     exact pure_step ok rfl (lt_of_insOk1 rfl hn) (rv := .int .u8 b.toNat) (by simp [execOp, hq, hi, Instr.index, asIntOf, und_run hu, hb, hg]) (.int _ _) e4 h
   ·cases e3
  ·cases hc
 ·cases hc
theorem s_makeMap (ok : Ok s) {t : TypeId} (hc : compOp P priv ⟨some d, .makeMap t none, type, pos, after, guard⟩ = some ins) (hn : insOk s.t.size ins = true) (e : evIns C ins s.fr k s.h = some res) (h : After s ins.dst k res next) :
  (⟨some d, .makeMap t none, type, pos, after, guard⟩ : Oper).wp P ⟨s.t, []⟩ s.w next Q := by
 cases hc
 simp only [evIns] at e
 obtain ⟨r, h1, e1, e2⟩ := bd_some e
 cases e1
 have hal := ok.heap.alloc (w' := s.w.alloc (.map #[] 0)) (.map []) (by simp) 0 (.map #[] 0) rfl rfl rfl rfl (fun ρ' hx => ⟨#[], 0, heap_alloc_new _ _, .nil⟩)
 refine out_step (r := (Instr.makeMap t none).run P s.w) ok rfl (lt_of_insOk1 rfl hn) ⟨.map (some s.w.heap.size), _, _, ?_, .map s.h.size _ (Rho.put_same _ _ _), hal.1, hal.2⟩ ?_ e2 h
 ·simp [Instr.makeMap]
 ·intro rv w' hrun
  simp [execOp, hrun]
theorem s_makeFunc (ok : Ok s) {f : FuncId} {first caps : Array Operand} (hc : compOp P priv ⟨some d, .makeFunc (.func f) first caps, type, pos, after, guard⟩ = some ins) (hn : insOk s.t.size ins = true) (e : evIns C ins s.fr k s.h = some res) (h : After s ins.dst k res next) :
  (⟨some d, .makeFunc (.func f) first caps, type, pos, after, guard⟩ : Oper).wp P ⟨s.t, []⟩ s.w next Q := by
 simp only [compOp] at hc
 split at hc
 ·rename_i hf
  split at hc
  ·rename_i os hos
   cases hc
   obtain ⟨vs, hvs, e1⟩ := okOf_some e
   have hv := opds_rel ok hos hvs
   have hf0 : first = #[] := Array.eq_empty_of_size_eq_zero hf
   refine pure_step ok rfl (lt_of_insOk1 rfl hn) (rv := .func (.func f) #[] (caps.toList.map (Act.eval ⟨s.t, []⟩)).toArray) ?_ (.fn _ _ _ hv) e1 h
   simp [execOp, Instr.makeFunc, hf0]
   exact map_arr _ _
  ·cases hc
 ·cases hc
theorem s_makeInterface (ok : Ok s) {t : TypeId} {x : Operand} (hc : compOp P priv ⟨some d, .makeInterface t x, type, pos, after, guard⟩ = some ins) (hn : insOk s.t.size ins = true) (e : evIns C ins s.fr k s.h = some res) (h : After s ins.dst k res next) :
  (⟨some d, .makeInterface t x, type, pos, after, guard⟩ : Oper).wp P ⟨s.t, []⟩ s.w next Q := by
 simp only [compOp] at hc
 split at hc
 ·cases hc
 ·rename_i dd hdd hu
  obtain ⟨o, ho, rfl⟩ := map_some hc
  obtain ⟨v, hv, e1⟩ := okOf_some e
  refine pure_step ok rfl (lt_of_insOk1 rfl hn) (rv := .iface t (Act.eval ⟨s.t, []⟩ x)) ?_ (.iface _ _ _ (opd_mv ok ho hv)) e1 h
  have : (Instr.makeInterface t (Act.eval ⟨s.t, []⟩ x)).run P s.w = .ok (.iface t (Act.eval ⟨s.t, []⟩ x)) s.w := by
   unfold Instr.makeInterface
   rw [Sem.run_bind, und_run hu, Result.andThen_ok]
   cases dd <;> first | rfl | exact absurd rfl (hdd _)
  simp [execOp, this]
 ·cases hc
end
end Go.Mini
