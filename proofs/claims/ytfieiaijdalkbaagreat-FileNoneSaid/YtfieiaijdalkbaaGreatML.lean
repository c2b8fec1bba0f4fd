/- Single operations, all of them. -/
import Derived.Test.YtfieiaijdalkbaaGreatMK
namespace Go.Mini
universe u
section
variable {P : Program} {β : Type} {s : S} {res : β × Hp} {next : Act → World → Prop} {Q : Exit → Act → World → Prop} {k : Fr → M β} {C : List (Nat × Entry)} {priv : List Nat}
theorem lt_of_insOk1 {n d : Nat} {i : Ins} (hi : i.dst = [d]) (h : insOk n i = true) : d < n := by
 simp [insOk, hi] at h
 exact h
theorem map_some {α γ : Type u} {x : Option α} {f : α → γ} {y : γ} (h : x.map f = some y) : ∃ a, x = some a ∧ f a = y := by
 cases x with
 | none => cases h
 | some a => exact ⟨a, rfl, by simpa using h⟩
theorem wInt_some {x : Option MV} {k : IntKind → Int → M β} {h : Hp} (e : wInt x k h = some res) : ∃ kd n, x = some (.int kd n) ∧ k kd n h = some res := by
 unfold wInt at e; split at e
 ·exact ⟨_, _, rfl, e⟩
 ·cases e
theorem wStr_some {x : Option MV} {k : List UInt8 → M β} {h : Hp} (e : wStr x k h = some res) : ∃ s, x = some (.str s) ∧ k s h = some res := by
 unfold wStr at e; split at e
 ·exact ⟨_, rfl, e⟩
 ·cases e
theorem wSl_some {x : Option MV} {k : Option MA → Nat → Nat → M β} {h : Hp} (e : wSl x k h = some res) : ∃ p l z, x = some (.sl p l z) ∧ k p l z h = some res := by
 unfold wSl at e; split at e
 ·exact ⟨_, _, _, rfl, e⟩
 ·cases e
theorem wTup_some {x : Option MV} {k : List MV → M β} {h : Hp} (e : wTup x k h = some res) : ∃ s, x = some (.tup s) ∧ k s h = some res := by
 unfold wTup at e; split at e
 ·exact ⟨_, rfl, e⟩
 ·cases e
theorem wAgg_some {x : Option MV} {k : List MV → M β} {h : Hp} (e : wAgg x k h = some res) : ∃ s, x = some (.agg s) ∧ k s h = some res := by
 unfold wAgg at e; split at e
 ·exact ⟨_, rfl, e⟩
 ·cases e
theorem wMap_some {x : Option MV} {k : Option Nat → M β} {h : Hp} (e : wMap x k h = some res) : ∃ s, x = some (.map s) ∧ k s h = some res := by
 unfold wMap at e; split at e
 ·exact ⟨_, rfl, e⟩
 ·cases e
theorem wPtr_some {x : Option MV} {k : Option MA → M β} {h : Hp} (e : wPtr x k h = some res) : ∃ s, x = some (.ptr s) ∧ k s h = some res := by
 unfold wPtr at e; split at e
 ·exact ⟨_, rfl, e⟩
 ·cases e
theorem wFn_some {x : Option MV} {k : FuncId → List MV → M β} {h : Hp} (e : wFn x k h = some res) : ∃ f c, x = some (.fn f c) ∧ k f c h = some res := by
 unfold wFn at e; split at e
 ·exact ⟨_, _, rfl, e⟩
 ·cases e
theorem wPlace_some {x : Option FV} {k1 : Option MA → M β} {k2 : Nat → Nat → M β} {h : Hp} (e : wPlace x k1 k2 h = some res) : (∃ q, x = some (.v (.ptr q)) ∧ k1 q h = some res) ∨ ∃ n o, x = some (.loc n o) ∧ k2 n o h = some res := by
 unfold wPlace at e; split at e
 ·exact .inl ⟨_, rfl, e⟩
 ·exact .inr ⟨_, _, rfl, e⟩
 ·cases e
theorem wIf_some {b : Bool} {m : M β} {h : Hp} (e : wIf b m h = some res) : b = true ∧ m h = some res := by
 cases b with
 | false => cases e
 | true => exact ⟨rfl, e⟩
theorem move_step {o : Oper} (ok : Ok s) {d : Nat} (hd : o.dst = some d) (hlt : d < s.t.size) {fv : FV} {y : Value} (hv : FRel s.ρ s.π fv y)
  (hrun : (execOp (Act.eval ⟨s.t, []⟩) o).run P s.w = .ok (.value y) s.w) (e : k (s.fr.setF d fv) s.h = some res) (h : After s [d] k res next) : o.wp P ⟨s.t, []⟩ s.w next Q := by
 obtain ⟨k1, st⟩ := ok.setF hlt hv
 exact fin_value hd hrun (h _ k1 st e)
theorem Opd.mv_val {fr : Fr} {x : Opd} {v : MV} (h : x.mv fr = some v) : x.val fr = some (.v v) := by
 unfold Opd.mv at h
 split at h
 ·rename_i u hu; cases h; exact hu
 ·cases h
theorem tmp_rel (ok : Ok s) {n : Nat} {fv : FV} (hv : (Opd.t n).val s.fr = some fv) : FRel s.ρ s.π fv (Act.eval ⟨s.t, []⟩ (.tmp n)) := (ok.slots n fv hv).2
theorem tmp_mv (ok : Ok s) {n : Nat} {v : MV} (hv : (Opd.t n).mv s.fr = some v) : VRel s.ρ v (Act.eval ⟨s.t, []⟩ (.tmp n)) := tmp_rel ok (Opd.mv_val hv)
theorem privPV_spec {t : TypeId} {pv : PV} (e : privPV P t = some pv) : ∃ i v, P.info? t = some i ∧ i.zero = some v ∧ ∀ ρ, VRels ρ pv.cells v.cells.toList := by
 unfold privPV at e
 split at e
 ·cases e
 ·rename_i z hz
  obtain ⟨i, v, h1, h2, h3⟩ := zeroOf_spec hz
  refine ⟨i, v, h1, h2, fun ρ => ?_⟩
  split at e
  ·cases e; exact h3 ρ
  ·cases e; exact h3 ρ
  ·split at e
   ·split at e
    ·obtain ⟨xs, hxs, rfl⟩ := map_some e
     simp only [PV.cells]
     rw [intsOf_map hxs]
     exact h3 ρ
    ·cases e; exact h3 ρ
   ·cases e; exact h3 ρ
  ·cases e
theorem look_dropV {ds : List Nat} : ∀ {l : List (Nat × FV)} {n : Nat} {x : FV}, look (dropV ds l) n = some x → n ∉ ds ∧ (x = .gone ∨ (look l n = some x ∧ ∀ g o, x = .loc g o → g ∉ ds))
 | [], n, x, h => by cases h
 | (m, y) :: r, n, x, h => by
  simp only [dropV] at h
  cases hm : mem m ds with
  | true =>
   rw [hm] at h
   simp only [cond_true] at h
   obtain ⟨h0, h1⟩ := look_dropV h
   refine ⟨h0, ?_⟩
   rcases h1 with h1 | ⟨h1, h2⟩
   ·exact .inl h1
   ·refine .inr ⟨?_, h2⟩
    rw [look_cons, if_neg (fun c => h0 (by rw [← c]; exact (mem_iff _ _).1 hm))]
    exact h1
  | false =>
   rw [hm] at h
   simp only [cond_false, look_cons] at h
   by_cases hmn : m = n
   ·subst hmn
    rw [if_pos rfl] at h
    have hnd : m ∉ ds := fun c => by rw [(mem_iff _ _).2 c] at hm; cases hm
    refine ⟨hnd, ?_⟩
    cases hl : isLoc ds y with
    | true => rw [hl] at h; cases h; exact .inl rfl
    | false =>
     rw [hl] at h
     cases h
     refine .inr ⟨by rw [look_cons, if_pos rfl]; rfl, ?_⟩
     intro g o hx
     have hx' : y = .loc g o := hx
     subst hx'
     intro c
     simp only [isLoc] at hl
     rw [(mem_iff _ _).2 c] at hl
     cases hl
   ·rw [if_neg hmn] at h
    obtain ⟨h0, h1⟩ := look_dropV h
    refine ⟨h0, ?_⟩
    rcases h1 with h1 | ⟨h1, h2⟩
    ·exact .inl h1
    ·exact .inr ⟨by rw [look_cons, if_neg hmn]; exact h1, h2⟩
theorem look_dropV_old {ds : List Nat} : ∀ {l : List (Nat × FV)} {n : Nat} {x : FV}, look (dropV ds l) n = some x → ∃ y, look l n = some y
 | [], n, x, h => by cases h
 | (m, y) :: r, n, x, h => by
  rw [look_cons]
  by_cases hmn : m = n
  ·exact ⟨y, if_pos hmn⟩
  ·rw [if_neg hmn]
   simp only [dropV] at h
   cases hm : mem m ds with
   | true => rw [hm] at h; exact look_dropV_old h
   | false =>
    rw [hm] at h
    simp only [cond_false, look_cons] at h
    rw [if_neg hmn] at h
    exact look_dropV_old h
theorem pnew_step {o : Oper} (ok : Ok s) {d : Nat} (hd : o.dst = some d) (hlt : d < s.t.size) {pv : PV} {c : Array Value} {t : TypeId} (hr : VRels s.ρ pv.cells c.toList)
  (hrun : (execOp (Act.eval ⟨s.t, []⟩) o).run P s.w = .ok (.value (.pointer (some ⟨s.w.heap.size, 0, none⟩))) (s.w.alloc (.cells c t))) (e : k (s.fr.pnew d pv) s.h = some res) (h : After s [d] k res next) : o.wp P ⟨s.t, []⟩ s.w next Q := by
 have hpi : ∀ n x, look s.fr.p n = some x → s.π n < s.w.heap.size := by
  intro n x hx
  obtain ⟨⟨c1, el, h1, _⟩, _⟩ := ok.priv n x.1 x.2 hx
  exact (Array.getElem?_eq_some_iff.1 h1).1
 have hlv : ∀ r, Liv s.ρ s.h r → r < s.w.heap.size := by
  rintro r ⟨b, rb, h1, h2, rfl⟩
  exact ok.heap.lt h1 h2
 have hlp : ∀ n, look ((s.fr.pnew d pv).p) n = if d = n then some (pv, true) else look s.fr.p n := fun n => look_cons _ _ _ _
 refine fin_value hd hrun (h { s with π := fun n => if n = d then s.w.heap.size else s.π n, fr := s.fr.pnew d pv, t := s.t.setIfInBounds d (.pointer (some ⟨s.w.heap.size, 0, none⟩)), w := s.w.alloc (.cells c t) } ?_ ?_ e)
 ·refine ⟨?_, ?_, ?_, ?_⟩
  ·refine ⟨ok.heap.dom, ok.heap.live, ok.heap.inj, fun b rb hb => ?_, ok.heap.gl⟩
   by_cases hdead : Dead s.h b
   ·unfold Dead at hdead; rw [hdead]; trivial
   ·exact (ok.heap.blk b rb hb).heap (heap_alloc_old _ _ _ (ok.heap.lt hb hdead))
  ·intro i x hx
   simp only [Fr.pnew, look_cons] at hx
   dsimp only
   rw [Array.size_setIfInBounds, getD_set hlt]
   by_cases hdi : d = i
   ·subst hdi
    rw [if_pos rfl] at hx
    cases hx
    refine ⟨hlt, ?_⟩
    rw [if_pos rfl]
    show _ = Value.pointer (some ⟨if d = d then s.w.heap.size else s.π d, 0, none⟩)
    rw [if_pos rfl]
   ·rw [if_neg hdi] at hx
    rw [if_neg (fun c => hdi c.symm)]
    obtain ⟨h1, h2⟩ := ok.slots i _ (look_dropV_old hx).choose_spec
    refine ⟨h1, ?_⟩
    rcases (look_dropV hx).2 with rfl | ⟨hx1, hx2⟩
    ·trivial
    obtain ⟨_, h2⟩ := ok.slots i x hx1
    cases x with
    | v x => exact h2
    | gone => trivial
    | loc g o =>
     have hgd : g ≠ d := by
      intro c; subst c
      exact hx2 g o rfl (by simp)
     show _ = Value.pointer (some ⟨if g = d then s.w.heap.size else s.π g, o, none⟩)
     rw [if_neg hgd]
     exact h2
  ·intro n q b hq
   rw [hlp] at hq
   dsimp only
   by_cases hdn : d = n
   ·subst hdn
    rw [if_pos rfl] at hq
    cases hq
    rw [if_pos rfl]
    refine ⟨⟨c, t, heap_alloc_new _ _, hr⟩, fun f => ?_⟩
    have := hlv _ f
    omega
   ·rw [if_neg hdn] at hq
    rw [if_neg (fun c => hdn c.symm)]
    obtain ⟨⟨c1, el, h1, h2⟩, h3⟩ := ok.priv n q b hq
    refine ⟨⟨c1, el, ?_, h2⟩, h3⟩
    rw [heap_alloc_old _ _ _ (hpi _ _ hq)]
    exact h1
  ·intro n m x y hx hy hnm
   rw [hlp] at hx hy
   dsimp only
   by_cases hn : d = n
   ·subst hn
    rw [if_neg hnm] at hy
    rw [if_pos rfl, if_neg (fun c => hnm c.symm)]
    have := hpi _ _ hy
    omega
   ·rw [if_neg hn] at hx
    rw [if_neg (fun c => hn c.symm)]
    by_cases hm : d = m
    ·subst hm
     rw [if_pos rfl]
     have := hpi _ _ hx
     omega
    ·rw [if_neg hm] at hy
     rw [if_neg (fun c => hm c.symm)]
     exact ok.pinj n m x y hx hy hnm
 ·refine ⟨Ext.refl _, rfl, rfl, rfl, by simp, ⟨Nat.le_refl _, fun _ _ e => .inl e⟩, fun r hr _ _ => heap_alloc_old _ _ _ hr, fun _ h => .inl h, fun _ h => .inl h, ?_, ?_, ?_, by simp, ?_⟩
  ·rintro r ⟨n, q, hq, rfl⟩
   rw [hlp] at hq
   dsimp only
   by_cases hdn : d = n
   ·subst hdn; rw [if_pos rfl]; exact .inr (Nat.le_refl _)
   ·rw [if_neg hdn] at hq
    rw [if_neg (fun c => hdn c.symm)]
    exact .inl ⟨n, q, hq, rfl⟩
  ·intro n hn
   dsimp only
   rw [if_neg (by simpa using hn)]
  ·intro n
   dsimp only
   by_cases hdn : n = d
   ·rw [if_pos hdn]; exact .inr (Nat.le_refl _)
   ·rw [if_neg hdn]; exact .inl rfl
  ·intro i hi
   dsimp only
   rw [getD_set hlt, if_neg (by simpa using hi)]
theorem Ok.pset (ok : Ok s) {g : Nat} {pv pv' : PV} (hp : look s.fr.p g = some (pv, true)) {c c' : Array Value} {el : TypeId} (hg : s.w.heap[s.π g]? = some (.cells c el (0, 0))) (hr : VRels s.ρ pv'.cells c'.toList) :
  Ok { s with fr := s.fr.pset g pv', w := s.w.setRow (s.π g) c' } ∧ Stp s { s with fr := s.fr.pset g pv', w := s.w.setRow (s.π g) c' } [] := by
 have hlp : ∀ n, look ((s.fr.pset g pv').p) n = if g = n then some (pv', true) else look s.fr.p n := fun n => look_cons _ _ _ _
 have hnl := (ok.priv g pv true hp).2
 refine ⟨⟨?_, ok.slots, ?_, ?_⟩, ⟨Ext.refl _, rfl, rfl, rfl, by simp, ⟨Nat.le_refl _, fun _ _ e => .inl e⟩, fun r hr _ hw => ?_, fun _ h => .inl h, fun _ h => .inl h, ?_, fun _ _ => rfl, fun _ => .inl rfl, rfl, fun _ _ => rfl⟩⟩
 ·refine ⟨ok.heap.dom, ok.heap.live, ok.heap.inj, fun b rb hb => ?_, ok.heap.gl⟩
  by_cases hdead : Dead s.h b
  ·unfold Dead at hdead; rw [hdead]; trivial
  ·exact (ok.heap.blk b rb hb).heap (setRow_other _ _ _ _ (fun c => hnl ⟨b, rb, hb, hdead, c⟩))
 ·intro n q b hq
  rw [hlp] at hq
  dsimp only
  by_cases hgn : g = n
  ·subst hgn
   rw [if_pos rfl] at hq
   cases hq
   exact ⟨⟨c', el, setRow_heap _ _ c _ el _ hg, hr⟩, hnl⟩
  ·rw [if_neg hgn] at hq
   obtain ⟨⟨c1, el1, h1, h2⟩, h3⟩ := ok.priv n q b hq
   refine ⟨⟨c1, el1, ?_, h2⟩, h3⟩
   rw [setRow_other _ _ _ _ (fun c => ok.pinj g n _ _ hp hq hgn c.symm)]
   exact h1
 ·intro n m x y hx hy hnm
  rw [hlp] at hx hy
  have h1 : ∃ x', look s.fr.p n = some x' := by
   by_cases hgn : g = n
   ·subst hgn; exact ⟨_, hp⟩
   ·rw [if_neg hgn] at hx; exact ⟨_, hx⟩
  have h2 : ∃ y', look s.fr.p m = some y' := by
   by_cases hgn : g = m
   ·subst hgn; exact ⟨_, hp⟩
   ·rw [if_neg hgn] at hy; exact ⟨_, hy⟩
  obtain ⟨x', hx'⟩ := h1
  obtain ⟨y', hy'⟩ := h2
  exact ok.pinj n m x' y' hx' hy' hnm
 ·exact setRow_other _ _ _ _ (fun c => hw ⟨g, pv, hp, c.symm⟩)
 ·rintro r ⟨n, q, hq, rfl⟩
  rw [hlp] at hq
  by_cases hgn : g = n
  ·subst hgn; exact .inl ⟨g, pv, hp, rfl⟩
  ·rw [if_neg hgn] at hq; exact .inl ⟨n, q, hq, rfl⟩
def ins_dst_nil (i : Ins) : Prop := i.dst = []
variable {type : TypeId} {pos : String} {after : Array Edge} {guard : Option (Nat × Bool)} {ins : Ins} {d : Nat}
theorem s_move (ok : Ok s) {x : Operand} (hc : compOp P priv ⟨some d, .move x, type, pos, after, guard⟩ = some ins) (hn : insOk s.t.size ins = true) (e : evIns C ins s.fr k s.h = some res) (h : After s ins.dst k res next) :
  (⟨some d, .move x, type, pos, after, guard⟩ : Oper).wp P ⟨s.t, []⟩ s.w next Q := by
 obtain ⟨o, ho, rfl⟩ := map_some hc
 obtain ⟨fv, hv, e2⟩ := okOf_some e
 exact move_step ok rfl (lt_of_insOk1 rfl hn) (opd_rel ok ho hv) rfl e2 h
theorem s_assign (ok : Ok s) {x : Operand} (hc : compOp P priv ⟨some d, .assign x, type, pos, after, guard⟩ = some ins) (hn : insOk s.t.size ins = true) (e : evIns C ins s.fr k s.h = some res) (h : After s ins.dst k res next) :
  (⟨some d, .assign x, type, pos, after, guard⟩ : Oper).wp P ⟨s.t, []⟩ s.w next Q := by
 obtain ⟨o, ho, rfl⟩ := map_some hc
 obtain ⟨fv, hv, e2⟩ := okOf_some e
 exact move_step ok rfl (lt_of_insOk1 rfl hn) (opd_rel ok ho hv) rfl e2 h
theorem s_unOp (ok : Ok s) {op : UnOp} {t : TypeId} {x : Operand} (hc : compOp P priv ⟨some d, .unOp op t x, type, pos, after, guard⟩ = some ins) (hn : insOk s.t.size ins = true) (e : evIns C ins s.fr k s.h = some res) (h : After s ins.dst k res next) :
  (⟨some d, .unOp op t x, type, pos, after, guard⟩ : Oper).wp P ⟨s.t, []⟩ s.w next Q := by
 obtain ⟨o, ho, rfl⟩ := map_some hc
 obtain ⟨v, hv, e2⟩ := okOf_some e
 obtain ⟨r, rv, e3, hrun, hr⟩ := un_sound (P := P) (w := s.w) (opd_mv ok ho hv) e2
 exact pure_step ok rfl (lt_of_insOk1 rfl hn) (by simp [execOp, hrun]) hr e3 h
theorem s_convert (ok : Ok s) {a b : TypeId} {x : Operand} (hc : compOp P priv ⟨some d, .convert a b x, type, pos, after, guard⟩ = some ins) (hn : insOk s.t.size ins = true) (e : evIns C ins s.fr k s.h = some res) (h : After s ins.dst k res next) :
  (⟨some d, .convert a b x, type, pos, after, guard⟩ : Oper).wp P ⟨s.t, []⟩ s.w next Q := by
 simp only [compOp] at hc
 split at hc
 ·rename_i k1 k2 hua hub
  obtain ⟨o, ho, rfl⟩ := map_some hc
  obtain ⟨k0, n, hv, e2⟩ := wInt_some e
  have hr := opd_mv ok ho hv
  refine pure_step ok rfl (lt_of_insOk1 rfl hn) (rv := .int k2 (k2.wrap n)) ?_ (.int _ _) e2 h
  generalize hq : Act.eval ⟨s.t, []⟩ x = q at hr
  cases hr
  simp [execOp, hq, convert, und_run hua, und_run hub, Conv.intToInt]
 ·rename_i hua hub
  obtain ⟨o, ho, rfl⟩ := map_some hc
  obtain ⟨l, hv, e2⟩ := wStr_some e
  have hr := opd_mv ok ho hv
  generalize hq : Act.eval ⟨s.t, []⟩ x = q at hr
  cases hr
  exact pure_step ok rfl (lt_of_insOk1 rfl hn) (by simp [execOp, hq, convert, und_run hua, und_run hub]) (.str l) e2 h
 ·rename_i E hua hub
  split at hc
  ·rename_i hE
   obtain ⟨o, ho, rfl⟩ := map_some hc
   obtain ⟨l, hv, e2⟩ := wStr_some e
   have hr := opd_mv ok ho hv
   obtain ⟨sl, h1, e1, e2⟩ := bd_some e2
   refine out_step ok rfl (lt_of_insOk1 rfl hn) (toBytes_sound (P := P) (E := E) ok.heap e1) ?_ e2 h
   intro rv w' hrun
   generalize hq : Act.eval ⟨s.t, []⟩ x = q at hr
   cases hr
   simp [execOp, hq, convert, und_run hua, und_run hub, und_run hE, hrun]
  ·cases hc
 ·rename_i E hua hub
  split at hc
  ·rename_i hE
   obtain ⟨o, ho, rfl⟩ := map_some hc
   obtain ⟨p, l, ez, hv, e2⟩ := wSl_some e
   split at e2
   ·rename_i hez
    subst hez
    have hr := opd_mv ok ho hv
    obtain ⟨sl, h1, e1, e2⟩ := bd_some e2
    refine out_step ok rfl (lt_of_insOk1 rfl hn) (toStr_sound (P := P) (s := ⟨p, l⟩) ok.heap hr e1) ?_ e2 h
    intro rv w' hrun
    generalize hq : Act.eval ⟨s.t, []⟩ x = q at hr hrun
    cases hr with
    | slNil => simp [execOp, hq, convert, und_run hua, und_run hub, und_run hE, hrun]
    | sl => simp [execOp, hq, convert, und_run hua, und_run hub, und_run hE, hrun]
   ·cases e2
  ·cases hc
 ·rename_i E0 E hua hub
  split at hc
  ·rename_i hE
   split at hc
   ·rename_i hab
    subst hab
    obtain ⟨o, ho, rfl⟩ := map_some hc
    obtain ⟨p, l, ez, hv, e2⟩ := wSl_some e
    split at e2
    ·rename_i hez
     subst hez
     have hr := opd_mv ok ho hv
     obtain ⟨sl, h1, e1, e2⟩ := bd_some e2
     refine out_step ok rfl (lt_of_insOk1 rfl hn) (mark_sound (P := P) (s := ⟨p, l⟩) ok.heap hub hE hr e1) ?_ e2 h
     intro rv w' hrun
     simp [execOp, hrun]
    ·cases e2
   ·cases hc
  ·cases hc
 ·cases hc
theorem s_arrAt (ok : Ok s) {t : TypeId} {x : Operand} (hc : compOp P priv ⟨some d, .sliceToArrayPointer t x, type, pos, after, guard⟩ = some ins) (hn : insOk s.t.size ins = true) (e : evIns C ins s.fr k s.h = some res) (h : After s ins.dst k res next) :
  (⟨some d, .sliceToArrayPointer t x, type, pos, after, guard⟩ : Oper).wp P ⟨s.t, []⟩ s.w next Q := by
 simp only [compOp] at hc
 split at hc
 ·rename_i n E m hu
  cases hc
  obtain ⟨p, l, z, hv, e1⟩ := wSl_some e
  obtain ⟨q, h1, e2, e3⟩ := bd_some e1
  unfold arrAt at e2
  split at e2
  ·rename_i hb
   cases e2
   obtain ⟨hb0, hb1⟩ := hb
   have hr := tmp_mv ok hv
   generalize hq : Act.eval ⟨s.t, []⟩ (.tmp m) = y at hr
   cases hr with
   | slNil => simp at hb1; omega
   | sl a rb _ _ cap ra hb' hl hcp =>
    rcases hcp with hcp | ⟨rfl, _⟩
    ·simp at hb1; omega
    ·refine pure_step ok rfl (lt_of_insOk1 rfl hn) (rv := .pointer (some ⟨rb.r, rb.o + a.off, none⟩)) ?_ (.ptr a rb hb') e3 h
     have : ¬ l < n := by simp at hb1; omega
     simp [execOp, hq, Instr.arrayAt, und_run hu, this]
  ·cases e2
 ·cases hc
theorem s_extract (ok : Ok s) {x : Operand} {i : Nat} (hc : compOp P priv ⟨some d, .extract x i, type, pos, after, guard⟩ = some ins) (hn : insOk s.t.size ins = true) (e : evIns C ins s.fr k s.h = some res) (h : After s ins.dst k res next) :
  (⟨some d, .extract x i, type, pos, after, guard⟩ : Oper).wp P ⟨s.t, []⟩ s.w next Q := by
 simp only [compOp] at hc
 split at hc
 ·rename_i n
  cases hc
  obtain ⟨vs, hv, e2⟩ := wTup_some e
  have hr := tmp_mv ok hv
  obtain ⟨v, hvi, e2⟩ := okOf_some e2
  generalize hq : Act.eval ⟨s.t, []⟩ (.tmp n) = q at hr
  cases hr with
  | tup _ xs hxs =>
   obtain ⟨y, hy, hyr⟩ := hxs.get _ _ hvi
   exact pure_step ok rfl (lt_of_insOk1 rfl hn) (by simp [execOp, hq, Instr.extract, hy]) hyr e2 h
 ·cases hc
theorem s_binOp (ok : Ok s) {op : BinOp} {t u : TypeId} {x y : Operand} (hc : compOp P priv ⟨some d, .binOp op t x y u, type, pos, after, guard⟩ = some ins) (hn : insOk s.t.size ins = true) (e : evIns C ins s.fr k s.h = some res) (h : After s ins.dst k res next) :
  (⟨some d, .binOp op t x y u, type, pos, after, guard⟩ : Oper).wp P ⟨s.t, []⟩ s.w next Q := by
 have key : ∀ (dd : TypeDesc) (a b : Opd) (tk : Nat), opd P t x = some a → opd P u y = some b → P.underlying t = some dd → (∀ v, tagOk tk v = true → eqKind P dd v = true) → ins = .bin d op tk a b →
   (⟨some d, .binOp op t x y u, type, pos, after, guard⟩ : Oper).wp P ⟨s.t, []⟩ s.w next Q := by
  intro dd a b tk ha hb hu htag hins
  subst hins
  obtain ⟨v, hv, e1⟩ := okOf_some e
  obtain ⟨w, hw, e2⟩ := okOf_some e1
  obtain ⟨ht, e2⟩ := wIf_some e2
  obtain ⟨r, rv, e3, hrun, hr⟩ := bin_sound (P := P) (w := s.w) hu x y (opd_mv ok ha hv) (opd_mv ok hb hw) ok.heap (htag v ht) e2
  refine pure_step ok rfl (lt_of_insOk1 rfl hn) ?_ hr e3 h
  simp only [execOp, Sem.run_bind] at hrun ⊢
  rw [hrun]
  rfl
 simp only [compOp] at hc
 split at hc
 ·rename_i a b ha hb
  split at hc
  ·rename_i fs hu
   split at hc
   ·rename_i L hL
    cases hb0 : (P.stoodInHeld t || P.eqGuardType P.depth t) with
    | true => rw [hb0] at hc; cases hc
    | false =>
     rw [hb0] at hc
     cases hc
     simp only [Bool.or_eq_false_iff] at hb0
     obtain ⟨l, h1, e1⟩ := wAgg_some e
     obtain ⟨m, h2, e1⟩ := wAgg_some e1
     obtain ⟨r, h3, e2⟩ := okOf_some e1
     have hrun := eqSt_sound (P := P) (w := s.w) hu hL hb0.1 hb0.2 (opd_mv ok ha h1) (opd_mv ok hb h2) h3 false x y
     refine pure_step ok rfl (lt_of_insOk1 rfl hn) ?_ (.bool _) e2 h
     simp only [execOp, Sem.run_bind, cond_true, cond_false] at hrun ⊢
     rw [hrun]
     rfl
   ·cases hc
  ·rename_i fs hu
   split at hc
   ·rename_i L hL
    cases hb0 : (P.stoodInHeld t || P.eqGuardType P.depth t) with
    | true => rw [hb0] at hc; cases hc
    | false =>
     rw [hb0] at hc
     cases hc
     simp only [Bool.or_eq_false_iff] at hb0
     obtain ⟨l, h1, e1⟩ := wAgg_some e
     obtain ⟨m, h2, e1⟩ := wAgg_some e1
     obtain ⟨r, h3, e2⟩ := okOf_some e1
     have hrun := eqSt_sound (P := P) (w := s.w) hu hL hb0.1 hb0.2 (opd_mv ok ha h1) (opd_mv ok hb h2) h3 true x y
     refine pure_step ok rfl (lt_of_insOk1 rfl hn) ?_ (.bool _) e2 h
     simp only [execOp, Sem.run_bind, cond_true, cond_false] at hrun ⊢
     rw [hrun]
     rfl
   ·cases hc
  ·rename_i hu
   cases hc
   obtain ⟨l, h1, e1⟩ := wStr_some e
   obtain ⟨m, h2, e1⟩ := wStr_some e1
   obtain ⟨r, h3, e1, e2⟩ := bd_some e1
   unfold catS at e1
   split at e1
   ·rename_i hle
    cases e1
    have hx := opd_mv ok ha h1
    have hy := opd_mv ok hb h2
    generalize hq : Act.eval ⟨s.t, []⟩ x = q at hx
    generalize hp : Act.eval ⟨s.t, []⟩ y = p at hy
    cases hx; cases hy
    refine pure_step ok rfl (lt_of_insOk1 rfl hn) (rv := .string (⟨l.toArray⟩ ++ ⟨m.toArray⟩)) ?_ ?_ e2 h
    ·have hsz : ((((⟨l.toArray⟩ : ByteArray).size + (⟨m.toArray⟩ : ByteArray).size : Nat) : Int) > IntKind.i64.max) = False := by
      apply eq_false
      have : most = 70368744177664 := rfl
      have h63 : IntKind.i64.max = 9223372036854775807 := by decide
      rw [h63]
      simp [ByteArray.size]
      omega
     simp only [execOp, hq, hp, Sem.run_bind, eqGuard_str, Result.andThen_ok, binOp, Op.stringOp, hsz, if_false, Sem.run_pure]
    ·have : ((⟨l.toArray⟩ : ByteArray) ++ ⟨m.toArray⟩) = ⟨(l ++ m).toArray⟩ := by
      apply ByteArray.ext
      simp [ByteArray.data_append]
     rw [this]
     exact .str _
   ·cases e1
  ·rename_i ms hu
   split at hc
   ·cases hc
    obtain ⟨v, h1, e1⟩ := okOf_some e
    obtain ⟨r, h2, e2, e3⟩ := bd_some e1
    obtain ⟨rfl, hrun⟩ := nilI_sound (P := P) (w := s.w) hu hb (opd_mv ok ha h1) e2 false x
    refine pure_step ok rfl (lt_of_insOk1 rfl hn) ?_ (.bool _) e3 h
    simp only [execOp, Sem.run_bind, cond_true, cond_false] at hrun ⊢
    rw [hrun]
    rfl
   ·cases hc
  ·rename_i ms hu
   split at hc
   ·cases hc
    obtain ⟨v, h1, e1⟩ := okOf_some e
    obtain ⟨r, h2, e2, e3⟩ := bd_some e1
    obtain ⟨rfl, hrun⟩ := nilI_sound (P := P) (w := s.w) hu hb (opd_mv ok ha h1) e2 true x
    refine pure_step ok rfl (lt_of_insOk1 rfl hn) ?_ (.bool _) e3 h
    simp only [execOp, Sem.run_bind, cond_true, cond_false] at hrun ⊢
    rw [hrun]
    rfl
   ·cases hc
  ·rename_i hu; cases hc; exact key _ a b 1 ha hb hu (by intro v hv; cases v <;> first | rfl | exact (nomatch hv)) rfl
  ·rename_i hu
   split at hc
   ·cases hc
   ·rename_i hE
    cases hc
    exact key _ a b 2 ha hb hu (by intro v hv; cases v <;> first | rfl | (simp only [tagOk] at hv; exact absurd hv (by decide)) | (simp only [eqKind]; cases hb0 : Nat.beq (P.cellsOf _) 0 with | true => exact absurd (Nat.eq_of_beq_eq_true hb0) hE | false => rfl)) rfl
  ·rename_i hu; cases hc; exact key _ a b 3 ha hb hu (by intro v hv; cases v <;> first | rfl | exact (nomatch hv)) rfl
  ·rename_i hu; cases hc; exact key _ a b 4 ha hb hu (by intro v hv; cases v <;> first | rfl | exact (nomatch hv)) rfl
  ·cases hc; exact key _ a b 0 ha hb (by assumption) (by intro v hv; cases v <;> first | rfl | exact (nomatch hv)) rfl
  ·cases hc
 ·cases hc
theorem s_alloc (ok : Ok s) {t : TypeId} (hc : compOp P priv ⟨some d, .alloc t, type, pos, after, guard⟩ = some ins) (hn : insOk s.t.size ins = true) (e : evIns C ins s.fr k s.h = some res) (h : After s ins.dst k res next) :
  (⟨some d, .alloc t, type, pos, after, guard⟩ : Oper).wp P ⟨s.t, []⟩ s.w next Q := by
 simp only [compOp] at hc
 cases hm : mem d priv with
 | true =>
  rw [hm] at hc
  obtain ⟨pv, hp, rfl⟩ := map_some hc
  obtain ⟨i, zv, hi, hz, hr⟩ := privPV_spec hp
  exact pnew_step ok rfl (lt_of_insOk1 rfl hn) (t := t) (hr s.ρ) (by simp [execOp, Instr.alloc, zeroValue_run hi hz, newVar, newRow]) e h
 | false =>
  rw [hm] at hc
  obtain ⟨z, hz, rfl⟩ := map_some hc
  simp only [evIns] at e
  obtain ⟨p, h1, e1, e2⟩ := bd_some e
  refine out_step ok rfl (lt_of_insOk1 rfl hn) (alloc_sound (P := P) ok.heap hz e1) ?_ e2 h
  intro rv w' hrun
  simp [execOp, hrun]
theorem s_box (ok : Ok s) {t : TypeId} {x : Operand} (hc : compOp P priv ⟨some d, .box t x, type, pos, after, guard⟩ = some ins) (hn : insOk s.t.size ins = true) (e : evIns C ins s.fr k s.h = some res) (h : After s ins.dst k res next) :
  (⟨some d, .box t x, type, pos, after, guard⟩ : Oper).wp P ⟨s.t, []⟩ s.w next Q := by
 simp only [compOp] at hc
 split at hc
 ·rename_i a ha
  cases hm : mem d priv with
  | true =>
   rw [hm] at hc
   simp only [cond_true] at hc
   split at hc
   ·cases hc
    obtain ⟨cs, hv, e1⟩ := wAgg_some e
    have hr := opd_mv ok ha hv
    generalize hq : Act.eval ⟨s.t, []⟩ x = q at hr
    cases hr with
    | agg _ xs hxs => exact pnew_step ok rfl (lt_of_insOk1 rfl hn) (t := t) (c := xs.toArray) (pv := .raw cs) (by simpa [PV.cells] using hxs) (by simp [execOp, hq, Instr.box, newVar, newRow, Value.cells]) e1 h
   ·cases hc
    obtain ⟨cs, hv, e1⟩ := wAgg_some e
    have hr := opd_mv ok ha hv
    generalize hq : Act.eval ⟨s.t, []⟩ x = q at hr
    cases hr with
    | agg _ xs hxs => exact pnew_step ok rfl (lt_of_insOk1 rfl hn) (t := t) (c := xs.toArray) (pv := .st cs) (by simpa [PV.cells] using hxs) (by simp [execOp, hq, Instr.box, newVar, newRow, Value.cells]) e1 h
   ·cases hc
    obtain ⟨v, hv, e1⟩ := okOf_some e
    split at e1
    ·rename_i hcell
     have hr := opd_mv ok ha hv
     have h1 := hr.oneCell hcell
     exact pnew_step ok rfl (lt_of_insOk1 rfl hn) (t := t) (c := #[Act.eval ⟨s.t, []⟩ x]) (pv := .st [v]) (.cons _ _ _ _ hr .nil) (by simp [execOp, Instr.box, newVar, newRow, cells_of_one h1]) e1 h
    ·cases e1
   ·cases hc
  | false =>
   rw [hm] at hc
   cases hc
   cases hg : isAggT P t with
   | true =>
    rw [hg] at e
    obtain ⟨cs, hv, e1⟩ := wAgg_some e
    obtain ⟨p, h1, e1, e2⟩ := bd_some e1
    refine out_step ok rfl (lt_of_insOk1 rfl hn) (box_sound (P := P) (t := t) ok.heap (opd_mv ok ha hv) e1) ?_ e2 h
    intro rv w' hrun
    simp [execOp, hrun]
   | false =>
    rw [hg] at e
    obtain ⟨cs, hv, e1⟩ := okOf_some e
    obtain ⟨p, h1, e1, e2⟩ := bd_some e1
    refine out_step ok rfl (lt_of_insOk1 rfl hn) (box1_sound (P := P) (t := t) ok.heap (opd_mv ok ha hv) e1) ?_ e2 h
    intro rv w' hrun
    simp [execOp, hrun]
 ·cases hc
theorem s_load (ok : Ok s) {t : TypeId} {x : Operand} (hc : compOp P priv ⟨some d, .load t x, type, pos, after, guard⟩ = some ins) (hn : insOk s.t.size ins = true) (e : evIns C ins s.fr k s.h = some res) (h : After s ins.dst k res next) :
  (⟨some d, .load t x, type, pos, after, guard⟩ : Oper).wp P ⟨s.t, []⟩ s.w next Q := by
 simp only [compOp] at hc
 split at hc
 ·rename_i n
  split at hc
  case h_2 => cases hc
  rename_i ty ht
  cases hc
  have ht : vty P t = some ty ∨ lty P t = some ty := by
   revert ht
   cases (mem n priv) with
   | true => exact .inl
   | false => exact .inr
  rcases wPlace_some e with ⟨q, hv, e1⟩ | ⟨m, o, hv, e1⟩
  ·obtain ⟨r, h1, e2, e3⟩ := bd_some e1
   obtain ⟨rfl, rv, hrun, hr⟩ : _ ∧ _ := ht.elim (fun ht => load_sound (P := P) ok.heap ht (tmp_rel ok hv) e2) fun ht => load_soundL (P := P) ok.heap ht (tmp_rel ok hv) e2
   exact pure_step ok rfl (lt_of_insOk1 rfl hn) (by simp [execOp, hrun]) hr e3 h
  ·obtain ⟨pv, hp, e2⟩ := okOf_some e1
   have ht : vty P t = some ty := by
    rcases ht with ht | ht
    ·exact ht
    ·rcases lty_spec ht with ht | ⟨f, caps, rfl, ht⟩
     ·exact ht
     ·cases hpv : pv.1 <;> rw [hpv] at e2 <;> cases e2
   obtain ⟨⟨c, el, h1, h2⟩, h3⟩ := ok.priv m pv.1 pv.2 hp
   obtain ⟨v, rv, e3, hr, hrun⟩ := pload_sound (P := P) ht h1 h2 e2
   have hx : Act.eval ⟨s.t, []⟩ (.tmp n) = .pointer (some ⟨s.π m, o, none⟩) := tmp_rel ok hv
   exact pure_step ok rfl (lt_of_insOk1 rfl hn) (by simp [execOp, hx, hrun]) hr e3 h
 ·cases hc
theorem s_store (ok : Ok s) {t : TypeId} {a x : Operand} (hc : compOp P priv ⟨none, .store t a x, type, pos, after, guard⟩ = some ins) (hn : insOk s.t.size ins = true) (e : evIns C ins s.fr k s.h = some res) (h : After s ins.dst k res next) :
  (⟨none, .store t a x, type, pos, after, guard⟩ : Oper).wp P ⟨s.t, []⟩ s.w next Q := by
 simp only [compOp] at hc
 split at hc
 ·rename_i n b hb
  have kk : ∃ m : Option Nat, ins = .store m (.t n) b ∧ ∃ dd, P.underlying t = some dd ∧ ((m = none ∧ aggD dd = false ∧ P.cellsOf t = 1) ∨ (m = some (P.cellsOf t) ∧ aggD dd = true)) := by
   cases hg : isAggT P t with
   | true =>
    rw [hg] at hc
    cases hc
    have hund : ∃ dd, P.underlying t = some dd := by
     cases hu : P.underlying t with
     | none => simp [isAggT, hu] at hg
     | some dd => exact ⟨dd, rfl⟩
    obtain ⟨dd, hu⟩ := hund
    exact ⟨_, rfl, dd, hu, .inr ⟨rfl, by rw [aggD_isAgg hu] at hg; exact hg⟩⟩
   | false =>
    rw [hg] at hc
    simp only [cond_false] at hc
    split at hc
    ·rename_i h1
     obtain ⟨h1, h2⟩ := h1
     cases hc
     obtain ⟨dd, hu⟩ := hasUnd h2
     exact ⟨_, rfl, dd, hu, .inl ⟨rfl, by rw [aggD_isAgg hu] at hg; exact hg, h1⟩⟩
    ·cases hc
  obtain ⟨m, rfl, dd, hu, hm⟩ := kk
  have e0 : (∃ q v, (Opd.t n).val s.fr = some (.v (.ptr q)) ∧ b.mv s.fr = some v ∧ ∃ u h1, (Instr.storeAt t (Act.eval ⟨s.t, []⟩ (.tmp n)) (Act.eval ⟨s.t, []⟩ x)).run P s.w = .ok u h1 ∧ ∃ h2, HRel s.ρ h2 h1.heap ∧ HStp s.ρ s.h s.w s.ρ h2 h1 ∧ k s.fr h2 = some res) ∨
    (∃ g o pv v, (Opd.t n).val s.fr = some (.loc g o) ∧ look s.fr.p g = some (pv, true) ∧ b.mv s.fr = some v ∧ pstore pv m o v (fun pv' => k (s.fr.pset g pv')) s.h = some res) := by
   rcases hm with ⟨rfl, ha, h1⟩ | ⟨rfl, ha⟩
   ·rcases wPlace_some e with ⟨q, hv, e1⟩ | ⟨g, o, hv, e1⟩
    ·obtain ⟨v, hb2, e2⟩ := okOf_some e1
     obtain ⟨u, h1', e3, e4⟩ := bd_some e2
     obtain ⟨w', hrun, k1, k2⟩ := stc_sound (P := P) ok.heap hu h1 (tmp_rel ok hv) (opd_mv ok hb hb2) e3
     exact .inl ⟨q, v, hv, hb2, (), w', hrun, h1', k1, k2, e4⟩
    ·obtain ⟨pv, hp, e2⟩ := okOf_some e1
     obtain ⟨hw, e3⟩ := wIf_some e2
     obtain ⟨v, hb2, e4⟩ := okOf_some e3
     exact .inr ⟨g, o, pv.1, v, hv, by rw [hp, ← hw], hb2, e4⟩
   ·rcases wPlace_some e with ⟨q, hv, e1⟩ | ⟨g, o, hv, e1⟩
    ·obtain ⟨vs, hb2, e2⟩ := wAgg_some e1
     obtain ⟨u, h1', e3, e4⟩ := bd_some e2
     obtain ⟨w', hrun, k1, k2⟩ := stn_sound (P := P) ok.heap hu (tmp_rel ok hv) (opd_mv ok hb hb2) e3
     exact .inl ⟨q, _, hv, hb2, (), w', hrun, h1', k1, k2, e4⟩
    ·obtain ⟨pv, hp, e2⟩ := okOf_some e1
     obtain ⟨hw, e3⟩ := wIf_some e2
     obtain ⟨v, hb2, e4⟩ := okOf_some e3
     exact .inr ⟨g, o, pv.1, v, hv, by rw [hp, ← hw], hb2, e4⟩
  have hdst : ins_dst_nil (.store m (.t n) b) := rfl
  rcases e0 with ⟨q, v, hv, hb2, u, w', hrun, h2, k1, k2, e4⟩ | ⟨g, o, pv, v, hv, hp, hb2, e4⟩
  ·obtain ⟨ok2, st⟩ := ok.step k1 k2
   refine fin_skip rfl (w' := w') (by simp [execOp, hrun]) (h _ ok2 st e4)
  ·obtain ⟨⟨c, el, h1, h2⟩, h3⟩ := ok.priv g pv true hp
   obtain ⟨pv', c', e5, hrel, hrun⟩ := pstore_sound (P := P) hu hm h1 h2 (opd_mv ok hb hb2) e4
   have hx : Act.eval ⟨s.t, []⟩ (.tmp n) = .pointer (some ⟨s.π g, o, none⟩) := tmp_rel ok hv
   obtain ⟨ok2, st⟩ := ok.pset hp h1 hrel
   refine fin_skip rfl (w' := s.w.setRow (s.π g) c') (by simp [execOp, hx, hrun]) (h _ ok2 st e5)
 ·cases hc
theorem s_nilCheck (ok : Ok s) {x : Operand} (hc : compOp P priv ⟨some d, .nilCheck x, type, pos, after, guard⟩ = some ins) (hn : insOk s.t.size ins = true) (e : evIns C ins s.fr k s.h = some res) (h : After s ins.dst k res next) :
  (⟨some d, .nilCheck x, type, pos, after, guard⟩ : Oper).wp P ⟨s.t, []⟩ s.w next Q := by
 simp only [compOp] at hc
 split at hc
 ·rename_i n
  split at hc
  ·cases hc
   obtain ⟨f, cs, hv, e1⟩ := wFn_some e
   have hr := tmp_mv ok hv
   generalize hq : Act.eval ⟨s.t, []⟩ (.tmp n) = q at hr
   cases hr with
   | fn _ _ vs hvs => exact pure_step ok rfl (lt_of_insOk1 rfl hn) (rv := .func (.func f) #[] vs.toArray) (by simp [execOp, hq]) (.fn _ _ _ hvs) e1 h
  ·cases hc
   rcases wPlace_some e with ⟨q, hv, e1⟩ | ⟨m, o, hv, e1⟩
   ·obtain ⟨r, h1, e2, e3⟩ := bd_some e1
    have hr := tmp_rel ok hv
    cases q with
    | none => cases e2
    | some a =>
     cases e2
     refine pure_step ok rfl (lt_of_insOk1 rfl hn) ?_ hr e3 h
     generalize hq : Act.eval ⟨s.t, []⟩ (.tmp n) = q at hr
     cases hr
     simp [execOp, hq]
   ·have hx : Act.eval ⟨s.t, []⟩ (.tmp n) = .pointer (some ⟨s.π m, o, none⟩) := tmp_rel ok hv
    exact move_step ok rfl (lt_of_insOk1 rfl hn) (fv := .loc m o) rfl (by simp [execOp, hx]) e1 h
 ·rename_i f0
  cases hc
  have e1 : k (s.fr.set d (.fn f0 [])) s.h = some res := e
  exact pure_step ok rfl (lt_of_insOk1 rfl hn) (by simp [execOp, Act.eval]) (.fn _ _ _ .nil) e1 h
 ·cases hc
theorem s_fieldAddr (ok : Ok s) {t : TypeId} {x : Operand} {i : Nat} (hc : compOp P priv ⟨some d, .fieldAddr t x i, type, pos, after, guard⟩ = some ins) (hn : insOk s.t.size ins = true) (e : evIns C ins s.fr k s.h = some res) (h : After s ins.dst k res next) :
  (⟨some d, .fieldAddr t x i, type, pos, after, guard⟩ : Oper).wp P ⟨s.t, []⟩ s.w next Q := by
 simp only [compOp] at hc
 split at hc
 ·rename_i fs n hu
  split at hc
  ·rename_i f hf
   split at hc
   ·rename_i hz
    obtain ⟨hz, hund⟩ := hz
    obtain ⟨df, hfu⟩ := hasUnd hund
    cases hc
    rcases wPlace_some e with ⟨q, hv, e1⟩ | ⟨m, o, hv, e1⟩
    ·obtain ⟨p, h1, e2, e3⟩ := bd_some e1
     refine out_step ok rfl (lt_of_insOk1 rfl hn) (fld_sound (P := P) ok.heap hu hf hfu hz (tmp_rel ok hv) e2) ?_ e3 h
     intro rv w' hrun
     simp [execOp, hrun]
    ·have hx : Act.eval ⟨s.t, []⟩ (.tmp n) = .pointer (some ⟨s.π m, o, none⟩) := tmp_rel ok hv
     refine move_step ok rfl (lt_of_insOk1 rfl hn) (fv := .loc m (o + f.offset)) (y := .pointer (some ⟨s.π m, o + f.offset, none⟩)) rfl ?_ e1 h
     simp [execOp, hx, Instr.fieldAt, und_run hu, hf, Instr.sureAddr, fieldPlace, sizeOf_run hfu, hz, add_zero_or]
   ·cases hc
  ·cases hc
 ·cases hc
theorem s_field (ok : Ok s) {t : TypeId} {x : Operand} {i : Nat} (hc : compOp P priv ⟨some d, .field t x i, type, pos, after, guard⟩ = some ins) (hn : insOk s.t.size ins = true) (e : evIns C ins s.fr k s.h = some res) (h : After s ins.dst k res next) :
  (⟨some d, .field t x i, type, pos, after, guard⟩ : Oper).wp P ⟨s.t, []⟩ s.w next Q := by
 simp only [compOp] at hc
 split at hc
 ·rename_i fs n hu
  split at hc
  ·rename_i f hf
   split at hc
   ·rename_i ty hty
    have core : ∀ cs v, (Opd.t n).mv s.fr = some (.agg cs) → ∀ rv, VRel s.ρ v rv → (∀ xs : Array Value, Act.eval ⟨s.t, []⟩ (.tmp n) = .agg xs → (part f.type xs f.offset).run P s.w = .ok rv s.w) → k (s.fr.set d v) s.h = some res → After s [d] k res next → d < s.t.size →
      (⟨some d, .field t (.tmp n) i, type, pos, after, guard⟩ : Oper).wp P ⟨s.t, []⟩ s.w next Q := by
     intro cs v hv rv hr hp e2 h hlt
     have hxr := tmp_mv ok hv
     generalize hq : Act.eval ⟨s.t, []⟩ (.tmp n) = q at hxr hp
     cases hxr with
     | agg _ xs hxs => exact pure_step ok rfl hlt (by simp [execOp, hq, Instr.field, und_run hu, hf, asAgg, hp _ rfl]) hr e2 h
    cases ha : hasArr P depth t with
    | true =>
     rw [ha] at hc
     cases hc
     obtain ⟨cs, hv, e1⟩ := wAgg_some e
     obtain ⟨v, rv, e2, hr, hp⟩ := fld_part (P := P) (w := s.w) (pv := .raw cs) hty e1 (tmp_mv ok hv)
     exact core cs v hv rv hr hp e2 h (lt_of_insOk1 rfl hn)
    | false =>
     rw [ha] at hc
     simp only [cond_false] at hc
     have kk : ins = .fldV d f.offset ty (.t n) ∧ (∃ c, ty = .c c) ∨ ins = .fldV d f.offset ty (.t n) ∧ (∃ ts, ty = .st ts) ∨ ins = .fldV d f.offset ty (.t n) ∧ (∃ kd, ty = .arr kd) ∨ ins = .fldV d f.offset ty (.t n) ∧ ∃ g cp, ty = .fnc g cp := by
      cases ty with
      | c c => cases hc; exact .inl ⟨rfl, _, rfl⟩
      | st ts => cases hc; exact .inr (.inl ⟨rfl, _, rfl⟩)
      | agg m => cases hc
      | arr kd => cases hc; exact .inr (.inr (.inl ⟨rfl, _, rfl⟩))
      | fnc g cp => cases hc; exact .inr (.inr (.inr ⟨rfl, _, _, rfl⟩))
     have e' : ∃ cs, (Opd.t n).mv s.fr = some (.agg cs) ∧ pload (.st cs) ty f.offset (fun v => k (s.fr.set d v)) s.h = some res := by
      rcases kk with ⟨rfl, c, rfl⟩ | ⟨rfl, ts, rfl⟩ | ⟨rfl, kd, rfl⟩ | ⟨rfl, g, cp, rfl⟩
      ·exact wAgg_some e
      ·exact wAgg_some e
      ·cases e
      ·cases e
     obtain ⟨cs, hv, e1⟩ := e'
     obtain ⟨v, rv, e2, hr, hp⟩ := fld_part (P := P) (w := s.w) (pv := .st cs) hty e1 (tmp_mv ok hv)
     have hd : ins.dst = [d] := by rcases kk with ⟨rfl, _⟩ | ⟨rfl, _⟩ | ⟨rfl, _⟩ | ⟨rfl, _⟩ <;> rfl
     rw [hd] at h
     exact core cs v hv rv hr hp e2 h (lt_of_insOk1 hd hn)
   ·cases hc
  ·cases hc
 ·cases hc
theorem s_indexAddr (ok : Ok s) {t : TypeId} {x i : Operand} (hc : compOp P priv ⟨some d, .indexAddr t x i, type, pos, after, guard⟩ = some ins) (hn : insOk s.t.size ins = true) (e : evIns C ins s.fr k s.h = some res) (h : After s ins.dst k res next) :
  (⟨some d, .indexAddr t x i, type, pos, after, guard⟩ : Oper).wp P ⟨s.t, []⟩ s.w next Q := by
 simp only [compOp] at hc
 split at hc
 ·rename_i m E n hu
  split at hc
  ·rename_i hund
   obtain ⟨dE, hE⟩ := hasUnd hund
   obtain ⟨o, ho, rfl⟩ := map_some hc
   rcases wPlace_some e with ⟨q, hv, e1⟩ | ⟨g, off, hv, e1⟩
   ·obtain ⟨kd, j, hj, e1⟩ := wInt_some e1
    obtain ⟨p, h1, e2, e3⟩ := bd_some e1
    have hji := opd_mv ok ho hj
    have hji2 : Act.eval ⟨s.t, []⟩ i = .int kd j := by generalize hq : Act.eval ⟨s.t, []⟩ i = q at hji; cases hji; rfl
    refine out_step ok rfl (lt_of_insOk1 rfl hn) (idxA_sound (P := P) (kd := kd) ok.heap hu hE (tmp_rel ok hv) e2) ?_ e3 h
    intro rv w' hrun
    simp [execOp, hji2, hrun]
   ·obtain ⟨kd, j, hj, e1⟩ := wInt_some e1
    obtain ⟨p, h1, e2, e3⟩ := bd_some e1
    have hji := opd_mv ok ho hj
    have hji2 : Act.eval ⟨s.t, []⟩ i = .int kd j := by generalize hq : Act.eval ⟨s.t, []⟩ i = q at hji; cases hji; rfl
    have hx : Act.eval ⟨s.t, []⟩ (.tmp n) = .pointer (some ⟨s.π g, off, none⟩) := tmp_rel ok hv
    split at e2
    ·rename_i hb
     cases e2
     refine move_step ok rfl (lt_of_insOk1 rfl hn) (fv := .loc g (off + j.toNat * P.cellsOf E)) (y := .pointer (some ⟨s.π g, off + j.toNat * P.cellsOf E, none⟩)) rfl ?_ e3 h
     simp [execOp, hx, hji2, Instr.indexAt, asIntOf, und_run hu, Instr.sureAddr, sizeOf_run hE, hb.1, hb.2, add_zero_or]
    ·cases e2
  ·cases hc
 ·rename_i E n hu
  split at hc
  ·rename_i hund
   obtain ⟨dE, hE⟩ := hasUnd hund
   obtain ⟨o, ho, rfl⟩ := map_some hc
   obtain ⟨p, l, z, hv, e1⟩ := wSl_some e
   obtain ⟨kd, j, hj, e1⟩ := wInt_some e1
   split at e1
   ·rename_i hz
    obtain ⟨q, h1, e2, e3⟩ := bd_some e1
    rw [← hz] at hv
    have hji := opd_mv ok ho hj
    have hji2 : Act.eval ⟨s.t, []⟩ i = .int kd j := by generalize hq : Act.eval ⟨s.t, []⟩ i = q at hji; cases hji; rfl
    refine out_step ok rfl (lt_of_insOk1 rfl hn) (idx_sound (P := P) (kd := kd) (s := ⟨p, l⟩) ok.heap hu hE (tmp_mv ok hv) e2) ?_ e3 h
    intro rv w' hrun
    simp [execOp, hji2, hrun]
   ·cases e1
  ·cases hc
 ·cases hc
theorem s_makeSlice (ok : Ok s) {t : TypeId} {a b : Operand} (hc : compOp P priv ⟨some d, .makeSlice t a b, type, pos, after, guard⟩ = some ins) (hn : insOk s.t.size ins = true) (e : evIns C ins s.fr k s.h = some res) (h : After s ins.dst k res next) :
  (⟨some d, .makeSlice t a b, type, pos, after, guard⟩ : Oper).wp P ⟨s.t, []⟩ s.w next Q := by
 simp only [compOp] at hc
 split at hc
 ·rename_i E oa ob hu ha hb
  split at hc
  ·cases hc
  ·rename_i hb0
   obtain ⟨z, hz, rfl⟩ := map_some hc
   obtain ⟨kl, l, hl, e1⟩ := wInt_some e
   obtain ⟨kc, c, hcc, e1⟩ := wInt_some e1
   obtain ⟨sl, h1, e2, e3⟩ := bd_some e1
   have hli := opd_mv ok ha hl
   have hci := opd_mv ok hb hcc
   have hl2 : Act.eval ⟨s.t, []⟩ a = .int kl l := by generalize hq : Act.eval ⟨s.t, []⟩ a = q at hli; cases hli; rfl
   have hc2 : Act.eval ⟨s.t, []⟩ b = .int kc c := by generalize hq : Act.eval ⟨s.t, []⟩ b = q at hci; cases hci; rfl
   refine out_step ok rfl (lt_of_insOk1 rfl hn) (mkSl_sound (P := P) (kl := kl) (kc := kc) ok.heap hu hz e2 (by omega)) ?_ e3 h
   intro rv w' hrun
   simp [execOp, hl2, hc2, hrun]
 ·cases hc
end
end Go.Mini
