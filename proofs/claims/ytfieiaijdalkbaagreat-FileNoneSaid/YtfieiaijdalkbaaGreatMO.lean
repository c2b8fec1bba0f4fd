/- Frames behind a piece of code; regions. -/
import Derived.Test.YtfieiaijdalkbaaGreatMN
namespace Go.Mini
universe u
theorem look_lockP {keep : List Nat} : ∀ {l : List (Nat × PV × Bool)} {n : Nat} {x : PV × Bool}, look (lockP keep l) n = some x → ∃ b, look l n = some (x.1, b) ∧ x.2 = (b && mem n keep)
 | [], n, x, h => by cases h
 | (m, pv, b) :: r, n, x, h => by
  simp only [lockP, look_cons] at h ⊢
  by_cases e : m = n
  ·subst e
   rw [if_pos rfl] at h
   cases h
   exact ⟨b, by rw [if_pos rfl], rfl⟩
  ·rw [if_neg e] at h
   rw [if_neg e]
   exact look_lockP h
theorem look_dropP {ds : List Nat} : ∀ {l : List (Nat × PV × Bool)} {n : Nat} {x : PV × Bool}, look (dropP ds l) n = some x → n ∉ ds ∧ look l n = some x
 | [], n, x, h => by cases h
 | (m, y) :: r, n, x, h => by
  simp only [dropP] at h
  cases hm : mem m ds with
  | true =>
   rw [hm] at h
   obtain ⟨h0, h1⟩ := look_dropP h
   refine ⟨h0, ?_⟩
   rw [look_cons, if_neg (fun c => h0 (by rw [← c]; exact (mem_iff _ _).1 hm))]
   exact h1
  | false =>
   rw [hm] at h
   simp only [cond_false, look_cons] at h
   rw [look_cons]
   by_cases e : m = n
   ·subst e
    rw [if_pos rfl] at h ⊢
    exact ⟨fun c => (by rw [(mem_iff _ _).2 c] at hm; cases hm), h⟩
   ·rw [if_neg e] at h ⊢
    exact look_dropP h
theorem Ok.lock {s : S} (ok : Ok s) (keep : List Nat) : Ok { s with fr := s.fr.lock keep } := by
 refine ⟨ok.heap, ok.slots, ?_, ?_⟩
 ·intro n pv b h
  obtain ⟨b', h1, _⟩ := look_lockP h
  exact ok.priv n pv b' h1
 ·intro n m x y hx hy hne
  obtain ⟨b1, h1, _⟩ := look_lockP hx
  obtain ⟨b2, h2, _⟩ := look_lockP hy
  exact ok.pinj n m _ _ h1 h2 hne
theorem Wr.lock {s : S} {keep : List Nat} {r : Nat} (h : Wr { s with fr := s.fr.lock keep } r) : ∃ n pv, n ∈ keep ∧ look s.fr.p n = some (pv, true) ∧ s.π n = r := by
 obtain ⟨n, pv, h1, h2⟩ := h
 obtain ⟨b, h3, h4⟩ := look_lockP h1
 cases b with
 | false => cases h4
 | true => exact ⟨n, pv, (mem_iff _ _).1 h4.symm, h3, h2⟩
theorem Stp.unlock {s s' : S} {keep ds : List Nat} (st : Stp { s with fr := s.fr.lock keep } s' ds) : Stp s s' ds := by
 have hw : ∀ r, Wr { s with fr := s.fr.lock keep } r → Wr s r := by
  intro r h
  obtain ⟨n, pv, _, h2, h3⟩ := Wr.lock h
  exact ⟨n, pv, h2, h3⟩
 exact ⟨st.ext, st.os, st.tape, st.output, st.size, st.grw, fun r hr hf hn => st.old r hr hf fun c => hn (hw r c), st.foot, st.liv, fun r h => (st.wr r h).imp (hw r) id, st.pi, st.pi2, st.tsz, st.tmp⟩
structure FOk (s s1 : S) (ds keep : List Nat) (lk : Bool) (F : Fr) : Prop where
 slots : ∀ i x, look F.v i = some x → i < s1.t.size ∧ FRel s1.ρ s1.π x (s1.t.getD i undef)
 priv : ∀ n pv b, look F.p n = some (pv, b) → (∃ c el, s1.w.heap[s1.π n]? = some (.cells c el (0, 0)) ∧ VRels s1.ρ pv.cells c.toList)
 from_ : ∀ n pv b, look F.p n = some (pv, b) → (n ∉ ds ∧ n ∉ keep ∧ ∃ b', look s.fr.p n = some (pv, b') ∧ (b = true → b' = true)) ∨ ∃ pv', look s1.fr.p n = some (pv', true)
 fl : lk = true → ∀ n pv, look F.p n = some (pv, true) → ∃ pv', look s1.fr.p n = some (pv', true)
section
variable {s s1 : S} {ds keep : List Nat} {lk : Bool}
theorem left_alone (ok : Ok s) (st : Stp { s with fr := s.fr.lock keep } s1 ds) {n : Nat} {pv : PV} {b : Bool} (hn : n ∉ ds) (hk : n ∉ keep) (h : look s.fr.p n = some (pv, b)) :
  s1.π n = s.π n ∧ s.π n < s.w.heap.size ∧ (∃ c el, s1.w.heap[s1.π n]? = some (.cells c el (0, 0)) ∧ VRels s1.ρ pv.cells c.toList) ∧ ¬ Liv s1.ρ s1.h (s1.π n) := by
 obtain ⟨⟨c, el, h1, h2⟩, h3⟩ := ok.priv n pv b h
 have hlt : s.π n < s.w.heap.size := (Array.getElem?_eq_some_iff.1 h1).1
 have hpi : s1.π n = s.π n := st.pi n hn
 refine ⟨hpi, hlt, ⟨c, el, ?_, h2.mono st.ext⟩, ?_⟩
 ·rw [hpi, st.old _ hlt (fun f => h3 f.liv)]
  ·exact h1
  ·intro hw
   obtain ⟨m, pv', hm, h4, h5⟩ := Wr.lock hw
   exact ok.pinj m n _ _ h4 h (fun c => hk (by rw [← c]; exact hm)) h5
 ·rw [hpi]
  intro f
  rcases st.liv _ f with f | f
  ·exact h3 f
  ·have : s.w.heap.size ≤ s.π n := f
   omega
theorem FOk.ok (ok : Ok s) (ok1 : Ok s1) (st : Stp { s with fr := s.fr.lock keep } s1 ds) {F : Fr} (f : FOk s s1 ds keep lk F) :
  Ok { s1 with fr := F } := by
 have hsz := st.size
 refine ⟨ok1.heap, f.slots, ?_, ?_⟩
 ·intro n pv b h
  refine ⟨f.priv n pv b h, ?_⟩
  rcases f.from_ n pv b h with ⟨h1, h2, b', h3, _⟩ | ⟨pv', h1⟩
  ·exact (left_alone ok st h1 h2 h3).2.2.2
  ·exact (ok1.priv n pv' true h1).2
 ·have key : ∀ n m pv pv' b', (n ∉ ds ∧ n ∉ keep ∧ look s.fr.p n = some (pv, b')) → look s1.fr.p m = some (pv', true) → s1.π n ≠ s1.π m := by
   rintro n m pv pv' b' ⟨h1, h2, h3⟩ hm
   obtain ⟨a1, a2, _, _⟩ := left_alone ok st h1 h2 h3
   rw [a1]
   intro c
   rcases st.wr (s1.π m) ⟨m, pv', hm, rfl⟩ with hw | hw
   ·obtain ⟨g, pg, hg, h4, h5⟩ := Wr.lock hw
    exact ok.pinj n g _ _ h3 h4 (fun e => h2 (by rw [e]; exact hg)) (c.trans h5.symm)
   ·have : s.w.heap.size ≤ s1.π m := hw
    omega
  intro n m x y hx hy hne
  rcases f.from_ n x.1 x.2 hx with ⟨h1, h2, b', h3, _⟩ | ⟨pv1, h1⟩
  ·rcases f.from_ m y.1 y.2 hy with ⟨g1, g2, c', g3, _⟩ | ⟨pv2, g1⟩
   ·show s1.π n ≠ s1.π m
    rw [(left_alone ok st h1 h2 h3).1, (left_alone ok st g1 g2 g3).1]
    exact ok.pinj n m _ _ h3 g3 hne
   ·exact key n m _ _ _ ⟨h1, h2, h3⟩ g1
  ·rcases f.from_ m y.1 y.2 hy with ⟨g1, g2, c', g3, _⟩ | ⟨pv2, g1⟩
   ·exact (key m n _ _ _ ⟨g1, g2, g3⟩ h1).symm
   ·exact ok1.pinj n m _ _ h1 g1 hne
theorem FOk.stp (ok : Ok s) (st : Stp { s with fr := s.fr.lock keep } s1 ds) {F : Fr} (f : FOk s s1 ds keep lk F) : Stp s { s1 with fr := F } ds := by
 have st' := st.unlock
 refine ⟨st'.ext, st'.os, st'.tape, st'.output, st'.size, st'.grw, st'.old, st'.foot, st'.liv, ?_, st'.pi, st'.pi2, st'.tsz, st'.tmp⟩
 rintro r ⟨n, pv, hn, rfl⟩
 rcases f.from_ n pv true hn with ⟨h1, h2, b', h3, h4⟩ | ⟨pv', h1⟩
 ·refine .inl ⟨n, pv, by rw [h3, h4 rfl], ?_⟩
  exact (left_alone ok st h1 h2 h3).1.symm
 ·exact st'.wr _ ⟨n, pv', h1, rfl⟩
theorem FOk.stpL (ok : Ok s) (st : Stp { s with fr := s.fr.lock keep } s1 ds) {F : Fr} (f : FOk s s1 ds keep true F) :
  Stp { s with fr := s.fr.lock keep } { s1 with fr := F } ds := by
 refine ⟨st.ext, st.os, st.tape, st.output, st.size, st.grw, st.old, st.foot, st.liv, ?_, st.pi, st.pi2, st.tsz, st.tmp⟩
 rintro r ⟨n, pv, hn, rfl⟩
 obtain ⟨pv', h⟩ := f.fl rfl n pv hn
 exact st.wr _ ⟨n, pv', h, rfl⟩
theorem FOk.base (ok : Ok s) (st : Stp { s with fr := s.fr.lock keep } s1 ds) : FOk s s1 ds keep false (s.fr.del (ds ++ keep)) := by
 refine ⟨?_, ?_, ?_, fun c => by cases c⟩
 ·intro i x h
  obtain ⟨h1, h2⟩ := look_dropV (l := s.fr.v) h
  have hi : i ∉ ds := fun c => h1 (List.mem_append_left _ c)
  obtain ⟨y, hy⟩ := look_dropV_old (l := s.fr.v) h
  have hsz := (ok.slots i y hy).1
  refine ⟨by rw [st.tsz]; exact hsz, ?_⟩
  rcases h2 with rfl | ⟨h2, h3⟩
  ·trivial
  ·rw [st.tmp i hi]
   have hr := (ok.slots i x h2).2.mono st.ext
   cases x with
   | v x => exact hr
   | gone => trivial
   | loc g o =>
    have hg : g ∉ ds := fun c => h3 g o rfl (List.mem_append_left _ c)
    have : s1.π g = s.π g := st.pi g hg
    show _ = Value.pointer (some ⟨s1.π g, o, none⟩)
    rw [this]
    exact hr
 ·intro n pv b h
  obtain ⟨h1, h2⟩ := look_dropP (l := s.fr.p) h
  exact (left_alone ok st (fun c => h1 (List.mem_append_left _ c)) (fun c => h1 (List.mem_append_right _ c)) h2).2.2.1
 ·intro n pv b h
  obtain ⟨h1, h2⟩ := look_dropP (l := s.fr.p) h
  exact .inl ⟨fun c => h1 (List.mem_append_left _ c), fun c => h1 (List.mem_append_right _ c), b, h2, id⟩
theorem FOk.baseL (ok : Ok s) (st : Stp { s with fr := s.fr.lock keep } s1 ds) : FOk s s1 ds keep true ((s.fr.del (ds ++ keep)).lock keep) := by
 have f := FOk.base ok st
 refine ⟨f.slots, ?_, ?_, ?_⟩
 ·intro n pv b h
  obtain ⟨b', h1, _⟩ := look_lockP h
  exact f.priv n pv b' h1
 ·intro n pv b h
  obtain ⟨b', h1, h2⟩ := look_lockP h
  rcases f.from_ n pv b' h1 with ⟨g1, g2, c, g3, g4⟩ | g
  ·refine .inl ⟨g1, g2, c, g3, fun hb => g4 ?_⟩
   have h2' : b = (b' && mem n keep) := h2
   rw [hb] at h2'
   cases b' with
   | true => rfl
   | false => cases h2'
  ·exact .inr g
 ·intro _ n pv h
  obtain ⟨b', h1, h2⟩ := look_lockP h
  obtain ⟨h3, _⟩ := look_dropP (l := s.fr.p) h1
  exfalso
  have h2' : true = (b' && mem n keep) := h2
  cases b' with
  | false => cases h2'
  | true => exact h3 (List.mem_append_right _ ((mem_iff _ _).1 h2'.symm))
theorem PV.enc_dec {t : Ty} {pv : PV} {x : t.den} (h : pv.dec t = some x) : (PV.enc t x).cells = pv.cells := by
 cases t with
 | c t => cases pv <;> exact nomatch h
 | st ts =>
  cases pv with
  | st cs =>
   have h2 : HC.dec ts cs = some x := h
   exact HC.enc_dec ts cs x h2
  | _ => exact nomatch h
 | agg n =>
  cases pv with
  | raw cs =>
   have h2 : some cs = some x := h
   cases h2
   rfl
  | _ => exact nomatch h
 | arr k =>
  cases pv with
  | arr k' xs =>
   have h2 : (if k = k' then some xs else none) = some x := h
   split at h2
   ·rename_i e; subst e; cases h2; rfl
   ·cases h2
  | _ => exact nomatch h
 | fnc f cp => cases pv <;> exact nomatch h
theorem FOk.put (ok1 : Ok s1) {F : Fr} (f : FOk s s1 ds keep lk F) {l : LV} {x : l.ty.den} (hx : l.get s1.fr = some x) : FOk s s1 ds keep lk (l.put F x) := by
 cases l with
 | s n t =>
  have hx2 : (match look s1.fr.v n with
   | some (.v v) => t.dec v
   | _ => none) = some x := hx
  cases hv : look s1.fr.v n with
  | none => rw [hv] at hx2; cases hx2
  | some fv =>
  rw [hv] at hx2
  cases fv with
  | loc g o => cases hx2
  | gone => cases hx2
  | v v =>
   have he : t.enc x = v := Ty.enc_dec hx2
   refine ⟨?_, f.priv, f.from_, f.fl⟩
   intro i y hy
   have hy2 : look ((n, FV.v (t.enc x)) :: F.v) i = some y := hy
   rw [look_cons] at hy2
   by_cases e : n = i
   ·subst e
    rw [if_pos rfl] at hy2
    cases hy2
    rw [he]
    exact ok1.slots n _ hv
   ·rw [if_neg e] at hy2
    exact f.slots i y hy2
 | p n t =>
  have hx2 : (match look s1.fr.p n with
   | some (pv, true) => pv.dec t
   | _ => none) = some x := hx
  cases hp : look s1.fr.p n with
  | none => rw [hp] at hx2; cases hx2
  | some pb =>
  rw [hp] at hx2
  obtain ⟨pv, pb⟩ := pb
  cases pb with
  | false => cases hx2
  | true =>
   have he := PV.enc_dec hx2
   have hlk : ∀ i y, look (LV.put F (.p n t) x).p i = some y → (n = i ∧ y = (PV.enc t x, true)) ∨ (n ≠ i ∧ look F.p i = some y) := by
    intro i y hy
    have hy2 : look ((n, PV.enc t x, true) :: F.p) i = some y := hy
    rw [look_cons] at hy2
    by_cases e : n = i
    ·rw [if_pos e] at hy2; cases hy2; exact .inl ⟨e, rfl⟩
    ·rw [if_neg e] at hy2; exact .inr ⟨e, hy2⟩
   refine ⟨f.slots, ?_, ?_, ?_⟩
   rotate_left
   rotate_left
   ·intro hl i q hy
    rcases hlk i (q, true) hy with ⟨rfl, h⟩ | ⟨_, h⟩
    ·exact ⟨pv, hp⟩
    ·exact f.fl hl i q h
   ·intro i q b hy
    rcases hlk i (q, b) hy with ⟨rfl, h⟩ | ⟨_, h⟩
    ·cases h
     rw [he]
     exact (ok1.priv n pv true hp).1
    ·exact f.priv i q b h
   ·intro i q b hy
    rcases hlk i (q, b) hy with ⟨rfl, h⟩ | ⟨_, h⟩
    ·exact .inr ⟨pv, hp⟩
    ·exact f.from_ i q b h
theorem FOk.setL (ok1 : Ok s1) {F : Fr} (f : FOk s s1 ds keep lk F) {d g o : Nat} (h : look s1.fr.v d = some (.loc g o)) : FOk s s1 ds keep lk (F.setL d g o) := by
 refine ⟨?_, f.priv, f.from_, f.fl⟩
 intro i y hy
 have hy2 : look ((d, FV.loc g o) :: F.v) i = some y := hy
 rw [look_cons] at hy2
 by_cases e : d = i
 ·subst e
  rw [if_pos rfl] at hy2
  cases hy2
  exact ok1.slots d _ h
 ·rw [if_neg e] at hy2
  exact f.slots i y hy2
theorem FOk.putLocs (ok1 : Ok s1) : ∀ {ls : List (Nat × Nat × Nat)} {F : Fr}, FOk s s1 ds keep lk F → locsOk s1.fr ls = true → FOk s s1 ds keep lk (putLocs F ls)
 | [], F, f, _ => f
 | (d, g, o) :: r, F, f, h => by
  simp only [locsOk, Bool.and_eq_true] at h
  obtain ⟨h1, h2⟩ := h
  split at h1
  ·rename_i g' o' hl
   simp only [Bool.and_eq_true] at h1
   have e1 := Nat.eq_of_beq_eq_true h1.1
   have e2 := Nat.eq_of_beq_eq_true h1.2
   subst e1; subst e2
   show FOk s s1 ds keep lk (Go.Mini.putLocs (F.setL d g o) r)
   exact FOk.putLocs ok1 (f.setL ok1 hl) h2
  ·cases h1
theorem projK_some {β : Type} {fr : Fr} {res : β × Hp} {h : Hp} : ∀ {ls : List LV} {k : HL ls → M β}, projK fr ls k h = some res → ∃ x : HL ls, k x h = some res ∧ ∀ (s s1 : S) (ds keep : List Nat) (lk : Bool) (F : Fr), s1.fr = fr → Ok s1 → FOk s s1 ds keep lk F → FOk s s1 ds keep lk (unproj ls x F)
 | [], k, e => ⟨(), e, fun _ _ _ _ _ _ _ _ f => f⟩
 | [l], k, e => by
  have e2 : (match l.get fr with
   | some x => k x
   | none => fail) h = some res := e
  cases hg : l.get fr with
  | none => rw [hg] at e2; cases e2
  | some x =>
   rw [hg] at e2
   exact ⟨x, e2, fun s s1 ds keep lk F hfr ok1 f => f.put ok1 (by rw [hfr]; exact hg)⟩
 | l :: m :: r, k, e => by
  have e2 : (match l.get fr with
   | some x => projK fr (m :: r) fun y => k (x, y)
   | none => fail) h = some res := e
  cases hg : l.get fr with
  | none => rw [hg] at e2; cases e2
  | some x =>
   rw [hg] at e2
   obtain ⟨y, h1, h2⟩ := projK_some e2
   exact ⟨(x, y), h1, fun s s1 ds keep lk F hfr ok1 f => h2 s s1 ds keep lk _ hfr ok1 (f.put ok1 (by rw [hfr]; exact hg))⟩
theorem Live.proj_some {β : Type} {fr : Fr} {res : β × Hp} {h : Hp} {l : Live} {k : HL l.vs → M β} (e : l.proj fr k h = some res) : ∃ x : HL l.vs, k x h = some res ∧ ∀ (s s1 : S) (ds keep : List Nat) (lk : Bool) (F : Fr), s1.fr = fr → Ok s1 → FOk s s1 ds keep lk F → FOk s s1 ds keep lk (l.un x F) := by
 unfold Live.proj at e
 cases hl : locsOk fr l.locs with
 | false => rw [hl] at e; cases e
 | true =>
  rw [hl] at e
  obtain ⟨x, h1, h2⟩ := projK_some e
  exact ⟨x, h1, fun s s1 ds keep lk F hfr ok1 f => FOk.putLocs ok1 (h2 s s1 ds keep lk F hfr ok1 f) (by rw [hfr]; exact hl)⟩
end
end Go.Mini
