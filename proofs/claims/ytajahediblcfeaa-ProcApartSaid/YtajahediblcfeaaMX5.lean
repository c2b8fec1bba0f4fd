/- Regions whose order is drawn (5): any order. -/
import Derived.Test.YtajahediblcfeaaMX4
namespace Go.Mini
universe u

section
variable {P : Program} {priv pu : List Nat} {ntmps : Nat} {w : Bool} {ops : Array Oper} {C : List (Nat × Entry)} {Q : Exit → Act → World → Prop}

theorem run_seq {a b : Nat} {S S' : TS} (h : Run P priv ntmps w ops C a S b S') : ∃ seq : Nat → TS, seq a = S ∧ seq b = S' ∧ a ≤ b ∧ ∀ i, a ≤ i → i < b → Step P priv ntmps w ops C i (seq i) (seq (i + 1)) := by
  induction h with
  | nil a S => exact ⟨fun _ => S, rfl, rfl, Nat.le_refl _, fun i h1 h2 => by omega⟩
  | cons a b S S1 S2 h t ih =>
    obtain ⟨seq, h1, h2, h3, h4⟩ := ih
    refine ⟨fun i => if i ≤ a then S else seq i, by simp, by dsimp only; rw [if_neg (by omega)]; exact h2, by omega, fun i hi hb => ?_⟩
    dsimp only
    by_cases e : i = a
    · subst e
      rw [if_pos (Nat.le_refl _), if_neg (by omega), h1]
      exact h
    · rw [if_neg (by omega), if_neg (by omega)]
      exact h4 i (by omega) hb

def Lst (listed : Array Bool) (i : Nat) : Prop := listed.getD i false = true

theorem lst_set {listed : Array Bool} {i j : Nat} (hi : i < listed.size) : Lst (listed.setIfInBounds i true) j ↔ j = i ∨ Lst listed j := by
  unfold Lst
  by_cases e : i = j
  · subst e; simp [hi]
  · rw [getD_set_ne false e]
    constructor
    · exact .inr
    · rintro (h | h)
      · exact absurd h.symm e
      · exact h

theorem not_lst {listed : Array Bool} {i : Nat} (h : listed.getD i true = false) : ¬ Lst listed i ∧ i < listed.size := by
  unfold Lst
  by_cases hi : i < listed.size
  · simp [hi] at h ⊢; exact h
  · simp [Array.getElem?_eq_none (Nat.le_of_not_lt hi)] at h

structure Inv (P : Program) (priv : List Nat) (w : Bool) (ops : Array Oper) (s : S) (seq : Nat → TS) (D : List Nat) (listed : Array Bool) (s' : S) : Prop where
  ok : Ok s'
  stp : Stp s s' D
  lsz : listed.size = ops.size
  dc : ∀ (i : Nat) o, ops[i]? = some o → Lst listed i → Waits (Lst listed) o
  slot : ∀ (j : Nat) o d, ops[j]? = some o → Lst listed j → o.dst = some d → look s'.fr.v d = (seq (j + 1)).W d ∧ ((seq (j + 1)).W d = none → s'.t.getD d undef = undef)
  other : ∀ x, (∀ (j : Nat) o, ops[j]? = some o → Lst listed j → o.dst ≠ some x) → look s'.fr.v x = look s.fr.v x
  heap : ∃ m, m ≤ ops.size ∧ s'.h = (seq m).h ∧ s'.fr.p = (seq m).p ∧ (∀ (j : Nat) o, ops[j]? = some o → 2 ≤ (ddOf P w priv o).c → (Lst listed j ↔ j < m)) ∧
    ∀ m', m' ≤ m → ∀ b, (seq m').h.get b ≠ .dead → b < (seq m').h.size

theorem slotsOf_mem {n : Nat} {l : List Opd} (h : Opd.t n ∈ l) : n ∈ slotsOf l := by
  induction l with
  | nil => cases h
  | cons o r ih =>
    rcases List.mem_cons.1 h with e | h
    · subst e; simp [slotsOf]
    · have := ih h
      cases o with
      | t m => simp only [slotsOf]; exact List.mem_cons_of_mem _ this
      | _ => exact this

theorem plain_mem {v : MV} : ∀ {l : List Opd}, plainOpds l = true → Opd.c v ∈ l → blkOf v = none
  | [], _, h => by cases h
  | o :: r, hp, h => by
    rcases List.mem_cons.1 h with e | h
    · subst e
      cases v with
      | ptr p => cases p <;> first | rfl | cases hp
      | sl p a b => cases p <;> first | rfl | cases hp
      | map p => cases p <;> first | rfl | cases hp
      | _ => rfl
    · have : plainOpds r = true := by
        cases o with
        | t n => exact hp
        | fn f => exact hp
        | gl g => cases hp
        | c u =>
          cases u with
          | ptr p => cases p <;> first | exact hp | cases hp
          | sl p a b => cases p <;> first | exact hp | cases hp
          | map p => cases p <;> first | exact hp | cases hp
          | _ => exact hp
      exact plain_mem this h

theorem blk_lt {ρ : Rho} {h : Hp} {H : Array Obj} (k : HRel ρ h H) {v : MV} {x : Value} (hv : VRel ρ v x) {b : Nat} (hb : blkOf v = some b) : b < h.size := by
  cases hv <;> simp only [blkOf] at hb <;> try (cases hb; done)
  · rename_i a rb hr
    cases hb
    exact k.dom _ _ hr
  · rename_i a rb _ _ _ _ hr _ _
    cases hb
    exact k.dom _ _ hr
  · rename_i b' rb hr
    cases hb
    exact k.dom _ _ hr

def cntU (listed : Array Bool) (n : Nat) : Nat := (List.range n).countP fun i => !listed.getD i true

theorem countP_drop {p q : Nat → Bool} : ∀ {l : List Nat} {i : Nat}, (∀ x ∈ l, q x = true → p x = true) → i ∈ l → p i = true → q i = false → l.countP q < l.countP p
  | [], _, _, h, _, _ => by cases h
  | y :: r, i, hpq, hi, hp, hq => by
    rw [List.countP_cons, List.countP_cons]
    have hle : r.countP q ≤ r.countP p := List.countP_mono_left fun x hx => hpq x (List.mem_cons_of_mem _ hx)
    rcases List.mem_cons.1 hi with rfl | hi
    · rw [if_pos hp, hq]
      simp
      omega
    · have := countP_drop (fun x hx => hpq x (List.mem_cons_of_mem _ hx)) hi hp hq
      by_cases hy : q y = true
      · rw [if_pos hy, if_pos (hpq y (by simp) hy)]; omega
      · rw [if_neg hy]
        split <;> omega

/-- The static facts, the text's states. -/
structure Txts (P : Program) (priv : List Nat) (ntmps : Nat) (w : Bool) (ops : Array Oper) (C : List (Nat × Entry)) (s : S) (seq : Nat → TS) (D : List Nat) : Prop where
  f : Facts P w priv ops
  st : ∀ i, i < ops.size → Step P priv ntmps w ops C i (seq i) (seq (i + 1))
  w0 : ∀ x, (seq 0).W x = look s.fr.v x
  sz : s.t.size = ntmps
  d : ∀ (i : Nat) o d, ops[i]? = some o → o.dst = some d → d ∈ D

section
variable {s : S} {seq : Nat → TS} {D : List Nat} (T : Txts P priv ntmps w ops C s seq D)
include T

theorem Txts.w1 : ∀ i, i ≤ ops.size → ∀ x, (∀ (j : Nat) o, j < i → ops[j]? = some o → o.dst ≠ some x) → (seq i).W x = look s.fr.v x := by
  intro i
  induction i with
  | zero => intro _ x _; exact T.w0 x
  | succ i ih =>
    intro hi x hx
    obtain ⟨o, ho⟩ : ∃ o, ops[i]? = some o := ⟨_, Array.getElem?_eq_getElem (by omega)⟩
    rw [step_w (T.st i (by omega)) ho x (hx i o (by omega) ho)]
    exact ih (by omega) x fun j o hj => hx j o (by omega)

theorem Txts.w2 {j : Nat} {o : Oper} {d : Nat} (ho : ops[j]? = some o) (hd : o.dst = some d) : ∀ i, j < i → i ≤ ops.size → (seq i).W d = (seq (j + 1)).W d := by
  intro i
  induction i with
  | zero => intro h; omega
  | succ i ih =>
    intro h1 h2
    by_cases e : i = j
    · subst e; rfl
    · obtain ⟨o', ho'⟩ : ∃ o, ops[i]? = some o := ⟨_, Array.getElem?_eq_getElem (by omega)⟩
      rw [step_w (T.st i (by omega)) ho' d (T.f.dis j i o o' d (by omega) ho ho' hd)]
      exact ih (by omega) (by omega)

theorem Txts.const : ∀ a b, a ≤ b → b ≤ ops.size → (∀ (j : Nat) o, a ≤ j → j < b → ops[j]? = some o → (ddOf P w priv o).c < 2) → (seq b).h = (seq a).h ∧ (seq b).p = (seq a).p := by
  intro a b
  induction b with
  | zero => intro h _ _; exact (by omega : a = 0) ▸ ⟨rfl, rfl⟩
  | succ b ih =>
    intro h1 h2 h3
    by_cases e : a = b + 1
    · subst e; exact ⟨rfl, rfl⟩
    · obtain ⟨o, ho⟩ : ∃ o, ops[b]? = some o := ⟨_, Array.getElem?_eq_getElem (by omega)⟩
      obtain ⟨h4, h5⟩ := (step_hp T.f (T.st b (by omega)) ho).1 (h3 b o (by omega) (by omega) ho)
      obtain ⟨h6, h7⟩ := ih (by omega) (by omega) fun j o h8 h9 => h3 j o h8 (by omega)
      exact ⟨h4.trans h6, h5.trans h7⟩

theorem Txts.grows : ∀ a b, a ≤ b → b ≤ ops.size → (∀ (j : Nat) o, a ≤ j → j < b → ops[j]? = some o → (ddOf P w priv o).c < 3) → Grows (seq a).h (seq b).h ∧ (seq b).p = (seq a).p := by
  intro a b
  induction b with
  | zero => intro h _ _; exact (by omega : a = 0) ▸ ⟨Grows.refl _, rfl⟩
  | succ b ih =>
    intro h1 h2 h3
    by_cases e : a = b + 1
    · subst e; exact ⟨Grows.refl _, rfl⟩
    · obtain ⟨o, ho⟩ : ∃ o, ops[b]? = some o := ⟨_, Array.getElem?_eq_getElem (by omega)⟩
      obtain ⟨h4, h5⟩ := (step_hp T.f (T.st b (by omega)) ho).2 (h3 b o (by omega) (by omega) ho)
      obtain ⟨h6, h7⟩ := ih (by omega) (by omega) fun j o h8 h9 => h3 j o h8 (by omega)
      exact ⟨h6.trans h4, h5.trans h7⟩

theorem Txts.notGone {j : Nat} {o : Oper} {d : Nat} (ho : ops[j]? = some o) (hd : o.dst = some d) : (seq (j + 1)).W d ≠ some .gone := by
  have hlt : j < ops.size := (Array.getElem?_eq_some_iff.1 ho).1
  obtain ⟨o', ho', h⟩ := T.st j hlt
  rw [ho] at ho'
  cases ho'
  have hcl := T.f.cls j o ho
  rcases h with ⟨_, h⟩ | ⟨_, y, A, h', hy, _, _, ⟨d', V, hv, hd', e, h⟩ | ⟨_, hn, _⟩⟩ | ⟨_, wt, gs, n, d', b, z, hp, _, _, _, _, h⟩
  · rw [h]
    show putW _ _ _ _ ≠ _
    rw [hd, putW_same]
    simp
  · rw [hd] at hd'
    cases hd'
    rw [h]
    show putW _ _ _ _ ≠ _
    rw [putW_same]
    have hdd := ddOf_comp (w := w) hy
    cases hp : plainOpds (zIns w y).opds with
    | false => rw [hp] at hdd; rw [hdd] at hcl; simp at hcl
    | true =>
      rw [hp] at hdd
      have hc : (ddOf P w priv o).c = (zIns w y).cls := by rw [hdd]; rfl
      have := ng_ins hv (by omega) A _ _ _ e
      simpa using this
  · rw [hd] at hn; cases hn
  · rw [h]
    have := (pickOf_spec hp).1
    rw [hd] at this
    cases this
    show putW _ _ _ _ ≠ _
    rw [putW_same]
    simp

section
variable {listed : Array Bool} {s' : S} (I : Inv P priv w ops s seq D listed s') {i : Nat} {o : Oper} (ho : ops[i]? = some o) (hn : ¬ Lst listed i) (hw : Waits (Lst listed) o)
include I ho hn hw

/-- What is looked at is as it is in the text's order. -/
theorem Txts.looks {m : Nat} (hm : m ∈ (ddOf P w priv o).us) : look s'.fr.v m = (seq i).W m := by
  have hlt : i < ops.size := (Array.getElem?_eq_some_iff.1 ho).1
  have hmm := (mem_iff _ _).2 hm
  by_cases hex : ∃ (j : Nat) (oj : Oper), j < i ∧ ops[j]? = some oj ∧ oj.dst = some m
  · obtain ⟨j, oj, hj, hoj, hd⟩ := hex
    have hL : Lst listed j := T.f.clh j i oj o hj hoj ho (by
      unfold clash
      rw [ddOf_d (T.f.cls j oj hoj), hd]
      simp only [optMem, hmm, Bool.true_or]) (Lst listed) I.dc hw
    rw [(I.slot j oj m hoj hL hd).1, T.w2 hoj hd i hj (by omega)]
  · rw [T.w1 i (by omega) m fun j oj hj hoj hd => hex ⟨j, oj, hj, hoj, hd⟩]
    refine I.other m fun j oj hoj hL hd => ?_
    rcases Nat.lt_trichotomy j i with h | h | h
    · exact hex ⟨j, oj, h, hoj, hd⟩
    · subst h; exact hn hL
    · exact hn (T.f.clh i j o oj h ho hoj (by
        unfold clash
        rw [ddOf_d (T.f.cls j oj hoj), hd]
        simp only [optMem, hmm, Bool.true_or, Bool.or_true]) (Lst listed) I.dc (I.dc j oj hoj hL))

/-- One that changes memory comes when it comes in the text's order. -/
theorem Txts.here (hc : 2 ≤ (ddOf P w priv o).c) : s'.h = (seq i).h ∧ s'.fr.p = (seq i).p ∧ (∀ (j : Nat) oj, ops[j]? = some oj → 2 ≤ (ddOf P w priv oj).c → (Lst listed j ↔ j < i)) ∧ ∀ m', m' ≤ i → ∀ b, (seq m').h.get b ≠ .dead → b < (seq m').h.size := by
  have hlt : i < ops.size := (Array.getElem?_eq_some_iff.1 ho).1
  obtain ⟨m, hm, h1, h2, h3, h4⟩ := I.heap
  have hmi : m ≤ i := by
    rcases Nat.lt_or_ge i m with h | h
    · exact absurd ((h3 i o ho hc).2 h) hn
    · exact h
  have hno : ∀ (j : Nat) oj, m ≤ j → j < i → ops[j]? = some oj → (ddOf P w priv oj).c < 2 := by
    intro j oj hj1 hj2 hoj
    rcases Nat.lt_or_ge (ddOf P w priv oj).c 2 with h | h
    · exact h
    · have hL : Lst listed j := T.f.clh j i oj o hj2 hoj ho (by
        unfold clash
        have e1 : Nat.ble 2 (ddOf P w priv oj).c = true := by simpa using h
        have e2 : Nat.ble 2 (ddOf P w priv o).c = true := by simpa using hc
        simp only [e1, e2, Bool.and_true, Bool.true_or, Bool.or_true]) (Lst listed) I.dc hw
      have := (h3 j oj hoj h).1 hL
      omega
  obtain ⟨h5, h6⟩ := T.const m i hmi (by omega) hno
  refine ⟨h1.trans h5.symm, h2.trans h6.symm, fun j oj hoj hcj => ?_, fun m' hm' b hb => ?_⟩
  · rw [h3 j oj hoj hcj]
    constructor
    · intro h; omega
    · intro h
      rcases Nat.lt_or_ge j m with h' | h'
      · exact h'
      · have := hno j oj h' h hoj; omega
  · rcases Nat.lt_or_ge m m' with h | h
    · have := (T.const m m' (by omega) (by omega) fun j oj h7 h8 => hno j oj h7 (by omega)).1
      rw [this] at hb ⊢
      exact h4 m (Nat.le_refl _) b hb
    · exact h4 m' h b hb

theorem Txts.up {x : Ins} (hx : compOp P priv o = some x) {A : Fr} (tx : Txt ntmps A (seq i)) : Up A s'.fr (zIns w x).opds ∧ (zIns w x).cls = (ddOf P w priv o).c ∧ plainOpds (zIns w x).opds = true := by
  have hdd := ddOf_comp (w := w) hx
  have hcl := T.f.cls i o ho
  cases hp : plainOpds (zIns w x).opds with
  | false => rw [hp] at hdd; rw [hdd] at hcl; simp at hcl
  | true =>
    rw [hp] at hdd
    refine ⟨?_, by rw [hdd]; rfl, rfl⟩
    intro y hy v hv
    cases y with
    | t n =>
      have hv2 : look A.v n = some v := hv
      rcases tx.v n v hv2 with h | h
      · exact .inl h
      · right
        show look s'.fr.v n = some v
        rw [T.looks I ho hn hw (m := n) (by rw [hdd]; exact slotsOf_mem hy)]
        exact h
    | c u => exact .inr hv
    | gl g => cases hv
    | fn f => exact .inr hv

/-- One that only reads finds what it finds in the text's order. -/
theorem Txts.reads (hc : (ddOf P w priv o).c < 2) {x : Ins} (hx : compOp P priv o = some x) {A : Fr} (tx : Txt ntmps A (seq i)) {d : Nat} (hv : (zIns w x).val = some d) {V : FV} {h' : Hp} (e : evIns C (zIns w x) A tp (seq i).h = some (V, h')) :
    evIns C (zIns w x) s'.fr tp s'.h = some (V, s'.h) := by
  have hlt : i < ops.size := (Array.getElem?_eq_some_iff.1 ho).1
  obtain ⟨up, hcls, hpl⟩ := T.up I ho hn hw hx tx
  by_cases h0 : (zIns w x).cls = 0
  · have h1 := (pu_ins hv h0 A _ _ _ e).2 s'.h
    exact val_mono hv (by omega) up (fun c => by omega) h1
  · obtain ⟨m, hm, h1, h2, h3, h4⟩ := I.heap
    have hc1 : (ddOf P w priv o).c = 1 := by omega
    obtain ⟨_, ob, hob, hloc⟩ := rd_ins hv (by omega) A _ _ _ e
    have hin : ∀ b, ob = some b → b < s'.h.size := by
      intro b hb
      obtain ⟨_, y, hy, v, hyv, hbv⟩ := hob b hb
      have hyv2 := up.mv hy hyv
      cases y with
      | t n =>
        unfold Opd.mv at hyv2
        split at hyv2
        · rename_i v' hl
          cases hyv2
          have hl2 : look s'.fr.v n = some (.v v) := hl
          exact blk_lt I.ok.heap (I.ok.slots n _ hl2).2 hbv
        · cases hyv2
      | c u =>
        have : blkOf u = none := plain_mem hpl hy
        have hu : some u = some v := hyv2
        cases hu
        rw [this] at hbv
        cases hbv
      | gl g => cases hyv2
      | fn f => cases hyv2; cases hbv
    have hclash : ∀ (j : Nat) oj, ops[j]? = some oj → (ddOf P w priv oj).c = 3 → (j < i → Lst listed j) ∧ (i < j → Lst listed j → False) := by
      intro j oj hoj hcj
      refine ⟨fun h => T.f.clh j i oj o h hoj ho ?_ (Lst listed) I.dc hw, fun h hL => hn (T.f.clh i j o oj h ho hoj ?_ (Lst listed) I.dc (I.dc j oj hoj hL))⟩
      · unfold clash
        rw [hcj, hc1]
        simp
      · unfold clash
        rw [hcj, hc1]
        simp
    have hfin : (∀ b, ob = some b → s'.h.get b = (seq i).h.get b) ∧ s'.fr.p = (seq i).p := by
      rcases Nat.lt_or_ge i m with hmi | hmi
      · obtain ⟨g1, g2⟩ := T.grows i m (by omega) hm (by
          intro j oj hj1 hj2 hoj
          have hcj := T.f.cls j oj hoj
          rcases Nat.lt_or_ge (ddOf P w priv oj).c 3 with h | h
          · exact h
          · have h5 : (ddOf P w priv oj).c = 3 := by omega
            have hL := (h3 j oj hoj (by omega)).2 hj2
            rcases Nat.lt_or_ge i j with h6 | h6
            · exact ((hclash j oj hoj h5).2 h6 hL).elim
            · obtain rfl : j = i := by omega
              exact absurd hL hn)
        refine ⟨fun b hb => ?_, h2.trans g2⟩
        rw [h1]
        exact g1.2 b (h4 i (by omega) b (hob b hb).1)
      · obtain ⟨g1, g2⟩ := T.grows m i hmi (by omega) (by
          intro j oj hj1 hj2 hoj
          have hcj := T.f.cls j oj hoj
          rcases Nat.lt_or_ge (ddOf P w priv oj).c 3 with h | h
          · exact h
          · have h5 : (ddOf P w priv oj).c = 3 := by omega
            have hL := (hclash j oj hoj h5).1 hj2
            have := (h3 j oj hoj (by omega)).1 hL
            omega)
        refine ⟨fun b hb => ?_, h2.trans g2.symm⟩
        have := hin b hb
        rw [h1] at this ⊢
        exact (g1.2 b this).symm
    have e2 := hloc s'.h hfin.1
    exact val_mono hv (by omega) up (fun _ => by rw [hfin.2]; exact tx.p) e2

/-- What was not listed is listed. -/
theorem Txts.lists {s2 : S} (ok2 : Ok s2) {ds : List Nat} (st2 : Stp s' s2 ds) (hds : ∀ x ∈ ds, x ∈ D) (own : ∀ d, o.dst = some d → look s2.fr.v d = (seq (i + 1)).W d ∧ ((seq (i + 1)).W d = none → s2.t.getD d undef = undef))
    (oth : ∀ x, o.dst ≠ some x → look s2.fr.v x = look s'.fr.v x ∧ s2.t.getD x undef = s'.t.getD x undef)
    (hp : (2 ≤ (ddOf P w priv o).c → s2.h = (seq (i + 1)).h ∧ s2.fr.p = (seq (i + 1)).p) ∧ ((ddOf P w priv o).c < 2 → s2.h = s'.h ∧ s2.fr.p = s'.fr.p)) : Inv P priv w ops s seq D (listed.setIfInBounds i true) s2 := by
  have hlt : i < ops.size := (Array.getElem?_eq_some_iff.1 ho).1
  have hls : i < listed.size := by rw [I.lsz]; exact hlt
  have mono : ∀ o' : Oper, Waits (Lst listed) o' → Waits (Lst (listed.setIfInBounds i true)) o' := fun o' h e he hb => (lst_set hls).2 (.inr (h e he hb))
  refine ⟨ok2, (I.stp.trans st2).mono (fun x hx => (List.mem_append.1 hx).elim id (hds x)), by simpa using I.lsz, ?_, ?_, ?_, ?_⟩
  · intro j oj hoj hL
    rcases (lst_set hls).1 hL with rfl | hL
    · rw [ho] at hoj; cases hoj; exact mono _ hw
    · exact mono _ (I.dc j oj hoj hL)
  · intro j oj d hoj hL hd
    by_cases e : j = i
    · subst e
      rw [ho] at hoj; cases hoj
      exact own d hd
    · have hL := ((lst_set hls).1 hL).resolve_left e
      have hne : o.dst ≠ some d := by
        rcases Nat.lt_or_ge j i with h | h
        · exact T.f.dis j i oj o d h hoj ho hd
        · intro c; exact T.f.dis i j o oj d (by omega) ho hoj c hd
      rw [(oth d hne).1, (oth d hne).2]
      exact I.slot j oj d hoj hL hd
  · intro x hx
    have hne : o.dst ≠ some x := hx i o ho ((lst_set hls).2 (.inl rfl))
    rw [(oth x hne).1]
    exact I.other x fun j oj hoj hL => hx j oj hoj ((lst_set hls).2 (.inr hL))
  · rcases Nat.lt_or_ge (ddOf P w priv o).c 2 with hc | hc
    · obtain ⟨m, hm, h1, h2, h3, h4⟩ := I.heap
      obtain ⟨h5, h6⟩ := hp.2 hc
      refine ⟨m, hm, h5.trans h1, h6.trans h2, fun j oj hoj hcj => ?_, h4⟩
      rw [lst_set hls]
      constructor
      · rintro (rfl | h)
        · rw [ho] at hoj; cases hoj; omega
        · exact (h3 j oj hoj hcj).1 h
      · intro h; exact .inr ((h3 j oj hoj hcj).2 h)
    · obtain ⟨h1, h2, h3, h4⟩ := T.here I ho hn hw hc
      obtain ⟨h5, h6⟩ := hp.1 hc
      refine ⟨i + 1, by omega, h5, h6, fun j oj hoj hcj => ?_, fun m' hm' b hb => ?_⟩
      · rw [lst_set hls, h3 j oj hoj hcj]
        omega
      · by_cases e : m' = i + 1
        · subst e
          rw [← h5] at hb ⊢
          obtain ⟨rb, hr⟩ := ok2.heap.live b hb
          exact ok2.heap.dom _ _ hr
        · exact h4 m' (by omega) b hb

end

section
variable {listed : Array Bool} {s' : S} (I : Inv P priv w ops s seq D listed s') {i : Nat} {o : Oper} (ho : ops[i]? = some o) (hw : Waits (Lst listed) o)
include I ho hw

/-- Is it wanted? -/
theorem Txts.wants : Wanted ops o (seq i).W ↔ Region.wanted o (yielded ops s'.t) = true := by
  have hlt : i < ops.size := (Array.getElem?_eq_some_iff.1 ho).1
  unfold Wanted Region.wanted
  cases hg : o.guard with
  | none => simp
  | some jw =>
    obtain ⟨j, wt⟩ := jw
    obtain ⟨hj, hL⟩ := T.f.grd i o j wt ho hg
    have hL := hL (Lst listed) I.dc hw
    obtain ⟨oj, hoj⟩ : ∃ oj, ops[j]? = some oj := ⟨_, Array.getElem?_eq_getElem (by omega)⟩
    have key : (∃ gs, oj.dst = some gs ∧ (seq i).W gs = some (.v (.bool wt))) ↔ yielded ops s'.t j = some wt := by
      unfold yielded
      rw [hoj]
      simp only [Option.bind_some]
      cases hd : oj.dst with
      | none => simp
      | some gs =>
        obtain ⟨h1, h2⟩ := I.slot j oj gs hoj hL hd
        have hng := T.notGone hoj hd
        have e0 := T.w2 hoj hd i hj (by omega)
        simp only [Option.bind_some, Option.some.injEq, exists_eq_left', e0]
        cases hV : (seq (j + 1)).W gs with
        | none =>
          have h3 := h2 hV
          constructor
          · intro c; cases c
          · intro c
            by_cases hlt' : gs < s'.t.size
            · rw [getD_of hlt', h3] at c
              simp [undef] at c
            · have h8 : s'.t[gs]? = none := Array.getElem?_eq_none (Nat.le_of_not_lt hlt')
              rw [h8] at c
              cases c
        | some V =>
          rw [hV] at h1
          obtain ⟨h5, h6⟩ := I.ok.slots gs V h1
          rw [getD_of h5]
          cases V with
          | gone => exact absurd hV hng
          | loc a b =>
            have h7 : s'.t.getD gs undef = _ := h6
            rw [h7]
            simp
          | v mv =>
            have h7 : VRel s'.ρ mv (s'.t.getD gs undef) := h6
            generalize s'.t.getD gs undef = z at h7
            constructor
            · intro c
              simp at c
              subst c
              cases h7
              rfl
            · intro c
              have hz : z = .bool wt := by
                split at c
                · rename_i b hb
                  cases hb
                  cases c
                  rfl
                · cases c
              subst hz
              cases h7
              rfl
    constructor
    · rintro ⟨oj', gs, h1, h2, h3⟩
      rw [hoj] at h1
      cases h1
      have := key.1 ⟨gs, h2, h3⟩
      simp only [this, beq_self_eq_true]
    · intro h
      have h2 : yielded ops s'.t j = some wt := by simpa using h
      obtain ⟨gs, h3, h4⟩ := key.2 h2
      exact ⟨oj, gs, hoj, h3, h4⟩

end

section
variable {listed : Array Bool} {s' : S} (I : Inv P priv w ops s seq D listed s') {i : Nat} {o : Oper} (ho : ops[i]? = some o) (hn : ¬ Lst listed i) (hw : Waits (Lst listed) o)
include I ho hn hw

/-- One operation that comes up. -/
theorem Txts.one (hC : ∀ f en, look C f = some en → Sound P f en) : wpOp P ops Q i (fun a' w' => ∃ s2 : S, a' = ⟨s2.t, []⟩ ∧ w' = s2.w ∧ Inv P priv w ops s seq D (listed.setIfInBounds i true) s2) ⟨s'.t, []⟩ s'.w := by
  have hlt : i < ops.size := (Array.getElem?_eq_some_iff.1 ho).1
  have hwn := T.wants I ho hw
  have hsz : s'.t.size = ntmps := I.stp.tsz.trans T.sz
  obtain ⟨o', ho', hs⟩ := T.st i hlt
  rw [ho] at ho'
  cases ho'
  unfold wpOp
  rw [ho]
  dsimp only
  rcases hs with ⟨hnw, hS⟩ | ⟨hwt, x, A, h', hx, hio, tx, hs⟩ | ⟨hwt, wt, gs, n, d, b, z, hp, hdn, hg, hb1, hb2, hS⟩
  · -- not wanted
    rw [if_neg (fun c => hnw (hwn.2 c))]
    obtain ⟨t', h1, h2, h3, _⟩ := put_undef (ops := ops) s'.t o.dst
    have hund : ∀ d, o.dst = some d → t'.getD d undef = undef := by
      intro d hd
      rw [hd] at h1
      have h4 : s'.t.setIfInBounds d undef = t' := by
        have : (Act.put ⟨s'.t, []⟩ (some d) undef).tmps = t' := by rw [h1]
        exact this
      rw [← h4, Array.getD_eq_getD_getElem?, Array.getElem?_setIfInBounds_self]
      split <;> rfl
    let fv := s'.fr.v.filter fun y => match o.dst with
      | some d => !(y.1 == d)
      | none => true
    have hlk : ∀ x, look fv x = if o.dst = some x then none else look s'.fr.v x := by
      intro x
      show look (List.filter _ s'.fr.v) x = _
      generalize s'.fr.v = l
      induction l with
      | nil => simp [look]
      | cons y r ih =>
        obtain ⟨m, v⟩ := y
        simp only [List.filter_cons]
        cases hd : o.dst with
        | none =>
          rw [hd] at ih
          simp only [if_true, look_cons]
          rw [ih]
          simp
        | some d =>
          rw [hd] at ih
          by_cases hm : m = d
          · subst hm
            simp only [beq_self_eq_true, Bool.not_true, Bool.false_eq_true, if_false, look_cons]
            rw [ih]
            by_cases hmx : m = x
            · subst hmx; simp
            · rw [if_neg hmx]
          · have : (m == d) = false := by simpa using hm
            simp only [this, Bool.not_false, if_true, look_cons]
            rw [ih]
            by_cases hmx : m = x
            · subst hmx
              rw [if_pos rfl, if_neg (fun c => hm (by cases c; rfl))]
              simp
            · rw [if_neg hmx, if_neg hmx]
    let s2 : S := { s' with fr := ⟨fv, s'.fr.p⟩, t := t' }
    have ok2 : Ok s2 := by
      refine ⟨I.ok.heap, fun y v hv => ?_, I.ok.priv, I.ok.pinj⟩
      have hv2 : look fv y = some v := hv
      rw [hlk] at hv2
      split at hv2
      · cases hv2
      · rename_i hy
        obtain ⟨h4, h5⟩ := I.ok.slots y v hv2
        refine ⟨by show y < t'.size; rw [h2.1]; exact h4, ?_⟩
        show FRel s'.ρ s'.π v (t'.getD y undef)
        rw [h3 y hy]
        exact h5
    have st2 : Stp s' s2 o.dst.toList :=
      ⟨Ext.refl _, rfl, rfl, rfl, Nat.le_refl _, fun _ _ _ _ => rfl, fun _ h => .inl h, fun _ h => .inl h, fun _ h => .inl h, fun _ _ => rfl, fun _ => .inl rfl, h2.1, fun y hy => h3 y (fun c => hy (by rw [c]; simp))⟩
    refine ⟨s2, by rw [h1], rfl, T.lists I ho hn hw ok2 st2 ?_ ?_ ?_ ?_⟩
    · intro y hy
      refine T.d i o y ho ?_
      cases hd : o.dst with
      | none => rw [hd] at hy; cases hy
      | some d => rw [hd] at hy; simp at hy; rw [hy]
    · intro d hd
      refine ⟨?_, fun _ => hund d hd⟩
      show look fv d = _
      rw [hlk, if_pos hd, hS]
      show none = putW _ _ _ _
      rw [hd, putW_same]
    · intro y hy
      refine ⟨?_, h3 y hy⟩
      show look fv y = _
      rw [hlk, if_neg hy]
    · refine ⟨fun hc => ?_, fun _ => ⟨rfl, rfl⟩⟩
      obtain ⟨h4, h5, _⟩ := T.here I ho hn hw hc
      rw [hS]
      exact ⟨h4, h5⟩
  · -- an operation
    rw [if_pos (hwn.1 hwt)]
    refine .inl ?_
    obtain ⟨up, hcls, hpl⟩ := T.up I ho hn hw hx tx
    rcases hs with ⟨d, V, hv, hd, e, hS⟩ | ⟨hnd, hd, A', u, e, hA, hS⟩
    · have hxd : x.dst = [d] := by
        rcases zIns_val (w := w) (x := x) (by have := T.f.cls i o ho; omega) with ⟨h1, _⟩ | ⟨d', h1, h2⟩
        · exfalso
          revert hv h1
          generalize zIns w x = y
          cases y <;> intro hv h1 <;> first | (cases h1; done) | (cases hv; done)
        · rw [hv] at h1; cases h1; exact h2
      have hrun : ∃ h2, evIns C (zIns w x) s'.fr tp s'.h = some (V, h2) ∧ (2 ≤ (ddOf P w priv o).c → h2 = (seq (i + 1)).h ∧ s'.fr.p = (seq (i + 1)).p) ∧ ((ddOf P w priv o).c < 2 → h2 = s'.h) := by
        rcases Nat.lt_or_ge (ddOf P w priv o).c 2 with hc | hc
        · exact ⟨s'.h, T.reads I ho hn hw hc hx tx hv e, fun h => by omega, fun _ => rfl⟩
        · obtain ⟨h4, h5, _⟩ := T.here I ho hn hw hc
          refine ⟨h', ?_, fun _ => ⟨by rw [hS], by rw [hS]; exact h5⟩, fun h => by omega⟩
          rw [h4]
          exact val_mono hv (by have := T.f.cls i o ho; omega) up (fun _ => by rw [h5]; exact tx.p) e
      obtain ⟨h2, e2, hh1, hh2⟩ := hrun
      have e3 : evIns C x s'.fr ret s'.h = some (s'.fr.setF d V, h2) := by
        refine unz (w := w) ?_
        rw [evIns_val hv]
        simp only [bd, e2]
        rfl
      refine ins_sound hC I.ok hx (by rw [hsz]; exact hio) e3 ?_
      intro s2 ok2 st2 e4
      have h5 : some (s2.fr, s2.h) = some (s'.fr.setF d V, h2) := e4
      have hfr : s2.fr = s'.fr.setF d V := (Prod.mk.inj (Option.some.inj h5)).1
      have hhh : s2.h = h2 := (Prod.mk.inj (Option.some.inj h5)).2
      rw [hxd] at st2
      have hlk : ∀ y, look s2.fr.v y = if d = y then some V else look s'.fr.v y := by
        intro y
        rw [hfr]
        exact look_cons d V s'.fr.v y
      refine ⟨s2, rfl, rfl, T.lists I ho hn hw ok2 st2 ?_ ?_ ?_ ?_⟩
      · intro y hy
        simp at hy
        subst hy
        exact T.d i o y ho hd
      · intro d' hd'
        rw [hd] at hd'
        cases hd'
        have h6 : (seq (i + 1)).W d = some V := by
          rw [hS]
          exact putW_same _ _ _
        refine ⟨by rw [hlk, if_pos rfl, h6], fun c => by rw [h6] at c; cases c⟩
      · intro y hy
        have hne : d ≠ y := fun c => hy (by rw [hd, c])
        exact ⟨by rw [hlk, if_neg hne], st2.tmp y (by simpa using fun c => hne c.symm)⟩
      · rw [hfr]
        refine ⟨fun hc => ⟨hhh.trans (hh1 hc).1, (hh1 hc).2⟩, fun hc => ⟨hhh.trans (hh2 hc), rfl⟩⟩
    · have hxd : x.dst = [] := comp_dst hx hd
      have hc3 : (ddOf P w priv o).c = 3 := by
        rw [← hcls]
        generalize zIns w x = y at hnd
        cases y <;> first | rfl | cases hnd
      obtain ⟨h4, h5, _⟩ := T.here I ho hn hw (by omega)
      rw [← h4] at e
      obtain ⟨u', hA', e2, _⟩ := store_trans hnd up (by rw [h5]; exact tx.p) e
      have huu : upsP s'.fr.p u' = upsP (seq i).p u := by
        rw [h5]
        rw [hA] at hA'
        have h6 : upsP A.p u = upsP A.p u' := congrArg Fr.p hA'
        cases u with
        | none =>
          cases u' with
          | none => rfl
          | some y =>
            obtain ⟨n', pv'⟩ := y
            have h7 := congrArg List.length h6
            simp [upsP] at h7
        | some y =>
          obtain ⟨n, pv⟩ := y
          cases u' with
          | none =>
            have h7 := congrArg List.length h6
            simp [upsP] at h7
          | some y' =>
            obtain ⟨n', pv'⟩ := y'
            simp only [upsP, List.cons.injEq, Prod.mk.injEq, and_true] at h6
            rw [h6.1, h6.2]
      have e3 := unz e2
      refine ins_sound hC I.ok hx (by rw [hsz]; exact hio) e3 ?_
      intro s2 ok2 st2 e4
      have h6 : some (s2.fr, s2.h) = some (s'.fr.ups u', h') := e4
      have hfr : s2.fr = s'.fr.ups u' := (Prod.mk.inj (Option.some.inj h6)).1
      have hhh : s2.h = h' := (Prod.mk.inj (Option.some.inj h6)).2
      rw [hxd] at st2
      refine ⟨s2, rfl, rfl, T.lists I ho hn hw ok2 st2 (by intro y hy; cases hy) (by intro d' hd'; rw [hd] at hd'; cases hd') ?_ ?_⟩
      · intro y hy
        exact ⟨by rw [hfr]; rfl, st2.tmp y (by simp)⟩
      · refine ⟨fun _ => ?_, fun h => by omega⟩
        rw [hS]
        refine ⟨hhh, ?_⟩
        rw [hfr]
        exact huu
  · -- a pick
    rw [if_pos (hwn.1 hwt)]
    refine .inl ?_
    obtain ⟨hdst, hop⟩ := pickOf_spec hp
    have hdd := ddOf_pick (P := P) (w := w) (priv := priv) hp
    have hlg : look s'.fr.v gs = some (.v (.bool b)) := by
      rw [T.looks I ho hn hw (m := gs) (by rw [hdd]; simp)]; exact hg
    have slotv : ∀ {m : Nat} {c : Bool}, look s'.fr.v m = some (.v (.bool c)) → s'.t[m]? = some (.bool c) := by
      intro m c h
      obtain ⟨h1, h2⟩ := I.ok.slots m _ h
      rw [getD_of h1]
      have h3 : VRel s'.ρ (.bool c) (s'.t.getD m undef) := h2
      generalize s'.t.getD m undef = q at h3
      cases h3
      rfl
    have hgt := slotv hlg
    have hval : ∀ {m : Nat} {c : Bool}, look s'.fr.v m = some (.v (.bool c)) → Act.eval ⟨s'.t, []⟩ (.tmp m) = .bool c := by
      intro m c h
      have := slotv h
      simp [Act.eval, Array.getD_eq_getD_getElem?, this]
    have fin : (∃ s2 : S, (⟨s'.t.setIfInBounds d (.bool z), []⟩ : Act) = ⟨s2.t, []⟩ ∧ s'.w = s2.w ∧ Inv P priv w ops s seq D (listed.setIfInBounds i true) s2) := by
      obtain ⟨ok2, st2⟩ := I.ok.set (d := d) (by rw [hsz]; exact hdn) (VRel.bool (ρ := s'.ρ) z)
      have hlk : ∀ y, look (s'.fr.set d (.bool z)).v y = if d = y then some (.v (.bool z)) else look s'.fr.v y := fun y => look_cons d _ s'.fr.v y
      refine ⟨{ s' with fr := s'.fr.set d (.bool z), t := s'.t.setIfInBounds d (.bool z) }, rfl, rfl, T.lists I ho hn hw ok2 st2 ?_ ?_ ?_ ?_⟩
      · intro y hy
        simp at hy
        subst hy
        exact T.d i o y ho hdst
      · intro d' hd'
        rw [hdst] at hd'
        cases hd'
        have h6 : (seq (i + 1)).W d = some (.v (.bool z)) := by
          rw [hS]
          exact putW_same _ _ _
        refine ⟨?_, fun c => by rw [h6] at c; cases c⟩
        show look (s'.fr.set d (.bool z)).v d = _
        rw [hlk, if_pos rfl, h6]
      · intro y hy
        have hne : d ≠ y := fun c => hy (by rw [hdst, c])
        refine ⟨?_, st2.tmp y (by simpa using fun c => hne c.symm)⟩
        show look (s'.fr.set d (.bool z)).v y = _
        rw [hlk, if_neg hne]
      · rw [hdd]
        refine ⟨fun h => ?_, fun _ => ⟨rfl, rfl⟩⟩
        have h2 : 2 ≤ 0 := h
        omega
    rcases hop with ⟨hwt', hop⟩ | ⟨hwt', hop⟩
    · subst hwt'
      refine pick_run hop hdst hgt ?_
      cases b with
      | true =>
        rw [if_pos rfl, hval (c := z) (by rw [T.looks I ho hn hw (m := n) (by rw [hdd]; simp)]; exact hb1 rfl)]
        exact fin
      | false =>
        obtain rfl := hb2 (by simp)
        rw [if_neg (by simp)]
        exact fin
    · subst hwt'
      refine pick_run hop hdst hgt ?_
      cases b with
      | false =>
        rw [if_neg (by simp), hval (c := z) (by rw [T.looks I ho hn hw (m := n) (by rw [hdd]; simp)]; exact hb1 rfl)]
        exact fin
      | true =>
        obtain rfl := hb2 (by simp)
        rw [if_pos rfl]
        exact fin

end

/-- Whichever order comes. -/
theorem Txts.any (hC : ∀ f en, look C f = some en → Sound P f en)
    (hfin : ∀ s2, Ok s2 → Stp s s2 D → s2.h = (seq ops.size).h → s2.fr.p = (seq ops.size).p → (∀ x, look s2.fr.v x = (seq ops.size).W x) → Q .normal ⟨s2.t, []⟩ s2.w) :
    ∀ (fuel : Nat) (listed : Array Bool) (s' : S), Inv P priv w ops s seq D listed s' → cntU listed ops.size ≤ fuel → wpAny P .any ops Q fuel listed ⟨s'.t, []⟩ s'.w := by
  have finish : ∀ (listed : Array Bool) (s' : S), Inv P priv w ops s seq D listed s' → (∀ i, i < ops.size → Lst listed i) → Q .normal ⟨s'.t, []⟩ s'.w := by
    intro listed s' I hall
    refine hfin s' I.ok I.stp ?_ ?_ ?_
    · obtain ⟨m, hm, h1, h2, h3, _⟩ := I.heap
      rw [h1]
      refine (T.const m ops.size hm (Nat.le_refl _) fun j o hj hj2 ho => ?_).1.symm
      rcases Nat.lt_or_ge (ddOf P w priv o).c 2 with h | h
      · exact h
      · have := (h3 j o ho h).1 (hall j hj2); omega
    · obtain ⟨m, hm, h1, h2, h3, _⟩ := I.heap
      rw [h2]
      refine (T.const m ops.size hm (Nat.le_refl _) fun j o hj hj2 ho => ?_).2.symm
      rcases Nat.lt_or_ge (ddOf P w priv o).c 2 with h | h
      · exact h
      · have := (h3 j o ho h).1 (hall j hj2); omega
    · intro x
      by_cases hex : ∃ (j : Nat) (oj : Oper), ops[j]? = some oj ∧ oj.dst = some x
      · obtain ⟨j, oj, hoj, hd⟩ := hex
        have hlt : j < ops.size := (Array.getElem?_eq_some_iff.1 hoj).1
        rw [(I.slot j oj x hoj (hall j hlt) hd).1, T.w2 hoj hd ops.size hlt (Nat.le_refl _)]
      · rw [I.other x fun j oj hoj _ hd => hex ⟨j, oj, hoj, hd⟩, T.w1 ops.size (Nat.le_refl _) x fun j oj _ hoj hd => hex ⟨j, oj, hoj, hd⟩]
  have none_ready : ∀ (listed : Array Bool) (s' : S), Inv P priv w ops s seq D listed s' → Region.ready .any ops listed = [] → ∀ i, i < ops.size → Lst listed i := by
    intro listed s' I hr i
    induction i using Nat.strongRecOn with
    | ind i ih =>
      intro hi
      by_cases hL : Lst listed i
      · exact hL
      · obtain ⟨o, ho⟩ : ∃ o, ops[i]? = some o := ⟨_, Array.getElem?_eq_getElem hi⟩
        have hmem : i ∈ Region.ready .any ops listed := by
          rw [mem_ready]
          refine ⟨?_, o, ho, fun e he hb => ?_⟩
          · have hls : i < listed.size := by rw [I.lsz]; exact hi
            unfold Lst at hL
            simp [hls] at hL ⊢
            exact hL
          · have := T.f.aft i o ho e (by simpa using he) hb
            exact ih e.on this (by have h2 : e.on < i := this; omega)
        rw [hr] at hmem
        cases hmem
  intro fuel
  induction fuel with
  | zero =>
    intro listed s' I hc
    have hall : ∀ i, i < ops.size → Lst listed i := by
      intro i hi
      have h0 : cntU listed ops.size = 0 := by omega
      unfold cntU at h0
      have h1 := List.countP_eq_zero.1 h0 i (by simpa using hi)
      have hls : i < listed.size := by rw [I.lsz]; exact hi
      unfold Lst
      simp [hls] at h1 ⊢
      exact h1
    refine ⟨?_, finish listed s' I hall⟩
    apply List.eq_nil_iff_forall_not_mem.2
    intro i hi
    rw [mem_ready] at hi
    obtain ⟨h0, o, ho, _⟩ := hi
    exact (not_lst h0).1 (hall i (Array.getElem?_eq_some_iff.1 ho).1)
  | succ fuel ih =>
    intro listed s' I hc
    refine ⟨fun hr => finish listed s' I (none_ready listed s' I hr), fun i hi => ?_⟩
    rw [mem_ready] at hi
    obtain ⟨h0, o, ho, hw⟩ := hi
    obtain ⟨hn, hls⟩ := not_lst h0
    have hlt : i < ops.size := (Array.getElem?_eq_some_iff.1 ho).1
    refine wpOp_mono ?_ (T.one I ho hn (fun e he hb => hw e (by simpa using he) hb) hC)
    rintro a' w' ⟨s2, rfl, rfl, I2⟩
    refine ih _ s2 I2 ?_
    have : cntU (listed.setIfInBounds i true) ops.size < cntU listed ops.size := by
      unfold cntU
      refine countP_drop (i := i) (fun x _ hx => ?_) (by simpa using hlt) (by rw [h0]; rfl) ?_
      · by_cases e : i = x
        · subst e; simp [hls] at hx
        · rwa [getD_set_ne true e] at hx
      · simp [hls]
    omega

end

/-- A region whose order is drawn comes to what its text's order comes to. -/
theorem draw_sound {β : Type} (hC : ∀ f en, look C f = some en → Sound P f en) {f : Nat} {l : List Item} (hi : items P ntmps priv pu ops f (List.range ops.size) none [] = some (l, [])) (hd : drawOk P w priv ops l = true)
    (k : Fr → M β) (s : S) (res : β × Hp) (ok : Ok s) (hsz : s.t.size = ntmps) (e : evItems C (zItems w l) s.fr k s.h = some res)
    (hk : ∀ s', Ok s' → Stp s s' (itemsDsts l) → k s'.fr s'.h = some res → Q .normal ⟨s'.t, []⟩ s'.w) (id : Nat) : (Code.region id ops true).wp P Q ⟨s.t, []⟩ s.w := by
  obtain ⟨F, hm, hD⟩ := facts_of hd
  have hcl : ∀ (i : Nat) o x, ops[i]? = some o → compOp P priv o = some x → (zIns w x).cls < 4 := by
    intro i o x ho hx
    have hcl := F.cls i o ho
    have hdd := ddOf_comp (w := w) hx
    cases hp : plainOpds (zIns w x).opds with
    | false => rw [hp] at hdd; rw [hdd] at hcl; simp at hcl
    | true => rw [hp] at hdd; rw [hdd] at hcl; exact hcl
  rw [List.range_eq_range', show ops.size = ops.size - 0 from rfl] at hi
  have tx0 : Txt ntmps s.fr ⟨fun n => look s.fr.v n, s.h, s.fr.p⟩ := ⟨fun n v hv => by rw [← hsz]; exact (ok.slots n v hv).1, fun n v hv => .inr hv, Psub.refl _⟩
  obtain ⟨b, S', fr', hrest, run, tx, e2, _, _⟩ := ext_items hcl f 0 none [] l [] hi k s.fr ⟨fun n => look s.fr.v n, s.h, s.fr.p⟩ res tx0 trivial e
  obtain ⟨seq, h0, hb, _, hst⟩ := run_seq run
  have hbn : ops.size ≤ b := by
    have := congrArg List.length hrest
    simp at this
    omega
  have hbn2 : b = ops.size := by
    rcases Nat.lt_or_ge ops.size b with h | h
    · obtain ⟨o, ho, _⟩ := hst ops.size (by omega) h
      have := (Array.getElem?_eq_some_iff.1 ho).1
      omega
    · omega
  subst hbn2
  -- behind the draw
  let s0 : S := { s with w := { s.w with drawn := s.w.drawn + 1 } }
  have ok0 : Ok s0 := ⟨ok.heap, ok.slots, ok.priv, ok.pinj⟩
  have st0 : Stp s s0 [] := ⟨Ext.refl _, rfl, rfl, rfl, Nat.le_refl _, fun _ _ _ _ => rfl, fun _ h => .inl h, fun _ h => .inl h, fun _ h => .inl h, fun _ _ => rfl, fun _ => .inl rfl, rfl, fun _ _ => rfl⟩
  have T : Txts P priv ntmps w ops C s0 seq (itemsDsts l) := ⟨F, fun i hi => hst i (by omega) hi, fun x => by rw [h0], hsz, hD⟩
  refine wp_region_any hm ?_
  refine T.any hC ?_ ops.size _ s0 ?_ ?_
  · intro s2 ok2 st2 hh hp hv
    rw [hb] at hh hp hv
    let s3 : S := { s2 with fr := fr' }
    have ok3 : Ok s3 := by
      refine ⟨ok2.heap, fun n v hn => ?_, fun n pv c hn => ?_, fun n m x y hx hy hne => ?_⟩
      · have hlt : n < s2.t.size := by
          rw [st2.tsz]
          show n < s.t.size
          rw [hsz]
          exact tx.b n v hn
        refine ⟨hlt, ?_⟩
        rcases tx.v n v hn with rfl | h
        · trivial
        · rw [← hv n] at h
          exact (ok2.slots n v h).2
      · obtain ⟨b', h1, _⟩ := tx.p n pv c hn
        rw [← hp] at h1
        exact ok2.priv n pv b' h1
      · obtain ⟨b1, h1, _⟩ := tx.p n x.1 x.2 hx
        obtain ⟨b2, h2, _⟩ := tx.p m y.1 y.2 hy
        rw [← hp] at h1 h2
        exact ok2.pinj n m _ _ h1 h2 hne
    have st3 : Stp s2 s3 [] := by
      refine ⟨Ext.refl _, rfl, rfl, rfl, Nat.le_refl _, fun _ _ _ _ => rfl, fun _ h => .inl h, fun _ h => .inl h, ?_, fun _ _ => rfl, fun _ => .inl rfl, rfl, fun _ _ => rfl⟩
      rintro r ⟨n, pv, hn, rfl⟩
      obtain ⟨b', h1, h2⟩ := tx.p n pv true hn
      rw [← hp, h2 rfl] at h1
      exact .inl ⟨n, pv, h1, rfl⟩
    have := hk s3 ok3 (((st0.trans st2).trans st3).mono (by simp)) (by show k fr' s2.h = _; rw [hh]; exact e2)
    exact this
  · have hno : ∀ i, ¬ Lst (Array.replicate ops.size false) i := by
      intro i
      unfold Lst
      by_cases h : i < ops.size
      · simp [h]
      · simp [h]
    refine ⟨ok0, Stp.refl _ _, by simp, fun i o _ h => absurd h (hno i), fun i o _ _ h => absurd h (hno i), fun _ _ => rfl, 0, Nat.zero_le _, by rw [h0], by rw [h0], fun j o _ _ => ⟨fun h => absurd h (hno j), fun h => by omega⟩, ?_⟩
    intro m' hm' b hb'
    obtain rfl : m' = 0 := by omega
    rw [h0] at hb' ⊢
    obtain ⟨rb, hr⟩ := ok.heap.live b hb'
    exact ok.heap.dom _ _ hr
  · unfold cntU
    exact Nat.le_trans List.countP_le_length (by simp)

end
end Go.Mini
