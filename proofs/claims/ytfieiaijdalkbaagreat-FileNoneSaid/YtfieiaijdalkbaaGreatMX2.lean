/- Regions whose order is drawn (2): what an operation reads, and what it leaves. -/
import Derived.Test.YtfieiaijdalkbaaGreatMX
namespace Go.Mini
universe u
section
variable {α β γ : Type}
def Pu (m : M α) : Prop := ∀ h a h', m h = some (a, h') → h' = h ∧ ∀ h2, m h2 = some (a, h2)
def Rd (T : Nat → Prop) (m : M α) : Prop := ∀ h a h', m h = some (a, h') → h' = h ∧ ∃ ob : Option Nat, (∀ b, ob = some b → h.get b ≠ .dead ∧ T b) ∧ ∀ h2, (∀ b, ob = some b → h2.get b = h.get b) → m h2 = some (a, h2)
def Gr (m : M α) : Prop := ∀ h a h', m h = some (a, h') → Grows h h'
theorem Pu.rd {T : Nat → Prop} {m : M α} (k : Pu m) : Rd T m := fun h a h' e => by
 obtain ⟨h1, h2⟩ := k h a h' e
 exact ⟨h1, none, (by intro b hb; cases hb), fun h2' _ => h2 h2'⟩
theorem pu_ret (a : α) : Pu (ret a) := fun h x h' e => by cases e; exact ⟨rfl, fun _ => rfl⟩
theorem pu_fail : Pu (fail : M α) := fun h x h' e => by cases e
theorem pu_bd {m : M α} {f : α → M β} (k : Pu m) (kf : ∀ a, Pu (f a)) : Pu (bd m f) := fun h x h' e => by
 obtain ⟨a, h1, e1, e2⟩ := bd_some e
 obtain ⟨rfl, k1⟩ := k _ _ _ e1
 obtain ⟨rfl, k2⟩ := kf a _ _ _ e2
 exact ⟨rfl, fun h2 => by simp only [bd, k1 h2]; exact k2 h2⟩
theorem pu_ite {c : Prop} [Decidable c] {m n : M α} (k : Pu m) (l : Pu n) : Pu (if c then m else n) := by
 split
 ·exact k
 ·exact l
theorem pu_okOf {ε : Type u} {x : Option ε} {f : ε → M β} (k : ∀ v, Pu (f v)) : Pu (okOf x f) := by
 cases x with
 | none => exact pu_fail
 | some v => exact k v
theorem pu_someOr (o : Option α) : Pu (someOr o) := by
 cases o with
 | none => exact fun h x h' e => by cases e
 | some a => exact fun h x h' e => by cases e; exact ⟨rfl, fun _ => rfl⟩
theorem pu_wInt {x : Option MV} {f : IntKind → Int → M β} (k : ∀ a b, Pu (f a b)) : Pu (wInt x f) := by
 unfold wInt; split
 ·exact k _ _
 ·exact pu_fail
theorem pu_wStr {x : Option MV} {f : List UInt8 → M β} (k : ∀ a, Pu (f a)) : Pu (wStr x f) := by
 unfold wStr; split
 ·exact k _
 ·exact pu_fail
theorem pu_wSl {x : Option MV} {f : Option MA → Nat → Nat → M β} (k : ∀ a b c, Pu (f a b c)) : Pu (wSl x f) := by
 unfold wSl; split
 ·exact k _ _ _
 ·exact pu_fail
theorem pu_wTup {x : Option MV} {f : List MV → M β} (k : ∀ a, Pu (f a)) : Pu (wTup x f) := by
 unfold wTup; split
 ·exact k _
 ·exact pu_fail
theorem pu_wAgg {x : Option MV} {f : List MV → M β} (k : ∀ a, Pu (f a)) : Pu (wAgg x f) := by
 unfold wAgg; split
 ·exact k _
 ·exact pu_fail
theorem pu_wFn {x : Option MV} {f : FuncId → List MV → M β} (k : ∀ a b, Pu (f a b)) : Pu (wFn x f) := by
 unfold wFn; split
 ·exact k _ _
 ·exact pu_fail
theorem pu_wPlace {x : Option FV} {f : Option MA → M β} {g : Nat → Nat → M β} (k : ∀ a, Pu (f a)) (l : ∀ a b, Pu (g a b)) : Pu (wPlace x f g) := by
 unfold wPlace; split
 ·exact k _
 ·exact l _ _
 ·exact pu_fail
theorem pu_wIf {b : Bool} {m : M β} (k : Pu m) : Pu (wIf b m) := by
 unfold wIf; split
 ·exact k
 ·exact pu_fail
theorem pu_wLive {x : Option FV} {f : FV → M β} (k : ∀ a, Pu (f a)) : Pu (wLive x f) := by
 unfold wLive; split
 ·exact k _
 ·exact k _
 ·exact pu_fail
theorem pu_intOf {fr : Fr} {x : Option Opd} {e : Int} {f : Int → M β} (k : ∀ a, Pu (f a)) : Pu (intOf fr x e f) := by
 unfold intOf; split
 ·exact k _
 ·exact pu_wInt fun _ _ => k _
theorem pu_ptrEq (p q : Option MA) : Pu (ptrEq p q) := by
 intro h a h' e
 cases p with
 | none => cases e; exact ⟨rfl, fun _ => rfl⟩
 | some x =>
  cases q with
  | none => cases e; exact ⟨rfl, fun _ => rfl⟩
  | some y =>
   simp only [ptrEq] at e ⊢
   split at e
   ·cases e
    refine ⟨rfl, fun h2 => ?_⟩
    rw [if_pos (by assumption)]
   ·cases e
theorem pu_evPtr {p q : Option MA} {f : Bool → M β} (k : ∀ b, Pu (f b)) : Pu (evPtr p q f) := by
 unfold evPtr; split
 ·exact k _
 ·exact pu_bd (pu_ptrEq _ _) k
theorem pu_evUn {op : UnOp} {x : MV} {f : MV → M β} (k : ∀ a, Pu (f a)) : Pu (evUn op x f) := by
 unfold evUn; split <;> first | exact k _ | exact pu_fail
theorem pu_evBin {op : BinOp} {x y : MV} {f : MV → M β} (k : ∀ a, Pu (f a)) : Pu (evBin op x y f) := by
 unfold evBin
 split
 ·exact pu_ite pu_fail (k _)
 ·exact pu_ite pu_fail (k _)
 ·refine pu_ite ?_ pu_fail
  split <;> first | exact k _ | exact pu_ite pu_fail (k _)
 all_goals first | exact k _ | exact pu_evPtr fun _ => k _ | exact pu_fail
theorem pu_pload {pv : PV} {t : Ty} {o : Nat} {f : MV → M β} (k : ∀ a, Pu (f a)) : Pu (pload pv t o f) := by
 unfold pload
 split
 ·exact pu_okOf k
 ·exact pu_ite (k _) pu_fail
 ·exact pu_ite (pu_bd (pu_someOr _) fun _ => k _) pu_fail
 ·exact pu_bd (pu_someOr _) fun _ => pu_bd (pu_someOr _) fun _ => k _
 ·exact pu_bd (pu_ite (pu_ret _) pu_fail) fun _ => pu_bd (pu_someOr _) fun _ => k _
 ·exact pu_bd (pu_ite (pu_ret _) pu_fail) fun _ => k _
 ·exact pu_fail
theorem pu_nonNil (p : Option MA) : Pu (nonNil p) := by cases p <;> first | exact pu_ret _ | exact pu_fail
theorem pu_fld (p : Option MA) (n : Nat) : Pu (fld p n) := by cases p <;> first | exact pu_ret _ | exact pu_fail
theorem pu_idx (e : Nat) (s : Sl) (i : Int) : Pu (idx e s i) := by
 unfold idx; split
 ·exact pu_ite (pu_ret _) pu_fail
 ·exact pu_fail
theorem pu_arrAt (n : Nat) (s : Sl) : Pu (arrAt n s) := by
 unfold arrAt; split
 ·exact pu_ret _
 ·exact pu_fail
theorem pu_idxA (n e : Nat) (p : Option MA) (i : Int) : Pu (idxA n e p i) := by
 unfold idxA; split
 ·exact pu_ite (pu_ret _) pu_fail
 ·exact pu_fail
theorem pu_idxV (n : Nat) (cs : List MV) (i : Int) : Pu (idxV n cs i) := pu_ite (pu_someOr _) pu_fail
theorem pu_idxVn (n e : Nat) (cs : List MV) (i : Int) : Pu (idxVn n e cs i) := pu_ite (pu_ite (pu_ret _) pu_fail) pu_fail
theorem pu_idxS (s : List UInt8) (i : Int) : Pu (idxS s i) := pu_ite (pu_bd (pu_someOr _) fun _ => pu_ret _) pu_fail
theorem pu_slc (e : Nat) (s : Sl) (a b : Int) : Pu (slc e s a b) := pu_ite (pu_ret _) pu_fail
theorem pu_slcS (s : List UInt8) (a b : Int) : Pu (slcS s a b) := pu_ite (pu_ret _) pu_fail
theorem pu_catS (s t : List UInt8) : Pu (catS s t) := pu_ite (pu_ret _) pu_fail
theorem pu_isNilI (v : MV) : Pu (isNilI v) := by unfold isNilI; split <;> first | exact pu_ret _ | exact pu_fail
theorem rd_bd {T : Nat → Prop} {m : M α} {f : α → M β} (k : Rd T m) (kf : ∀ a, Pu (f a)) : Rd T (bd m f) := fun h x h' e => by
 obtain ⟨a, h1, e1, e2⟩ := bd_some e
 obtain ⟨rfl, ob, k1, k2⟩ := k _ _ _ e1
 obtain ⟨rfl, k3⟩ := kf a _ _ _ e2
 exact ⟨rfl, ob, k1, fun h2 hb => by simp only [bd, k2 h2 hb]; exact k3 h2⟩
theorem rd_ldc {T : Nat → Prop} {q : Option MA} (ht : ∀ a, q = some a → T a.blk) : Rd T (ldc q) := by
 intro h v h' e
 cases q with
 | none => cases e
 | some a =>
  simp only [ldc] at e ⊢
  split at e
  ·rename_i cs ro hg
   split at e
   ·rename_i u hu
    cases e
    refine ⟨rfl, some a.blk, fun b hb => ?_, fun h2 hb => ?_⟩
    ·cases hb; exact ⟨by rw [hg]; simp, ht a rfl⟩
    ·rw [hb _ rfl, hg]; simp only [hu]
   ·cases e
  ·cases e
theorem rd_ldn {T : Nat → Prop} {n : Nat} {q : Option MA} (ht : ∀ a, q = some a → T a.blk) : Rd T (ldn n q) := by
 intro h v h' e
 cases q with
 | none => cases e
 | some a =>
  simp only [ldn] at e ⊢
  split at e
  ·rename_i cs ro hg
   split at e
   ·rename_i hu
    cases e
    refine ⟨rfl, some a.blk, fun b hb => ?_, fun h2 hb => ?_⟩
    ·cases hb; exact ⟨by rw [hg]; simp, ht a rfl⟩
    ·rw [hb _ rfl, hg]; simp only [hu, if_true]
   ·cases e
  ·cases e
theorem rd_ld {T : Nat → Prop} {t : Ty} {q : Option MA} (ht : ∀ a, q = some a → T a.blk) : Rd T (ld t q) := by
 cases t with
 | c c =>
  simp only [ld, ldC_eq]
  exact rd_bd (rd_ldc ht) fun _ => pu_someOr _
 | st ts => exact rd_bd (rd_ldn ht) fun _ => pu_someOr _
 | agg n => exact rd_ldn ht
 | arr k => exact pu_fail.rd
 | fnc f cp =>
  simp only [ld, ldC_eq]
  exact rd_bd (rd_bd (rd_ldc ht) fun _ => pu_someOr _) fun _ => pu_someOr _
theorem rd_slcA {T : Nat → Prop} {n e : Nat} {q : Option MA} {lo hi : Int} (ht : ∀ a, q = some a → T a.blk) : Rd T (slcA n e q lo hi) := by
 intro h v h' e
 cases q with
 | none => cases e
 | some a =>
  simp only [slcA] at e ⊢
  split at e
  ·rename_i cs ro hg
   split at e
   ·rename_i hu
    cases e
    refine ⟨rfl, some a.blk, fun b hb => ?_, fun h2 hb => ?_⟩
    ·cases hb; exact ⟨by rw [hg]; simp, ht a rfl⟩
    ·rw [hb _ rfl, hg]
     dsimp only
     rw [if_pos hu]
   ·cases e
  ·cases e
theorem rd_cellsOf {T : Nat → Prop} {e : Nat} {s : Sl} (ht : ∀ a, s.p = some a → T a.blk) : Rd T (cellsOf e s) := by
 unfold cellsOf
 split
 ·exact (pu_ite (pu_ret _) pu_fail).rd
 ·exact rd_ldn ht
theorem rd_mapGet {T : Nat → Prop} {r : Option Nat} (ht : ∀ b, r = some b → T b) : Rd T (mapGet r) := by
 intro h v h' e
 cases r with
 | none => cases e; exact ⟨rfl, none, (by intro b hb; cases hb), fun _ _ => rfl⟩
 | some b =>
  simp only [mapGet] at e ⊢
  split at e
  ·rename_i es hg
   cases e
   refine ⟨rfl, some b, fun b' hb => ?_, fun h2 hb => ?_⟩
   ·cases hb; exact ⟨by rw [hg]; simp, ht b rfl⟩
   ·rw [hb _ rfl, hg]
  ·cases e
theorem rd_wPlace {T : Nat → Prop} {x : Option FV} {f : Option MA → M β} {g : Nat → Nat → M β} (k : ∀ q, x = some (.v (.ptr q)) → Rd T (f q)) (l : ∀ a b, Rd T (g a b)) : Rd T (wPlace x f g) := by
 unfold wPlace; split
 ·exact k _ rfl
 ·exact l _ _
 ·exact pu_fail.rd
theorem rd_wPtr {T : Nat → Prop} {x : Option MV} {f : Option MA → M β} (k : ∀ q, x = some (.ptr q) → Rd T (f q)) : Rd T (wPtr x f) := by
 unfold wPtr; split
 ·exact k _ rfl
 ·exact pu_fail.rd
theorem rd_wSl {T : Nat → Prop} {x : Option MV} {f : Option MA → Nat → Nat → M β} (k : ∀ p l e, x = some (.sl p l e) → Rd T (f p l e)) : Rd T (wSl x f) := by
 unfold wSl; split
 ·exact k _ _ _ rfl
 ·exact pu_fail.rd
theorem rd_wMap {T : Nat → Prop} {x : Option MV} {f : Option Nat → M β} (k : ∀ r, x = some (.map r) → Rd T (f r)) : Rd T (wMap x f) := by
 unfold wMap; split
 ·exact k _ rfl
 ·exact pu_fail.rd
theorem rd_ite {T : Nat → Prop} {c : Prop} [Decidable c] {m n : M α} (k : Rd T m) (l : Rd T n) : Rd T (if c then m else n) := by
 split
 ·exact k
 ·exact l
theorem rd_okOf {T : Nat → Prop} {ε : Type u} {x : Option ε} {f : ε → M β} (k : ∀ v, Rd T (f v)) : Rd T (okOf x f) := by
 cases x with
 | none => exact pu_fail.rd
 | some v => exact k v
theorem rd_wIf {T : Nat → Prop} {b : Bool} {m : M β} (k : Rd T m) : Rd T (wIf b m) := by
 unfold wIf; split
 ·exact k
 ·exact pu_fail.rd
theorem rd_intOf {T : Nat → Prop} {fr : Fr} {x : Option Opd} {e : Int} {f : Int → M β} (k : ∀ a, Rd T (f a)) : Rd T (intOf fr x e f) := by
 unfold intOf; split
 ·exact k _
 ·unfold wInt; split
  ·exact k _
  ·exact pu_fail.rd
theorem rd_mapLook {T : Nat → Prop} {r : Option Nat} {k : MV} (ht : ∀ b, r = some b → T b) : Rd T (mapLook r k) := rd_bd (rd_mapGet ht) fun _ => by
 split <;> first | exact pu_ret _ | exact pu_fail
def blkOf : MV → Option Nat
 | .ptr (some a) => some a.blk
 | .sl (some a) _ _ => some a.blk
 | .map (some b) => some b
 | _ => none
def bsOf (A : Fr) (x : Ins) (b : Nat) : Prop := ∃ o, x.pl = some o ∧ ∃ v, o.mv A = some v ∧ blkOf v = some b
theorem blkOf_M {v : MV} {b : Nat} (h : blkOf v = some b) : blkM v = some b := by
 unfold blkOf at h
 split at h <;> first | exact h | cases h
theorem pl_opds {x : Ins} {p : Opd} (h : x.pl = some p) : p ∈ x.opds := by
 cases x <;> first | (cases h; done) | (cases h; simp [Ins.opds])
theorem mv_of_val {A : Fr} {o : Opd} {v : MV} (h : o.val A = some (.v v)) : o.mv A = some v := by simp only [Opd.mv, h]
variable {C : List (Nat × Entry)}
theorem pu_ins {x : Ins} {d : Nat} (hd : x.val = some d) (hc : x.cls = 0) (A : Fr) : Pu (evIns C x A tp) := by
 cases x with
 | fldV d' off t x =>
  cases t <;> simp only [evIns, tp_set]
  ·exact pu_wAgg fun _ => pu_okOf fun _ => pu_ret _
  ·exact pu_wAgg fun _ => pu_ite (pu_ret _) pu_fail
  ·exact pu_wAgg fun _ => pu_ite (pu_ret _) pu_fail
  ·exact pu_fail
  ·exact pu_fail
 | mv | box | alloc | load | store | call | callz | callv | callvz | palloc | pbox | bslice | slcA | toStr | toBytes | look1 | look2 | mapLen | mkMap | mapPut | mapDel | app | appS | copy | copyS | mkSl | markB | mapClr | slClr | allocA | boxA | bsliceA | mkSlA | toBytesA | mkMapA => simp [Ins.cls] at hc
 | _ =>
  simp only [evIns, tp_set, tp_setF, tp_setL]
  repeat (first
   | refine pu_bd (pu_arrAt _ _) fun _ => ?_
   | exact pu_ret _
   | exact pu_fail
   | refine pu_okOf fun _ => ?_
   | refine pu_wInt fun _ _ => ?_
   | refine pu_wStr fun _ => ?_
   | refine pu_wSl fun _ _ _ => ?_
   | refine pu_wTup fun _ => ?_
   | refine pu_wAgg fun _ => ?_
   | refine pu_wFn fun _ _ => ?_
   | refine pu_wLive fun _ => ?_
   | refine pu_wIf ?_
   | refine pu_evBin fun _ => ?_
   | refine pu_evUn fun _ => ?_
   | refine pu_pload fun _ => ?_
   | refine pu_intOf fun _ => ?_
   | refine pu_ite ?_ ?_
   | refine pu_bd (pu_someOr _) fun _ => ?_
   | refine pu_bd (pu_nonNil _) fun _ => ?_
   | refine pu_bd (pu_fld _ _) fun _ => ?_
   | refine pu_bd (pu_idx _ _ _) fun _ => ?_
   | refine pu_bd (pu_idxA _ _ _ _) fun _ => ?_
   | refine pu_bd (pu_idxV _ _ _) fun _ => ?_
   | refine pu_bd (pu_idxVn _ _ _ _) fun _ => ?_
   | refine pu_bd (pu_idxS _ _) fun _ => ?_
   | refine pu_bd (pu_slc _ _ _ _) fun _ => ?_
   | refine pu_bd (pu_slcS _ _ _) fun _ => ?_
   | refine pu_bd (pu_catS _ _) fun _ => ?_
   | refine pu_bd (pu_isNilI _) fun _ => ?_
   | refine pu_bd (pu_ite (pu_ret _) pu_fail) fun _ => ?_
   | refine pu_wPlace (fun _ => ?_) (fun _ _ => ?_))
theorem rd_ins {x : Ins} {d : Nat} (hd : x.val = some d) (hc : x.cls < 2) (A : Fr) : Rd (bsOf A x) (evIns C x A tp) := by
 by_cases h0 : x.cls = 0
 ·exact (pu_ins hd h0 A).rd
 cases x with
 | load d t p =>
  simp only [evIns, tp_set]
  refine rd_wPlace (fun q hq => rd_bd (rd_ld fun a ha => ?_) fun _ => pu_ret _) fun _ _ => (pu_okOf fun _ => pu_pload fun _ => pu_ret _).rd
  subst ha
  exact ⟨p, rfl, _, mv_of_val hq, rfl⟩
 | slcA d n e p lo hi =>
  simp only [evIns, tp_set]
  refine rd_wPtr fun q hq => rd_intOf fun _ => rd_intOf fun _ => rd_bd (rd_slcA fun a ha => ?_) fun _ => pu_ret _
  subst ha
  exact ⟨p, rfl, _, hq, rfl⟩
 | toStr d s =>
  simp only [evIns, tp_set]
  refine rd_wSl fun p l e hq => rd_ite (rd_bd (rd_bd (rd_cellsOf fun a ha => ?_) fun _ => pu_someOr _) fun _ => pu_ret _) pu_fail.rd
  subst ha
  exact ⟨s, rfl, _, hq, rfl⟩
 | look1 d kt t z m kk =>
  simp only [evIns, tp_set]
  refine rd_wMap fun r hq => rd_okOf fun _ => rd_wIf (rd_bd (rd_mapLook fun b hb => ?_) fun _ => pu_bd (pu_someOr _) fun _ => pu_ret _)
  subst hb
  exact ⟨m, rfl, _, hq, rfl⟩
 | look2 d kt t z m kk =>
  simp only [evIns, tp_set]
  refine rd_wMap fun r hq => rd_okOf fun _ => rd_wIf (rd_bd (rd_mapLook fun b hb => ?_) fun _ => pu_bd (pu_someOr _) fun _ => pu_ret _)
  subst hb
  exact ⟨m, rfl, _, hq, rfl⟩
 | mapLen d m =>
  simp only [evIns, tp_set]
  refine rd_wMap fun r hq => rd_bd (rd_bd (rd_mapGet fun b hb => ?_) fun _ => pu_ret _) fun _ => pu_ret _
  subst hb
  exact ⟨m, rfl, _, hq, rfl⟩
 | _ => first | exact absurd rfl h0 | (simp [Ins.cls] at hc)
theorem gr_ret (a : α) : Gr (ret a) := fun h x h' e => by cases e; exact Grows.refl _
theorem gr_fail : Gr (fail : M α) := fun h x h' e => by cases e
theorem gr_bd {m : M α} {f : α → M β} (k : Gr m) (kf : ∀ a, Gr (f a)) : Gr (bd m f) := fun h x h' e => by
 obtain ⟨a, h1, e1, e2⟩ := bd_some e
 exact (k _ _ _ e1).trans (kf a _ _ _ e2)
theorem gr_okOf {ε : Type u} {x : Option ε} {f : ε → M β} (k : ∀ v, Gr (f v)) : Gr (okOf x f) := by
 cases x with
 | none => exact gr_fail
 | some v => exact k v
theorem gr_alloc (cs : List MV) : Gr (alloc cs) := fun h x h' e => by cases e; exact Grows.push _ _
theorem gr_alloc1 (v : MV) : Gr (alloc1 v) := fun h x h' e => by
 unfold alloc1 at e
 split at e
 ·cases e; exact Grows.push _ _
 ·cases e
theorem gr_frz (m : M α) : Gr (frz m) := fun h x h' e => (frz_some e).2
theorem gr_runz (e : Entry) (vs : List MV) {f : MV → M β} (k : ∀ v, Gr (f v)) : Gr (e.runz vs f) := by
 unfold Entry.runz
 split
 ·exact gr_bd (gr_frz _) fun _ => k _
 ·exact gr_fail
theorem gr_wInt {x : Option MV} {f : IntKind → Int → M β} (k : ∀ a b, Gr (f a b)) : Gr (wInt x f) := by
 unfold wInt; split
 ·exact k _ _
 ·exact gr_fail
theorem gr_mkSl (e bytes : Nat) (z : List MV) (l c : Int) : Gr (mkSl e bytes z l c) := by
 unfold mkSl
 split
 ·exact fun h x h' e => by cases e; exact Grows.push _ _
 ·exact gr_fail
theorem gr_toBytes (s : List UInt8) : Gr (toBytes s) := by
 unfold toBytes
 split
 ·exact fun h x h' e => by cases e; exact Grows.push _ _
 ·exact gr_fail
theorem gr_ins {x : Ins} {d : Nat} (hd : x.val = some d) (hc : x.cls = 3) (A : Fr) : Gr (evIns C x A tp) := by
 cases x with
 | alloc d z => simp only [evIns, tp_set]; exact gr_bd (gr_alloc _) fun _ => gr_ret _
 | box d a x =>
  cases a <;> simp only [evIns, tp_set]
  ·exact gr_okOf fun _ => gr_bd (gr_alloc1 _) fun _ => gr_ret _
  ·unfold wAgg; split
   ·exact gr_bd (gr_alloc _) fun _ => gr_ret _
   ·exact gr_fail
 | bslice d e len z parts => simp only [evIns, tp_set]; exact gr_okOf fun _ => gr_okOf fun _ => gr_bd (gr_alloc _) fun _ => gr_ret _
 | mkSl d e bytes z len cap => simp only [evIns, tp_set]; exact gr_wInt fun _ _ => gr_wInt fun _ _ => gr_bd (gr_mkSl _ _ _ _ _) fun _ => gr_ret _
 | toBytes d x =>
  simp only [evIns, tp_set]
  unfold wStr; split
  ·exact gr_bd (gr_toBytes _) fun _ => gr_ret _
  ·exact gr_fail
 | mkMap d => simp only [evIns, tp_set]; exact gr_bd (fun h x h' e => by cases e; exact Grows.push _ _) fun _ => gr_ret _
 | callz d f args => simp only [evIns, tp_set]; exact gr_okOf fun _ => gr_okOf fun _ => gr_runz _ _ fun _ => gr_ret _
 | callvz d f args =>
  simp only [evIns, tp_set]
  unfold wFn; split
  ·exact gr_okOf fun _ => gr_okOf fun _ => gr_runz _ _ fun _ => gr_ret _
  ·exact gr_fail
 | _ => simp [Ins.cls] at hc
end
end Go.Mini
