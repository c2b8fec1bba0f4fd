/- strconv.Itoa, strconv.Atoi, strings.Join, strings.Split: contracts of a library, as contracts of the small machine. -/
import Derived.Test.YtpejkcmkboegdaaDoorMU
import Derived.Test.YtpejkcmkboegdaaDoorMSTR
import Derived.Lib.ConvBytes
import Derived.Lib.SmallJoins
import Derived.Below
namespace Go.Mini
open Go.RowKit

section
variable {P : Program} {ρ : Rho} {h : Hp} {w : World}

theorem enter_fn {f : FuncId} {fn : Func} (hf : P.funcs[f]? = some fn) (hname : (fn.name == "runtime.NumGoroutine") = false) (hb : fn.body.isSome = true) : ∀ (args : Array Value) (w : World), (callFunc f args).run P w = .ok (.enter f args) w := by
  intro args w
  obtain ⟨c, hc⟩ := Option.isSome_iff_exists.1 hb
  unfold callFunc
  simp only [Sem.run_bind, run_program, Result.andThen_ok, hf]
  simp [hname, hc]

/-- What a contract says of one call. -/
abbrev DoneS (ρ : Rho) (h : Hp) (w : World) (v : MV) (h' : Hp) : Ending → World → Prop := fun en w' => ∃ rv ρ', en = .returned rv ∧ VRel ρ' v rv ∧ HRel ρ' h' w'.heap ∧ HStp ρ h w ρ' h' w'

theorem HRel.below (k : HRel ρ h w.heap) {w' : World} (b : Below w.heap.size w w') : HRel ρ h w'.heap ∧ HStp ρ h w ρ h w' := by
  refine ⟨⟨k.dom, k.live, k.inj, fun c rb e => ?_, k.gl⟩, Ext.refl _, b.os, b.tape, b.output, b.size, ⟨Nat.le_refl _, fun _ _ e => .inl e⟩, fun r hr _ => b.block r hr, fun _ f => .inl f, fun _ f => .inl f⟩
  by_cases hd : Dead h c
  · unfold Dead at hd; rw [hd]; trivial
  · exact (k.blk c rb e).heap (b.block _ (k.lt e hd))

/-- The variable of a package that a block stands for. -/
theorem gl_cell (k : HRel ρ h w.heap) {i g : Nat} (hg : GM[i]? = some g) {v : MV} {cs : List MV} {ro : Bool} (hb : h.get i = .cells (v :: cs) ro) : ∃ ev, w.cell? ⟨g, 0, none⟩ = some ev ∧ VRel ρ v ev := by
  obtain ⟨e, hρ⟩ := k.gl i g hg
  have hk := k.blk _ _ hρ
  rw [hb] at hk
  obtain ⟨c, el, fz, h1, _, _, h4, _⟩ := hk
  obtain ⟨ev, h5, h6⟩ := h4 0 v rfl
  have h1' : w.heap[g]? = some (.cells c el fz) := h1
  exact ⟨ev, by simp only [World.cell?, h1']; simpa using h5, h6⟩

theorem sound_itoa {n : FuncId} (he : ∀ (args : Array Value) (w : World), (callFunc n args).run P w = .ok (.enter n args) w)
    (K : ∀ (i : Nat), i < 100 → ∀ w : World, Calls P n #[.int .i64 i] w fun e w' => e = .returned (.string ⟨(Lib.decDigits i).toArray⟩) ∧ w' = w) :
    Sound P n (entry [.c (.int .i64)] [.s 0 (.c .str)] fun a => itoaS a) := by
  refine ⟨he, ?_⟩
  intro args v h h' e ρ w rargs kh hrel
  simp only [Entry.run, entry] at e
  cases hd : HT.dec [.c (.int .i64)] args with
  | none => rw [hd] at e; cases e
  | some a =>
    rw [hd] at e
    obtain ⟨t, h1, e1, e2⟩ := bd_some e
    cases e2
    have henc := HT.enc_dec _ args a hd
    subst henc
    cases hrel with
    | cons _ x _ xs hx hxs =>
    cases hxs
    cases hx
    change Int at a
    change itoaS a h = some (t, h') at e1
    unfold itoaS at e1
    split at e1
    · rename_i hc
      cases e1
      obtain ⟨m, rfl⟩ : ∃ m : Nat, a = m := ⟨a.toNat, by omega⟩
      refine (K m (by omega) w).mono ?_
      rintro en w' ⟨rfl, rfl⟩
      exact ⟨_, ρ, rfl, .str _, kh, HStp.refl _ _ _⟩
    · cases e1

theorem strsOf_rel : ∀ (cs : List MV) (xs : List (List UInt8)), strsOf cs = some xs → ∀ (vs : List Value), VRels ρ cs vs → vs = xs.map fun x => Value.string ⟨x.toArray⟩
  | [], xs, e, vs, hv => by cases e; cases hv; rfl
  | .str s :: r, xs, e, vs, hv => by
    unfold strsOf at e
    split at e
    · rename_i ys hy
      cases e
      cases hv with
      | cons _ x _ us hx hs =>
      cases hx
      rw [strsOf_rel r ys hy us hs]
      rfl
    · cases e
  | .int _ _ :: _, _, e, _, _ | .bool _ :: _, _, e, _, _ | .ptr _ :: _, _, e, _, _ | .sl _ _ _ :: _, _, e, _, _ | .map _ :: _, _, e, _, _ | .fn _ _ :: _, _, e, _, _ | .nilFn :: _, _, e, _, _ | .iface _ _ :: _, _, e, _, _ | .nilIface :: _, _, e, _, _ | .agg _ :: _, _, e, _, _ | .tup _ :: _, _, e, _, _ => by simp [strsOf] at e

theorem data_map (xs : List (List UInt8)) : (xs.map fun x => (⟨x.toArray⟩ : ByteArray)).map (·.data.toList) = xs := by
  rw [List.map_map]
  exact (List.map_congr_left fun x _ => by simp).trans (List.map_id xs)

theorem joinS_sound {n : FuncId}
    (K0 : ∀ (a : Option Addr) (c : Nat) (sep : ByteArray) (w : World), Calls P n #[.slice a 0 c, .string sep] w fun e w' => e = .returned (.string ⟨#[]⟩) ∧ w' = w)
    (K : ∀ (bk o c : Nat) (xs : List ByteArray) (sep : ByteArray) (w : World), (∀ (j : Nat) x, xs[j]? = some x → w.cell? ⟨bk, o + j, none⟩ = some (.string x)) → bk < w.heap.size → xs.length ≤ 140737488355328 → xs.length ≤ c →
      (Lib.join (xs.map (·.data.toList)) sep.data.toList).length ≤ 140737488355328 → Calls P n #[.slice (some ⟨bk, o, none⟩) xs.length c, .string sep] w fun e w' => e = .returned (.string ⟨(Lib.join (xs.map (·.data.toList)) sep.data.toList).toArray⟩) ∧ Below w.heap.size w w')
    (k : HRel ρ h w.heap) {s : Sl} {sep : List UInt8} {x : Value} (hx : VRel ρ (.sl s.p s.len 1) x) {t : List UInt8} {h' : Hp} (e : joinS s sep h = some (t, h')) :
    Calls P n #[x, .string ⟨sep.toArray⟩] w (DoneS ρ h w (.str t) h') := by
  obtain ⟨sp, sl⟩ := s
  dsimp only at hx
  unfold joinS at e
  obtain ⟨cs, h1, e1, e2⟩ := bd_some e
  cases hxs : strsOf cs with
  | none => rw [hxs] at e2; cases e2
  | some xs =>
  rw [hxs] at e2
  dsimp only at e2
  split at e2
  case isFalse => cases e2
  rename_i hc
  cases e2
  obtain ⟨hh, hlen, _⟩ := cellsOf_sound (P := P) k hx e1
  subst hh
  dsimp only at hlen
  rw [Nat.mul_one] at hlen
  have hnone : ∀ (a : Option Addr) (c : Nat), cs = [] → Calls P n #[.slice a 0 c, .string ⟨sep.toArray⟩] w (DoneS ρ h' w (.str (Lib.join xs sep)) h') := by
    intro a c hcs
    subst hcs
    cases hxs
    refine (K0 a c _ w).mono ?_
    rintro en w' ⟨rfl, rfl⟩
    exact ⟨_, ρ, rfl, .str [], k, HStp.refl _ _ _⟩
  unfold cellsOf at e1
  cases hx with
  | slNil => exact hnone _ _ (List.length_eq_zero_iff.1 hlen)
  | sl a rb _ _ cap ra hb hl hcp hcm =>
  by_cases hz : sl = 0
  · subst hz
    exact hnone _ _ (List.length_eq_zero_iff.1 hlen)
  rcases hcp with hcp | ⟨rfl, hcp⟩
  · omega
  dsimp only at e1
  rw [Nat.mul_one] at e1 hcp
  have hcells : ∃ bs ro, h'.get a.blk = .cells bs ro ∧ a.off + sl ≤ bs.length ∧ cs = (bs.drop a.off).take sl := by
    unfold ldn at e1
    dsimp only at e1
    split at e1
    · rename_i bs ro hg
      split at e1
      · rename_i hle
        cases e1
        exact ⟨bs, ro, hg, hle, rfl⟩
      · cases e1
    · cases e1
  obtain ⟨bs, ro, hg, hle, hcs⟩ := hcells
  have hk := k.blk _ _ hb
  rw [hg] at hk
  obtain ⟨c, el, fz, b1, b2, b3, b4, _⟩ := hk
  have hxl : xs.length = sl := by
    have : ∀ (cs : List MV) (xs : List (List UInt8)), strsOf cs = some xs → xs.length = cs.length := by
      intro cs
      induction cs with
      | nil => intro xs e; cases e; rfl
      | cons v r ih =>
        intro xs e
        cases v <;> try (simp [strsOf] at e; done)
        unfold strsOf at e
        split at e
        · rename_i ys hy
          cases e
          simp [ih ys hy]
        · cases e
    rw [this cs xs hxs, hlen]
  have hget : ∀ (j : Nat) y, xs[j]? = some y → c[rb.o + a.off + j]? = some (.string ⟨y.toArray⟩) := by
    intro j y hy
    have hj : j < sl := by rw [← hxl]; exact (List.getElem?_eq_some_iff.1 hy).1
    have hst : ∀ (cs : List MV) (xs : List (List UInt8)), strsOf cs = some xs → ∀ (j : Nat) y, xs[j]? = some y → cs[j]? = some (.str y) := by
      intro cs
      induction cs with
      | nil => intro xs e j y hy; cases e; cases hy
      | cons v r ih =>
        intro xs e j y hy
        cases v <;> try (simp [strsOf] at e; done)
        unfold strsOf at e
        split at e
        · rename_i ys hy'
          cases e
          cases j with
          | zero => cases hy; rfl
          | succ j => exact ih ys hy' j y hy
        · cases e
    have h2 := hst cs xs hxs j y hy
    rw [hcs, List.getElem?_take, if_pos hj, List.getElem?_drop] at h2
    obtain ⟨v', h3, h4⟩ := b4 _ _ h2
    cases h4
    rw [Nat.add_assoc]
    exact h3
  have hK := K rb.r (rb.o + a.off) cap (xs.map fun x => ⟨x.toArray⟩) ⟨sep.toArray⟩ w (by
    intro j y hy
    rw [List.getElem?_map, Option.map_eq_some_iff] at hy
    obtain ⟨z, hz, rfl⟩ := hy
    simp only [World.cell?, b1]
    exact hget j z hz) (Array.getElem?_eq_some_iff.1 b1).1 (by simpa using hc.2) (by rw [List.length_map, hxl]; exact hl) (by rw [data_map]; exact hc.1)
  rw [List.length_map, hxl, data_map] at hK
  refine hK.mono ?_
  rintro en w' ⟨rfl, bel⟩
  obtain ⟨g1, g2⟩ := k.below bel
  exact ⟨_, ρ, rfl, .str _, g1, g2⟩

theorem sound_join {n : FuncId} (he : ∀ (args : Array Value) (w : World), (callFunc n args).run P w = .ok (.enter n args) w)
    (K0 : ∀ (a : Option Addr) (c : Nat) (sep : ByteArray) (w : World), Calls P n #[.slice a 0 c, .string sep] w fun e w' => e = .returned (.string ⟨#[]⟩) ∧ w' = w)
    (K : ∀ (bk o c : Nat) (xs : List ByteArray) (sep : ByteArray) (w : World), (∀ (j : Nat) x, xs[j]? = some x → w.cell? ⟨bk, o + j, none⟩ = some (.string x)) → bk < w.heap.size → xs.length ≤ 140737488355328 → xs.length ≤ c →
      (Lib.join (xs.map (·.data.toList)) sep.data.toList).length ≤ 140737488355328 → Calls P n #[.slice (some ⟨bk, o, none⟩) xs.length c, .string sep] w fun e w' => e = .returned (.string ⟨(Lib.join (xs.map (·.data.toList)) sep.data.toList).toArray⟩) ∧ Below w.heap.size w w') :
    Sound P n (entry [.c (.sl 1), .c .str] [.s 0 (.c .str)] fun a => joinS a.1 a.2) := by
  refine ⟨he, ?_⟩
  intro args v h h' e ρ w rargs kh hrel
  simp only [Entry.run, entry] at e
  cases hd : HT.dec [.c (.sl 1), .c .str] args with
  | none => rw [hd] at e; cases e
  | some a =>
    rw [hd] at e
    obtain ⟨t, h1, e1, e2⟩ := bd_some e
    cases e2
    have henc := HT.enc_dec _ args a hd
    obtain ⟨s, sep⟩ := a
    subst henc
    cases hrel with
    | cons _ x _ xs hx hxs =>
    cases hxs with
    | cons _ y _ xs hy hxs =>
    cases hxs
    cases hy
    exact joinS_sound K0 K kh hx e1

theorem split_data (s sep : List UInt8) : (Lib.splitB ⟨sep.toArray⟩ 0 (Lib.countB ⟨s.toArray⟩ ⟨sep.toArray⟩) ⟨s.toArray⟩).map Value.string = (Lib.split s sep).map fun x => Value.string ⟨x.toArray⟩ := by
  have h1 := Lib.splitB_data ⟨sep.toArray⟩ 0 (Lib.countB ⟨s.toArray⟩ ⟨sep.toArray⟩) ⟨s.toArray⟩
  have h2 : Lib.countB ⟨s.toArray⟩ ⟨sep.toArray⟩ = Lib.count s sep := by
    show Lib.count _ _ = _
    simp
  have h3 : (Lib.splitB ⟨sep.toArray⟩ 0 (Lib.countB ⟨s.toArray⟩ ⟨sep.toArray⟩) ⟨s.toArray⟩).map (·.data.toList) = Lib.split s sep := by
    rw [h1, h2]
    unfold Lib.split
    simp
  rw [← h3, List.map_map]
  exact List.map_congr_left fun x _ => by simp

theorem sound_split {n : FuncId} {g : Nat} {ty : TypeId} (hg : GM[2]? = some g) (he : ∀ (args : Array Value) (w : World), (callFunc n args).run P w = .ok (.enter n args) w)
    (K : ∀ (s sep : ByteArray) (m : Int) (w : World), s.size < 4294967281 → w.cell? ⟨g, 0, none⟩ = some (.int .i64 m) → 1 ≤ sep.size → Calls P n #[.string s, .string sep] w fun e w' =>
      e = .returned (.slice (some ⟨w.heap.size, 0, none⟩) (Lib.countB s sep + 1) (Lib.countB s sep + 1)) ∧ w' = w.alloc (.cells ((Lib.splitB sep 0 (Lib.countB s sep) s).map Value.string).toArray ty))
    (hle : ∀ (s sep : ByteArray), 1 ≤ sep.size → Lib.countB s sep ≤ s.size) (hlen : ∀ (s sep : ByteArray), 1 ≤ sep.size → (Lib.splitB sep 0 (Lib.countB s sep) s).length = Lib.countB s sep + 1) :
    Sound P n (entry [.c .str, .c .str] [.s 0 (.c (.sl 1))] fun a => splitS a.1 a.2) := by
  refine ⟨he, ?_⟩
  intro args v h h' e ρ w rargs kh hrel
  simp only [Entry.run, entry] at e
  cases hd : HT.dec [.c .str, .c .str] args with
  | none => rw [hd] at e; cases e
  | some a =>
    rw [hd] at e
    obtain ⟨t, h1, e1, e2⟩ := bd_some e
    cases e2
    have henc := HT.enc_dec _ args a hd
    obtain ⟨s, sep⟩ := a
    subst henc
    cases hrel with
    | cons _ x _ xs hx hxs =>
    cases hxs with
    | cons _ y _ xs hy hxs =>
    cases hxs
    cases hx
    cases hy
    change List UInt8 at s
    change List UInt8 at sep
    change splitS s sep h = some (t, h') at e1
    unfold splitS at e1
    split at e1
    case h_2 => cases e1
    rename_i m r ro hb
    split at e1
    case isFalse => cases e1
    rename_i hc
    cases e1
    obtain ⟨ev, hcell, hev⟩ := gl_cell kh hg hb
    cases hev
    have hs1 : (⟨s.toArray⟩ : ByteArray).size = s.length := by simp [ByteArray.size]
    have hs2 : (⟨sep.toArray⟩ : ByteArray).size = sep.length := by simp [ByteArray.size]
    have hcs := hle ⟨s.toArray⟩ ⟨sep.toArray⟩ (by rw [hs2]; exact hc.2)
    have hln := hlen ⟨s.toArray⟩ ⟨sep.toArray⟩ (by rw [hs2]; exact hc.2)
    have hdat := split_data s sep
    have hl2 : (Lib.split s sep).length = Lib.countB ⟨s.toArray⟩ ⟨sep.toArray⟩ + 1 := by
      have := congrArg List.length hdat
      simp only [List.length_map] at this
      rw [← this]; exact hln
    refine (K ⟨s.toArray⟩ ⟨sep.toArray⟩ m w (by rw [hs1]; exact hc.1) hcell (by rw [hs2]; exact hc.2)).mono ?_
    rintro en w' ⟨rfl, rfl⟩
    rw [hdat]
    obtain ⟨g1, g2⟩ := kh.alloc (.cells ((Lib.split s sep).map .str) false) (by simp) (Lib.split s sep).length (.cells ((Lib.split s sep).map fun x => Value.string ⟨x.toArray⟩).toArray ty (0, 0)) (w.alloc (.cells ((Lib.split s sep).map fun x => Value.string ⟨x.toArray⟩).toArray ty)) rfl rfl rfl rfl (by
      intro ρ' hx
      refine ⟨((Lib.split s sep).map fun x => Value.string ⟨x.toArray⟩).toArray, ty, (0, 0), by rw [show ∀ o, (w.alloc o).heap = w.heap.push o from fun _ => rfl]; simp, by simp, by simp, ?_, fun _ => .inl rfl⟩
      intro i v hi
      rw [List.getElem?_map, Option.map_eq_some_iff] at hi
      obtain ⟨z, hz, rfl⟩ := hi
      exact ⟨.string ⟨z.toArray⟩, by simp [hz], .str z⟩)
    refine ⟨_, _, rfl, ?_, g1, g2⟩
    rw [← hl2]
    exact sl_new (Rho.put_same _ _ _) _ (Nat.le_refl _) (by omega) (by rw [hl2]; omega)

theorem atoiE_sound {n : FuncId} {te : TypeId} {i g : Nat} {ty : TypeId} {z : Int} (hg : GM[i]? = some g) (kh : HRel ρ h w.heap) {s : List UInt8} (hend : s.length ≤ 281474976710656 → ∀ (ev : Value), w.cell? ⟨g, 0, none⟩ = some ev → (ev = .nilIface ∨ ∃ te pe, ev = .iface te pe) →
      Calls P n #[.string ⟨s.toArray⟩] w fun e w' => ∃ N, e = .returned (.tuple #[.int .i64 z, .iface te (.pointer (some ⟨N, 0, none⟩))]) ∧ w.heap.size ≤ N ∧ w'.heap[N]? = some (.cells #[.string ⟨#[65, 116, 111, 105]⟩, .string ⟨s.toArray⟩, ev] ty (0, 0)) ∧ Below w.heap.size w w')
    {t : Int × MV} {h' : Hp} (e : atoiE te i z s h = some (t, h')) : Calls P n #[.string ⟨s.toArray⟩] w (DoneS ρ h w (.tup [.int .i64 t.1, t.2]) h') := by
  unfold atoiE at e
  split at e
  case h_2 => cases e
  rename_i mv r ro hb
  split at e
  case isFalse => cases e
  rename_i hc
  cases e
  obtain ⟨ev, hcell, hev⟩ := gl_cell kh hg hb
  refine (hend hc.2 ev hcell (by
    cases hev <;> first | exact .inl rfl | exact .inr ⟨_, _, rfl⟩ | (simp [isErr] at hc; done))).mono ?_
  rintro en w' ⟨N, rfl, hN, hobj, bel⟩
  have hlt : ∀ b q, ρ b = some q → ¬ Dead h b → q.r < w.heap.size := fun b q e hd => kh.lt e hd
  obtain ⟨g1, g2⟩ := kh.new (w' := w') ⟨N, 0, 3⟩ (.cells [.str [65, 116, 111, 105], .str s, mv] false) (by
    rintro ⟨b, q, e, hd, hr⟩
    have := kh.lt e hd
    dsimp only at hr
    omega) bel.size (fun j hj _ => bel.block j hj) bel.os bel.tape bel.output (by
      refine ⟨_, ty, (0, 0), hobj, by simp, by simp, ?_, fun _ => .inl rfl⟩
      intro j v hj
      match j, hj with
      | 0, hj => cases hj; exact ⟨_, rfl, .str _⟩
      | 1, hj => cases hj; exact ⟨_, rfl, .str _⟩
      | 2, hj => cases hj; exact ⟨_, rfl, hev.mono (kh.put_ext _)⟩
      | _ + 3, hj => cases hj) hlt hN
  refine ⟨_, _, rfl, ?_, g1, g2⟩
  refine .tup _ [_, _] (.cons _ _ _ _ (.int _ _) (.cons _ _ _ _ (.iface _ _ _ ?_) .nil))
  exact .ptr ⟨h.size, 0⟩ ⟨N, 0, 3⟩ (Rho.put_same _ _ _)

theorem sound_atoi {n : FuncId} {te tb ty : TypeId} {g0 g1 : Nat} (hg0 : GM[0]? = some g0) (hg1 : GM[1]? = some g1) (he : ∀ (args : Array Value) (w : World), (callFunc n args).run P w = .ok (.enter n args) w)
    (K : ∀ (s : ByteArray), s.size ≤ 9223372036854775806 → ∀ (v : Int), Lib.atoiAll s.data.toList = .ok v → ∀ w : World, Calls P n #[.string s] w fun e w' => e = .returned (.tuple #[.int .i64 v, .nilIface]) ∧ (w' = w ∨ ∃ t, w' = Lib.bytesWorld w tb t))
    (K0 : ∀ (s : ByteArray), s.size ≤ 281474976710656 → (∀ v, Lib.atoiAll s.data.toList ≠ .ok v) → Lib.atoiAll s.data.toList ≠ .range → ∀ (ev : Value) (w : World), w.cell? ⟨g0, 0, none⟩ = some ev → (ev = .nilIface ∨ ∃ te pe, ev = .iface te pe) →
      Calls P n #[.string s] w fun e w' => ∃ N, e = .returned (.tuple #[.int .i64 0, .iface te (.pointer (some ⟨N, 0, none⟩))]) ∧ w.heap.size ≤ N ∧ w'.heap[N]? = some (.cells #[.string ⟨#[65, 116, 111, 105]⟩, .string s, ev] ty (0, 0)) ∧ Below w.heap.size w w')
    (K1 : ∀ (s : ByteArray), s.size ≤ 281474976710656 → Lib.atoiAll s.data.toList = .range → ∀ (ev : Value) (w : World), w.cell? ⟨g1, 0, none⟩ = some ev → (ev = .nilIface ∨ ∃ te pe, ev = .iface te pe) →
      Calls P n #[.string s] w fun e w' => ∃ N, e = .returned (.tuple #[.int .i64 (Lib.atoiSat s.data.toList), .iface te (.pointer (some ⟨N, 0, none⟩))]) ∧ w.heap.size ≤ N ∧ w'.heap[N]? = some (.cells #[.string ⟨#[65, 116, 111, 105]⟩, .string s, ev] ty (0, 0)) ∧ Below w.heap.size w w') :
    Sound P n (entry [.c .str] [.s 0 (.c (.int .i64)), .s 1 (.c .any)] fun a => atoiS te a) := by
  refine ⟨he, ?_⟩
  intro args v h h' e ρ w rargs kh hrel
  simp only [Entry.run, entry] at e
  cases hd : HT.dec [.c .str] args with
  | none => rw [hd] at e; cases e
  | some s =>
    rw [hd] at e
    obtain ⟨t, h1, e1, e2⟩ := bd_some e
    cases e2
    have henc := HT.enc_dec _ args s hd
    subst henc
    cases hrel with
    | cons _ x _ xs hx hxs =>
    cases hxs
    cases hx
    change List UInt8 at s
    have hsz : (⟨s.toArray⟩ : ByteArray).size = s.length := by simp [ByteArray.size]
    have hdl : (⟨s.toArray⟩ : ByteArray).data.toList = s := by simp
    show Calls P n #[.string ⟨s.toArray⟩] w (DoneS ρ h w (.tup [.int .i64 t.1, t.2]) h')
    change atoiS te s h = some (t, h') at e1
    unfold atoiS at e1
    cases hu : Lib.atoiAll s with
    | ok u =>
      rw [hu] at e1
      dsimp only at e1
      split at e1
      case isFalse => cases e1
      rename_i hl
      cases e1
      refine (K ⟨s.toArray⟩ (by rw [hsz]; exact hl) u (by rw [hdl]; exact hu) w).mono ?_
      rintro en w' ⟨rfl, hw⟩
      have bel : Below w.heap.size w w' := by
        rcases hw with rfl | ⟨t, rfl⟩
        · exact Below.refl _ _
        · exact Go.Joins.below_bytesWorld _ _ _ _ (Nat.le_refl _)
      obtain ⟨q1, q2⟩ := kh.below bel
      exact ⟨_, ρ, rfl, .tup _ [_, _] (.cons _ _ _ _ (.int _ _) (.cons _ _ _ _ .nilIface .nil)), q1, q2⟩
    | range =>
      rw [hu] at e1
      have := fun hl ev hcell hev => K1 ⟨s.toArray⟩ (by rw [hsz]; exact hl) (by rw [hdl]; exact hu) ev w hcell hev
      rw [hdl] at this
      exact atoiE_sound hg1 kh this e1
    | _ =>
      rw [hu] at e1
      refine atoiE_sound hg0 kh (fun hl ev hcell hev => K0 ⟨s.toArray⟩ (by rw [hsz]; exact hl) (by rw [hdl, hu]; intro v c; cases c) (by rw [hdl, hu]; intro c; cases c) ev w hcell hev) e1

end
end Go.Mini
