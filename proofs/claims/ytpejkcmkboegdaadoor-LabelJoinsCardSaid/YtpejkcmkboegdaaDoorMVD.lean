/- A law over a program whose package variables are laid: what is assumed of them; the heap at the start. -/
import Derived.Test.YtpejkcmkboegdaaDoorMV
import Derived.Test.YtpejkcmkboegdaaDoorMW
import Derived.Test.YtpejkcmkboegdaaDoorMY
import Derived.Handed
import Derived.HandedShaped
import Derived.LaidLaws
import Derived.Stop.LaidErr
namespace Go.Mini
open Go.ChangeShapes Go.WideShapes Go.RowKit

theorem lifted_tied {C : Checked} {os : Os} (started : os.Started) {H : Type} {enc : TypeId × Value → H} {f : FuncId} {fn : Func} {s : ChangeSpec} {conds : List PathCond} {X : World → Prop} (hX : ∀ (w w' : World), w.heap = w'.heap → X w → X w')
    (own : ownKnob C.prog.godebug = none) (laid : laidOutB C.prog = true) (noInit : C.prog.inits.idxOf? f = none) (hfn : C.prog.funcs[f]? = some fn)
    (witness : ∃ (w : World) (tape : Tape) (i : Input), w.os = os ∧ (w.forCall tape i).Shaped C.prog ∧ i.vars = [] ∧ Input.okWide C.prog (w.forCall tape i) .any w.heap.size f i ∧
      ((s.pre enc C.prog fn conds false (w.forCall tape i).memory i.args ∧ X (w.forCall tape i).memory) ∧ sizedMet enc C.prog fn (OpenSpec.ofChange s) false (w.forCall tape i).memory i.args) ∧ ({} : Assume).holds C.prog (lone (Frame.enter C.prog f i.args .normal) [] (w.forCall tape i)))
    {rt : TypeId} (hres : fn.resultTypes = #[rt]) (hrt : C.prog.underlying rt = some .bool) (hvars : s.vars = [])
    (hs : ∀ (ds : List (DataW H)), ds.length = fn.params.size → s.fn H ds = { results := [.lit (.bool true)], args := ds })
    (hread : fn.params.toList.all (fun t => C.prog.readableRec t && Nat.blt t C.prog.types.size) = true)
    (law : ∀ (W : World) (base : Nat) (args : Array Value) (ds : List (DataW H)) (p : List MemPlace), args.size = fn.params.size →
      (∀ (j : Nat) t v, fn.params[j]? = some t → args[j]? = some v → Value.okWide C.prog W .any base t v) →
      DataW.TrodAll enc C.prog W 0 (fun _ => true) true fn.params.toList args.toList ds p → X W → W.ShapedOpen C.prog →
      Calls C.prog f args W fun e W' => e = .returned (.bool true) ∧ Below W.heap.size W W') :
    ReturnsInHanded {} C os f .any (fun w args => (s.pre enc C.prog fn conds false w args ∧ X w) ∧ sizedMet enc C.prog fn (OpenSpec.ofChange s) false w args) (s.post enc C.prog fn false true false false) := by
  refine returnsInHanded_of_calls own started noInit witness ?_
  intro w tape i _ hsh _ hok hpre hholds
  obtain ⟨_, _, _, fn', hfn', _, _, _, _, hval⟩ := hok
  have e : fn' = fn := Option.some.inj (hfn'.symm.trans hfn)
  subst e
  obtain ⟨⟨⟨ds, gs, before, hw, hc⟩, hx⟩, hz⟩ := hpre
  have hw' := DataW.Whole.of_heap (w' := w.forCall tape i) (by rfl) hw
  have hx' : X (w.forCall tape i) := hX _ _ (by rfl) hx
  have fin : Calls C.prog f i.args (w.forCall tape i) fun e W' => ∃ v, e = .returned v ∧ s.post enc C.prog fn' false true false false (w.forCall tape i) i.args v W' := by
    have hW := hw'
    obtain ⟨p, q, hA, hV, rfl, hfz, hnd⟩ := hw'
    rw [hvars] at hV
    obtain ⟨rfl, rfl⟩ := trodVars_none hV
    have hlen := trodAll_length hA
    have hsz1 : i.args.size = fn'.params.size := by simpa using hlen.1
    refine (law (w.forCall tape i) w.heap.size i.args ds p hsz1 hval hA hx' hsh).mono fun e W' ⟨he, bel⟩ => ?_
    subst he
    have hsp := hs ds (by simpa using hlen.2)
    have h1 : s.fn H (ds ++ []) = { results := [.lit (.bool true)], args := ds } := by rw [List.append_nil]; exact hsp
    refine ⟨_, rfl, ds, [], p ++ [], [], p, [], hW, ?_, ?_, ?_, bel.frame _, fun h => by cases h⟩
    · rw [h1, hres]
      exact trodAll_mk1 (shut_bool hrt _)
    · rw [h1]
      exact trodAll_stays laid bel _ hread _ _ _ hA
    · rw [h1, hvars]
      rfl
  refine fin.mono fun e W' ⟨v, he, hp⟩ => ?_
  subst he
  exact ChangeSpec.post_blind hp

theorem str_open {P : Program} {W : World} {r : Reach} {base : Nat} {t : TypeId} {v : Value} (hu : P.underlying t = some .string) (h : Value.okWide P W r base t v) : ∃ s : List UInt8, v = .string ⟨s.toArray⟩ := by
  unfold Value.okWide at h
  rw [hu] at h
  dsimp only at h
  unfold Cell.okWide at h
  rw [hu] at h
  cases v <;> simp [Cell.ok, hu] at h
  rename_i s
  exact ⟨s.data.toList, by simp⟩

/-- The start: two sentinels, a number, and what came in. -/
def glRho (a0 a1 : Addr) (rb : RB) : Rho := fun
  | 0 => some ⟨0, 0, 1⟩
  | 1 => some ⟨1, 0, 1⟩
  | 2 => some ⟨2, 0, 1⟩
  | 3 => some ⟨a0.block, a0.off, 0⟩
  | 4 => some ⟨a1.block, a1.off, 0⟩
  | 5 => some rb
  | _ => none
def glHp (t0 t1 : TypeId) (m : Int) (x : Blk) : Hp :=
  (((((Hp.empty.push (.cells [.iface t0 (.ptr (some ⟨3, 0⟩))] true)).push (.cells [.iface t1 (.ptr (some ⟨4, 0⟩))] true)).push (.cells [.int .i64 m] true)).push .dead).push .dead).push x

theorem glHp_size (t0 t1 : TypeId) (m : Int) (x : Blk) : (glHp t0 t1 m x).size = 6 := rfl
theorem glHp_get (t0 t1 : TypeId) (m : Int) (x : Blk) (b : Nat) : (glHp t0 t1 m x).get b = match b with
  | 0 => .cells [.iface t0 (.ptr (some ⟨3, 0⟩))] true
  | 1 => .cells [.iface t1 (.ptr (some ⟨4, 0⟩))] true
  | 2 => .cells [.int .i64 m] true
  | 5 => x
  | _ => .dead := by
  unfold glHp
  simp only [Hp.get_push, Hp.size_push]
  have he : Hp.empty.size = 0 := rfl
  rw [he]
  match b with
  | 0 => rfl
  | 1 => rfl
  | 2 => rfl
  | 3 => rfl
  | 4 => rfl
  | 5 => rfl
  | n + 6 => simp; rfl

theorem cell_row {W : World} {g : Nat} {v : Value} (h : W.cell? ⟨g, 0, none⟩ = some v) : ∃ c el fz, W.heap[g]? = some (.cells c el fz) ∧ c[0]? = some v := by
  unfold World.cell? at h
  split at h
  · rename_i c el fz hh
    exact ⟨c, el, fz, hh, by simpa using h⟩
  · cases h

theorem gl_start {W : World} {t0 t1 : TypeId} {a0 a1 : Addr} {m : Int} (hG : GM = [0, 1, 2]) (s0 : a0.spot = none) (s1 : a1.spot = none) (h0 : W.cell? ⟨0, 0, none⟩ = some (.iface t0 (.pointer (some a0)))) (h1 : W.cell? ⟨1, 0, none⟩ = some (.iface t1 (.pointer (some a1))))
    (h2 : W.cell? ⟨2, 0, none⟩ = some (.int .i64 m)) {rb : RB} {x : Blk} (hx1 : ∀ cs, x ≠ .cells cs false) (hx2 : ∀ es, x ≠ .map es) (hb : BRel (glRho a0 a1 rb) rb x W.heap) :
    HRel (glRho a0 a1 rb) (glHp t0 t1 m x) W.heap ∧ ∀ b, ¬ Own (glHp t0 t1 m x) b := by
  have hown : ∀ b, ¬ Own (glHp t0 t1 m x) b := by
    intro b ho
    unfold Own at ho
    rw [glHp_get] at ho
    match b, ho with
    | 0, ho | 1, ho | 2, ho | 3, ho | 4, ho | _ + 6, ho => rcases ho with ⟨_, h⟩ | ⟨_, h⟩ <;> cases h
    | 5, ho =>
      rcases ho with ⟨_, h⟩ | ⟨_, h⟩
      · exact hx1 _ h
      · exact hx2 _ h
  have pt : ∀ (a : Addr) (k : Nat), a.spot = none → glRho a0 a1 rb k = some ⟨a.block, a.off, 0⟩ → VRel (glRho a0 a1 rb) (.ptr (some ⟨k, 0⟩)) (.pointer (some a)) := by
    intro a k hs hk
    have := VRel.ptr (ρ := glRho a0 a1 rb) ⟨k, 0⟩ ⟨a.block, a.off, 0⟩ hk
    obtain ⟨ab, ao, as⟩ := a
    dsimp only at hs
    subst hs
    exact this
  have one : ∀ (g : Nat) (v : MV) (y : Value), W.cell? ⟨g, 0, none⟩ = some y → VRel (glRho a0 a1 rb) v y → BRel (glRho a0 a1 rb) ⟨g, 0, 1⟩ (.cells [v] true) W.heap := by
    intro g v y hc hv
    obtain ⟨c, el, fz, e1, e2⟩ := cell_row hc
    refine ⟨c, el, fz, e1, ?_, by simp, fun i u hu => ?_, fun h => by cases h⟩
    · have := (Array.getElem?_eq_some_iff.1 e2).1
      dsimp only
      omega
    · match i, hu with
      | 0, hu => cases hu; exact ⟨y, by simpa using e2, hv⟩
      | _ + 1, hu => simp at hu
  refine ⟨⟨fun b q e => ?_, fun b hd => ?_, fun b b' q q' _ _ ho => absurd ho (hown b), fun b q e => ?_, fun i g hg => ?_⟩, hown⟩
  · rw [glHp_size]
    match b, e with
    | 0, _ | 1, _ | 2, _ | 3, _ | 4, _ | 5, _ => omega
    | _ + 6, e => cases e
  · match b, hd with
    | 0, _ => exact ⟨_, rfl⟩
    | 1, _ => exact ⟨_, rfl⟩
    | 2, _ => exact ⟨_, rfl⟩
    | 3, _ => exact ⟨_, rfl⟩
    | 4, _ => exact ⟨_, rfl⟩
    | 5, _ => exact ⟨_, rfl⟩
    | n + 6, hd => exact absurd (by unfold Dead; rw [glHp_get]; rfl) hd
  · rw [glHp_get]
    match b, e with
    | 0, e => cases e; exact one 0 _ _ h0 (.iface _ _ _ (pt a0 3 s0 rfl))
    | 1, e => cases e; exact one 1 _ _ h1 (.iface _ _ _ (pt a1 4 s1 rfl))
    | 2, e => cases e; exact one 2 _ _ h2 (.int _ _)
    | 3, e => trivial
    | 4, e => trivial
    | 5, e => cases e; exact hb
    | _ + 6, e => cases e
  · rw [hG] at hg
    match i, hg with
    | 0, hg => cases hg; exact ⟨1, rfl⟩
    | 1, hg => cases hg; exact ⟨1, rfl⟩
    | 2, hg => cases hg; exact ⟨1, rfl⟩
    | _ + 3, hg => cases hg

theorem cell_spot {W : World} {a : Addr} {v : Value} (h : W.cell? a = some v) : a.spot = none := by
  unfold World.cell? at h
  split at h
  · split at h
    · cases h
    · rename_i hs
      cases ha : a.spot with
      | none => rfl
      | some z => rw [ha] at hs; exact absurd rfl hs
  · cases h
end Go.Mini
