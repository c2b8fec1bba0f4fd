/- All single operations in one; regions. -/
import Derived.Test.YtajahediblcfeaaML3
namespace Go.Mini
universe u

section
variable {P : Program} {β : Type} {s : S} {res : β × Hp} {next : Act → World → Prop} {Q : Exit → Act → World → Prop} {C : List (Nat × Entry)} {priv : List Nat}

theorem s_lookup {k : Fr → M β} {type : TypeId} {pos : String} {after : Array Edge} {guard : Option (Nat × Bool)} {ins : Ins} {d : Nat} {t : TypeId} {m kk : Operand} {okk : Bool} (ok : Ok s)
    (hc : compOp P priv ⟨some d, .lookup t m kk okk, type, pos, after, guard⟩ = some ins) (hn : insOk s.t.size ins = true) (e : evIns C ins s.fr k s.h = some res) (h : After s ins.dst k res next) :
    (⟨some d, .lookup t m kk okk, type, pos, after, guard⟩ : Oper).wp P ⟨s.t, []⟩ s.w next Q := by
  cases hc

theorem s_mapUpdate {k : Fr → M β} {type : TypeId} {pos : String} {after : Array Edge} {guard : Option (Nat × Bool)} {ins : Ins} {t : TypeId} {m kk x : Operand} (ok : Ok s)
    (hc : compOp P priv ⟨none, .mapUpdate t m kk x, type, pos, after, guard⟩ = some ins) (hn : insOk s.t.size ins = true) (e : evIns C ins s.fr k s.h = some res) (h : After s ins.dst k res next) :
    (⟨none, .mapUpdate t m kk x, type, pos, after, guard⟩ : Oper).wp P ⟨s.t, []⟩ s.w next Q := by
  cases hc

theorem s_delete {k : Fr → M β} {type : TypeId} {pos : String} {after : Array Edge} {guard : Option (Nat × Bool)} {ins : Ins} {d : Nat} {args : Array Operand} {argTypes : Array TypeId} (ok : Ok s)
    (hc : compOp P priv ⟨some d, .call ⟨.builtin .delete, args, argTypes⟩, type, pos, after, guard⟩ = some ins) (hn : insOk s.t.size ins = true) (e : evIns C ins s.fr k s.h = some res) (h : After s ins.dst k res next) :
    (⟨some d, .call ⟨.builtin .delete, args, argTypes⟩, type, pos, after, guard⟩ : Oper).wp P ⟨s.t, []⟩ s.w next Q := by
  cases hc

theorem ins_sound {k : Fr → M β} (hC : ∀ f en, look C f = some en → Sound P f en) {o : Oper} {ins : Ins} (ok : Ok s) (hc : compOp P priv o = some ins) (hn : insOk s.t.size ins = true) (e : evIns C ins s.fr k s.h = some res) (h : After s ins.dst k res next) :
    o.wp P ⟨s.t, []⟩ s.w next Q := by
  obtain ⟨dst, op, type, pos, after, guard⟩ := o
  cases dst with
  | none =>
    cases op with
    | store t a x => exact s_store ok hc hn e h
    | mapUpdate t m kk x => exact s_mapUpdate ok hc hn e h
    | _ => cases hc
  | some d =>
    cases op with
    | move x => exact s_move ok hc hn e h
    | assign x => exact s_assign ok hc hn e h
    | unOp op t x => exact s_unOp ok hc hn e h
    | binOp op t x y u => exact s_binOp ok hc hn e h
    | convert a b x => exact s_convert ok hc hn e h
    | extract x i => exact s_extract ok hc hn e h
    | alloc t => exact s_alloc ok hc hn e h
    | box t x => exact s_box ok hc hn e h
    | build t parts => exact s_build ok hc hn e h
    | buildSlice t len parts => exact s_buildSlice ok hc hn e h
    | load t x => exact s_load ok hc hn e h
    | nilCheck x => exact s_nilCheck ok hc hn e h
    | fieldAddr t x i => exact s_fieldAddr ok hc hn e h
    | field t x i => exact s_field ok hc hn e h
    | indexAddr t x i => exact s_indexAddr ok hc hn e h
    | index t x i => exact s_index ok hc hn e h
    | slice t x lo hi mx =>
      cases mx with
      | none => exact s_slice ok hc hn e h
      | some m => cases hc
    | makeSlice t a b => exact s_makeSlice ok hc hn e h
    | makeMap t r =>
      cases r with
      | none => exact s_makeMap ok hc hn e h
      | some r => cases hc
    | lookup t m kk okk => exact s_lookup ok hc hn e h
    | makeFunc fn first caps =>
      cases fn with
      | func f => exact s_makeFunc ok hc hn e h
      | _ => cases hc
    | makeInterface t x => exact s_makeInterface ok hc hn e h
    | call c =>
      obtain ⟨callee, args, argTypes⟩ := c
      cases callee with
      | value f =>
        cases f with
        | func f => exact s_call_func ok hC hc hn e h
        | tmp n => exact s_call_tmp ok hC hc hn e h
        | _ => cases hc
      | invoke r m => cases hc
      | builtin b =>
        cases b with
        | len => exact s_len ok hc hn e h
        | min => exact s_min ok hc hn e h
        | max => exact s_max ok hc hn e h
        | append => exact s_append ok hc hn e h
        | copy => exact s_copy ok hc hn e h
        | delete => exact s_delete ok hc hn e h
        | _ => cases hc
    | _ => cases hc

end
end Go.Mini
