/- A function that calls itself: as deep as one likes. -/
import Derived.Test.YtfieiaijdalkbaaGreatMU
namespace Go.Mini
variable {P : Program}
theorem sound_zero {f : FuncId} {fn : Func} {c : Code} {ps : List Ty} {rs : List RV} (hf : P.funcs[f]? = some fn) (hb : fn.body = some c) (hname : (fn.name == "runtime.NumGoroutine") = false) {g : HT ps → M (HR rs)} (hg : ∀ a h, g a h = none) : Sound P f (entry ps rs g) := by
 refine ⟨?_, ?_⟩
 ·intro args w
  unfold callFunc
  simp only [Sem.run_bind, run_program, Result.andThen_ok, hf]
  simp [hname, hb]
 ·intro args v h h' e
  simp only [Entry.run, entry] at e
  cases hd : HT.dec ps args with
  | none => rw [hd] at e; cases e
  | some a =>
   rw [hd] at e
   obtain ⟨r, h1, e1, _⟩ := bd_some e
   rw [hg a h] at e1
   cases e1
end Go.Mini
