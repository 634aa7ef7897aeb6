/- AS, the seat of DependGrows: the program's facts. -/
import Derived.Test.YtgihgeppdllnmaaG4T
import Derived.Test.YtgihgeppdllnmaaAs24
import Derived.Test.YtgihgeppdllnmaaG4Shelf
namespace Go.AS.G4
open Go.Proofs
set_option linter.all false
theorem named : ∀ (f : FuncId) (fn : Func), Try.prog.funcs[f]? = some fn → fn.body.isNone = false → (fn.name == "runtime.NumGoroutine") = false := named_of (by kernel_rfl)
theorem progOk : ProgOk Try.prog cx := {
  ok := .of (by kernel_rfl)
  mix := by kernel_rfl
  named := named
  prim := by
    intro f p h
    have h : asc [(43, Prim.contains), (47, .cut), (28, .join)] f = some p := h
    simp only [asc] at h
    cases h1 : Nat.beq 43 f with
    | true =>
      rw [h1] at h; injection h with h; subst h; have := beq_eq h1; subst this
      exact prim_contains (enter_of named Try.func43 (by kernel_rfl)) fun s c w => Try.strings_Contains_one s c w
    | false =>
      cases h2 : Nat.beq 47 f with
      | true =>
        rw [h1, h2] at h; injection h with h; subst h; have := beq_eq h2; subst this
        exact prim_cut (enter_of named Try.func47 (by kernel_rfl)) fun s c w hs => strings_Cut_one Try.lays145 s c w hs
      | false =>
        cases h4 : Nat.beq 28 f with
        | true =>
          rw [h1, h2, h4] at h; injection h with h; subst h; have := beq_eq h4; subst this
          exact prim_join (enter_of named Try.func28 (by kernel_rfl)) (fun a c sep w => Try.strings_Join_none a c sep w) (fun bk o c xs sep w h1 h2 h3 h4 h5 => Try.strings_Join bk o c xs sep w h1 h2 h3 h4 h5)
        | false => rw [h1, h2, h4] at h; cases h }
end Go.AS.G4
