/- AS, the seat of law 4: the program's facts. -/
import Derived.Test.YtnodfpndnpeedaaQ4T
import Derived.Test.YtnodfpndnpeedaaAs24
import Derived.Test.YtnodfpndnpeedaaQ4Shelf
namespace Go.AS.Q4
open Go.Proofs
set_option linter.all false
theorem named : ∀ (f : FuncId) (fn : Func), Try.prog.funcs[f]? = some fn → fn.body.isNone = false → (fn.name == "runtime.NumGoroutine") = false := named_of (by kernel_rfl)
theorem progOk : ProgOk Try.prog cx := {
  ok := .of (by kernel_rfl)
  mix := by kernel_rfl
  named := named
  prim := by
    intro f p h
    have h : asc [(61, Prim.contains), (65, .cut), (39, .compare), (42, .join)] f = some p := h
    simp only [asc] at h
    cases h1 : Nat.beq 61 f with
    | true =>
      rw [h1] at h; injection h with h; subst h; have := beq_eq h1; subst this
      exact prim_contains (enter_of named Try.func61 (by kernel_rfl)) fun s c w => Try.strings_Contains_one s c w
    | false =>
      cases h2 : Nat.beq 65 f with
      | true =>
        rw [h1, h2] at h; injection h with h; subst h; have := beq_eq h2; subst this
        exact prim_cut (enter_of named Try.func65 (by kernel_rfl)) fun s c w hs => strings_Cut_one Try.lays145 s c w hs
      | false =>
        cases h3 : Nat.beq 39 f with
        | true =>
          rw [h1, h2, h3] at h; injection h with h; subst h; have := beq_eq h3; subst this
          exact prim_compare (enter_of named Try.func39 (by kernel_rfl)) fun a b w => Try.strings_Compare a b w
        | false =>
          cases h4 : Nat.beq 42 f with
          | true =>
            rw [h1, h2, h3, h4] at h; injection h with h; subst h; have := beq_eq h4; subst this
            exact prim_join (enter_of named Try.func42 (by kernel_rfl)) (fun a c sep w => Try.strings_Join_none a c sep w) (fun bk o c xs sep w h1 h2 h3 h4 h5 => Try.strings_Join bk o c xs sep w h1 h2 h3 h4 h5)
          | false => rw [h1, h2, h3, h4] at h; cases h }
end Go.AS.Q4
