/- AS, part 24: a program's own facts; a call from outside. -/
import Derived.Test.YtgihgeppdllnmaaAs22
import Derived.Test.YtgihgeppdllnmaaAs23
namespace Go.AS
open Go.RowKit
set_option linter.all false
def namedB (l : List Func) : Bool := match l with
  | [] => true
  | fn :: l => cond (cond fn.body.isNone true (!(fn.name == "runtime.NumGoroutine"))) (namedB l) false
theorem namedB_ok : ∀ {l : List Func}, namedB l = true → ∀ (f : Nat) fn, l[f]? = some fn → fn.body.isNone = false → (fn.name == "runtime.NumGoroutine") = false
  | a :: l, h, 0, fn, hf, hb => by
    simp at hf
    subst hf
    simp only [namedB, hb, cond_false] at h
    cases hn : (a.name == "runtime.NumGoroutine") with
    | false => rfl
    | true => rw [hn] at h; cases h
  | a :: l, h, f + 1, fn, hf, hb => by
    refine namedB_ok (l := l) ?_ f fn (by simpa using hf) hb
    simp only [namedB] at h
    cases hc : (cond a.body.isNone true (!(a.name == "runtime.NumGoroutine"))) with
    | false => rw [hc] at h; cases h
    | true => rw [hc] at h; exact h
theorem named_of {P : Program} (h : namedB P.funcs.toList = true) : ∀ (f : FuncId) (fn : Func), P.funcs[f]? = some fn → fn.body.isNone = false → (fn.name == "runtime.NumGoroutine") = false :=
  fun f fn hf hb => namedB_ok h f fn (by simpa using hf) hb
theorem enter_of {P : Program} (hn : ∀ (f : FuncId) (fn : Func), P.funcs[f]? = some fn → fn.body.isNone = false → (fn.name == "runtime.NumGoroutine") = false) {f : FuncId} {fn : Func} (hf : P.funcs[f]? = some fn) (hb : fn.body.isNone = false) : Enter P f := ⟨fn, hf, hn f fn hf hb, hb⟩
/-- A call from outside: nothing is open. -/
theorem call_top {P : Program} {cx : Cx} (hP : ProgOk P cx) {f : FuncId} {args : List AV} {v : AV} (hc : call P cx f args [] = some (v, [])) {w : World} {vs : List Value} (hv : ∀ cv, All2 (AR2 w (fun _ => False) cv []) vs args) :
    Calls P f vs.toArray w fun e w' => ∃ val X cv, e = .returned val ∧ AR3 w' X cv [] val v ∧ Below w.heap.size w w' := by
  have H : HRel w.heap.size w w (fun _ => False) (fun _ => .nilIface) [] := ⟨Below.refl _ _, Nat.le_refl _, fun b hb => hb.elim, fun k e hl => (by cases hl), fun k k' e e' b hl => (by cases hl)⟩
  refine (call_ok' hP f args [] (v, []) hc w.heap.size w w (fun _ => False) (fun _ => .nilIface) vs H (hv _)).mono ?_
  rintro e w' ⟨val, X, cv, he, H', A, _⟩
  exact ⟨val, X, cv, he, A, H'.below⟩
theorem call_bool {P : Program} {cx : Cx} (hP : ProgOk P cx) {f : FuncId} {args : List AV} {b : Bool} (hc : call P cx f args [] = some (.t (.bool b), [])) {w : World} {vs : List Value} (hv : ∀ cv, All2 (AR2 w (fun _ => False) cv []) vs args) :
    Calls P f vs.toArray w fun e w' => e = .returned (.bool b) ∧ Below w.heap.size w w' := by
  refine (call_top hP hc hv).mono ?_
  rintro e w' ⟨val, X, cv, he, A, hb⟩
  have A : TR w' X val (.bool b) := A
  cases A
  exact ⟨he, hb⟩
end Go.AS
