/- AS, the seat of law 4: types without parameters; replacing twice. -/
import Derived.Test.YtnodfpndnpeedaaQ4M
namespace Go.AS.Q4
open Go.Proofs
set_option linter.all false

mutual
def closed : Ty → Bool
  | .mk n l => cond (!isParam n) (closedL l) false
def closedL : List Ty → Bool
  | [] => true
  | t :: l => cond (closed t) (closedL l) false
end
theorem closedL_iff : ∀ {l : List Ty}, closedL l = true ↔ ∀ t, t ∈ l → closed t = true
  | [] => by simp [closedL]
  | t :: l => by
    have ih := closedL_iff (l := l)
    simp only [closedL, List.mem_cons, forall_eq_or_imp]
    cases h : closed t <;> simp [ih]
theorem R60 {t : Ty} (h : R 27 [t.av] [] = some (.t (.bool (closed t)), [])) : R 60 [t.av] [] = some (.t (.bool (!closed t)), []) := by
  obtain ⟨n, l⟩ := t
  unfold R at *
  rw [av_mk] at *
  rw [call_unfold Try.func60, e60, h]
  simp only [Option.bind_some, AV.boolK, AV.tK, T.boolK, nilK]
theorem L78 {l : List Ty} (hl : l.length ≤ 1000) (ih : ∀ t, t ∈ l → R 27 [t.av] [] = some (.t (.bool (closed t)), [])) : ∀ (j k : Nat), j + k = l.length →
    ∃ i : Int, decide ((0 : Int) ≤ i) = !closedL (l.drop k) ∧ L78_0 R (K78_0 R) (rows l) (k : Int) = some (.t (.int .i64 i), []) := by
  intro j
  induction j with
  | zero =>
    intro k hk
    have h1 : ¬ (k : Int) < (l.length : Int) := by omega
    refine ⟨-1, ?_, ?_⟩
    · rw [List.drop_eq_nil_of_le (by omega : l.length ≤ k)]; rfl
    · rw [l78_0]
      simp only [rows_length]
      simp only [h1, decide_false, cond_false, x78_0_x1]
  | succ j ihj =>
    intro k hk
    obtain ⟨t, ht⟩ := at_of (l := l) (k := k) (by omega)
    have h60 := R60 (ih t (List.mem_of_getElem? ht))
    have h1 : (k : Int) < (l.length : Int) := by omega
    have h2 : (0 : Int) ≤ (k : Int) := by omega
    rw [drop_of ht]
    simp only [closedL]
    cases hc : closed t with
    | false =>
      rw [hc] at h60
      obtain ⟨n, a⟩ := t
      rw [av_mk] at h60
      refine ⟨k, by simp, ?_⟩
      rw [l78_0]
      simp only [rows_length]
      simp only [h1, h2, decide_true, cond_true, and_self, Int.toNat_natCast, nth_rows ht, nth, h60, Option.bind_some, AV.boolK, AV.tK, T.boolK, nilK, Bool.not_false, x78_0_x0]
    | true =>
      rw [hc] at h60
      obtain ⟨i, q1, q2⟩ := ihj (k + 1) (by omega)
      obtain ⟨n, a⟩ := t
      rw [av_mk] at h60
      refine ⟨i, q1, ?_⟩
      rw [l78_0]
      simp only [rows_length]
      simp only [h1, h2, decide_true, cond_true, and_self, Int.toNat_natCast, nth_rows ht, nth, h60, Option.bind_some, AV.boolK, AV.tK, T.boolK, nilK, Bool.not_true, cond_false]
      rw [wrap_succ (by omega)]
      exact q2
theorem R27 : ∀ t : Ty, t.Ok → R 27 [t.av] [] = some (.t (.bool (closed t)), []) := by
  refine Ty.ind fun n l ih hok => ?_
  have hl := hok.parts
  have h58 := R58 n
  obtain ⟨i, q1, q2⟩ := L78 hl.1 (fun t ht => ih t ht (hl.2 t ht)) l.length 0 (by omega)
  unfold R at *
  rw [av_mk, call_unfold Try.func27, e27, h58]
  simp only [Option.bind_some, AV.boolK, AV.tK, T.boolK, nilK, closed]
  cases isParam n with
  | true => rfl
  | false =>
    simp only [Bool.not_false, cond_true]
    rw [call_unfold Try.func59, e59, call_unfold Try.func78, e78, show (0 : Int) = ((0 : Nat) : Int) from rfl, q2]
    simp only [Option.bind_some, AV.int1K, AV.intK, AV.tK, T.intK, IntKind.same, cond_true, nilK, AV.boolK, T.boolK]
    rw [List.drop_zero] at q1
    rw [show decide (((0 : Nat) : Int) ≤ i) = !closedL l from q1, Bool.not_not]
/-- In a type without parameters nothing is replaced. -/
theorem pt_closed {names : List Str} {by' : List Ty} (hn : ∀ n, n ∈ names → isParam n = true) : ∀ t : Ty, closed t = true → pt names by' t = t := by
  refine Ty.ind fun n l ih h => ?_
  simp only [closed] at h
  cases hp : isParam n with
  | true => rw [hp] at h; cases h
  | false =>
    rw [hp] at h
    simp only [Bool.not_false, cond_true] at h
    rw [pt_mk]
    have hr : rp (.mk n l) names = none := by
      cases hr : rp (.mk n l) names with
      | none => rfl
      | some k =>
        obtain ⟨_, h2⟩ := rp_some hr
        have := hn n (List.mem_of_getElem? h2)
        rw [hp] at this
        cases this
    rw [hr]
    simp only
    rw [ptL_map, List.map_congr_left (g := id) fun t ht => ih t ht (closedL_iff.1 h t ht), List.map_id]
/-- Replacing twice is replacing once by what was replaced. -/
theorem pt_pt {N M : List Str} {A C : List Ty} (hlen : N.length = A.length) (hsub : ∀ m, m ∈ M → m ∈ N) : ∀ t : Ty, pt M C (pt N A t) = pt N (A.map (pt M C)) t := by
  refine Ty.ind fun n l ih => ?_
  rw [pt_mk, pt_mk]
  cases hr : rp (.mk n l) N with
  | some k =>
    obtain ⟨_, hk⟩ := rp_some hr
    obtain ⟨a, ha⟩ := at_of (l := A) (k := k) (by have := (List.getElem?_eq_some_iff.1 hk).1; omega)
    simp only
    rw [nth_get, ha, nth_get, List.getElem?_map, ha]
    rfl
  | none =>
    simp only
    rw [pt_mk]
    have hr2 : rp (.mk n (ptL N A l)) M = none := by
      cases l with
      | nil =>
        have h1 : ix N n = none := hr
        have h2 := ix_none.1 h1
        exact ix_none.2 fun hm => h2 (hsub n hm)
      | cons _ _ => rfl
    rw [hr2]
    simp only
    rw [ptL_map, ptL_map, ptL_map, List.map_map]
    exact congrArg _ (List.map_congr_left fun t ht => ih t ht)
end Go.AS.Q4
