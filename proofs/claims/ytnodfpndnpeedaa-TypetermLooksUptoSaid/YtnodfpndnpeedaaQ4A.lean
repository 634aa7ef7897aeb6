/- AS, the seat of law 4: types as trees; comparing types. -/
import Derived.Test.YtnodfpndnpeedaaQ4F
import Derived.Test.YtnodfpndnpeedaaQ4P
namespace Go.AS.Q4
open Go.Proofs
set_option linter.all false

noncomputable def R : CallF := call Try.prog cx

/-! ### Numbers and lists -/
theorem wrap_in {n : Int} (h : -9223372036854775808 ≤ n ∧ n ≤ 9223372036854775807) : IntKind.wrap .i64 n = n := IntWalk.i64_in n h
theorem wrap_succ {k : Nat} (h : k < 9223372036854775807) : IntKind.wrap .i64 ((k : Int) + 1) = ((k + 1 : Nat) : Int) := by rw [wrap_in (by omega)]; omega
theorem drop_of {α : Type} {l : List α} {k : Nat} {x : α} (h : l[k]? = some x) : l.drop k = x :: l.drop (k + 1) := by
  obtain ⟨hk, rfl⟩ := List.getElem?_eq_some_iff.1 h
  exact List.drop_eq_getElem_cons hk
theorem take_of {α : Type} {l : List α} {k : Nat} {x : α} (h : l[k]? = some x) : l.take (k + 1) = l.take k ++ [x] := by
  rw [List.take_add_one, h]; rfl
theorem at_of {α : Type} {l : List α} {k : Nat} (h : k < l.length) : ∃ x, l[k]? = some x := ⟨l[k], List.getElem?_eq_getElem h⟩
theorem nth_map {α β : Type} (d : β) (f : α → β) {l : List α} {k : Nat} {x : α} (h : l[k]? = some x) : nth d (l.map f) k = f x := by
  rw [nth_get, List.getElem?_map, h]; rfl

/-! ### Types -/
inductive Ty where
  | mk (name : Str) (args : List Ty)
def Ty.name : Ty → Str | .mk n _ => n
def Ty.args : Ty → List Ty | .mk _ l => l
mutual
def Ty.row : Ty → List T
  | .mk n l => [.str n, .sl 2 (rowsR l)]
def rowsR : List Ty → List (List T)
  | [] => []
  | t :: l => t.row :: rowsR l
end
def rows (l : List Ty) : List (List T) := l.map Ty.row
theorem rowsR_eq : ∀ l : List Ty, rowsR l = rows l
  | [] => rfl
  | t :: l => by simp only [rowsR, rowsR_eq l]; rfl
theorem row_mk (n : Str) (l : List Ty) : (Ty.mk n l).row = [.str n, .sl 2 (rows l)] := by simp only [Ty.row, rowsR_eq]
def Ty.av (t : Ty) : AV := .agg [.t (.str t.name), .t (.sl 2 (rows t.args))]
theorem av_mk (n : Str) (l : List Ty) : (Ty.mk n l).av = .agg [.t (.str n), .t (.sl 2 (rows l))] := rfl
theorem nth_rows {l : List Ty} {k : Nat} {n : Str} {a : List Ty} (h : l[k]? = some (.mk n a)) : nth [] (rows l) k = [.str n, .sl 2 (rows a)] := by
  rw [rows, nth_map [] Ty.row h, row_mk]
theorem rows_length (l : List Ty) : (rows l).length = l.length := by simp [rows]
theorem rows_append (l m : List Ty) : rows (l ++ m) = rows l ++ rows m := by simp [rows]
theorem rows_one (n : Str) (a : List Ty) : rows [.mk n a] = [[.str n, .sl 2 (rows a)]] := by simp [rows, row_mk]
theorem Ty.ind {P : Ty → Prop} (h : ∀ n l, (∀ t, t ∈ l → P t) → P (.mk n l)) : ∀ t, P t
  | .mk n l => h n l fun t ht => Ty.ind h t
termination_by t => SizeOf.sizeOf t
decreasing_by
  have := List.sizeOf_lt_of_mem ht
  simp only [Ty.mk.sizeOf_spec]
  omega
/-- No list of arguments is long. -/
inductive Ty.Ok : Ty → Prop
  | mk (n : Str) (l : List Ty) (hl : l.length ≤ 1000) (h : ∀ t, t ∈ l → Ty.Ok t) : Ty.Ok (.mk n l)
def OkL (l : List Ty) : Prop := l.length ≤ 1000 ∧ ∀ t, t ∈ l → t.Ok
theorem Ty.Ok.parts {n : Str} {l : List Ty} (h : (Ty.mk n l).Ok) : OkL l := by cases h with | mk _ _ hl h => exact ⟨hl, h⟩
theorem OkL.at {l : List Ty} (h : OkL l) {k : Nat} {t : Ty} (hk : l[k]? = some t) : t.Ok := h.2 t (List.mem_of_getElem? hk)

/-! ### Compare -/
mutual
def cmp : Ty → Ty → Int
  | .mk n l, .mk n' l' => cond (compareS n n' == 0) (cmpL l l') (compareS n n')
def cmpL : List Ty → List Ty → Int
  | [], [] => 0
  | [], _ :: _ => -1
  | _ :: _, [] => 1
  | t :: l, u :: m => cond (cmp t u == 0) (cmpL l m) (cmp t u)
end
theorem L40 {l m : List Ty} (hl : l.length ≤ 1000) (ih : ∀ t, t ∈ l → ∀ u, R 13 [t.av, u.av] [] = some (.t (.int .i64 (cmp t u)), [])) :
    ∀ (j k : Nat), j + k = l.length → L40_0 R (K40_0 R) (rows l) (rows m) (k : Int) = some (.t (.int .i64 (cmpL (l.drop k) (m.drop k))), []) := by
  intro j
  induction j with
  | zero =>
    intro k hk
    have h1 : ¬ (k : Int) < (l.length : Int) := by omega
    rw [l40_0]
    simp only [rows_length]
    simp only [h1, decide_false, cond_false, x40_0_x2, rows_length]
    rw [List.drop_eq_nil_of_le (by omega : l.length ≤ k)]
    by_cases h2 : l.length < m.length
    · obtain ⟨u, hu⟩ := at_of (l := m) (k := k) (by omega)
      have h3 : (l.length : Int) < (m.length : Int) := by omega
      rw [drop_of hu]
      simp only [h3, decide_true, cond_true, cmpL]
    · rw [List.drop_eq_nil_of_le (by omega : m.length ≤ k)]
      have h3 : ¬ (l.length : Int) < (m.length : Int) := by omega
      simp only [h3, decide_false, cond_false, cmpL]
  | succ j ihj =>
    intro k hk
    obtain ⟨t, ht⟩ := at_of (l := l) (k := k) (by omega)
    have iht := ih t (List.mem_of_getElem? ht)
    obtain ⟨n, a⟩ := t
    have h1 : (k : Int) < (l.length : Int) := by omega
    have h2 : (0 : Int) ≤ (k : Int) ∧ (k : Int) < (l.length : Int) := ⟨by omega, h1⟩
    rw [l40_0]
    simp only [rows_length]
    simp only [h1, h2, decide_true, cond_true, and_self, Int.toNat_natCast, nth_rows ht, nth]
    rw [drop_of ht]
    by_cases h3 : k < m.length
    · obtain ⟨u, hu⟩ := at_of (l := m) (k := k) h3
      have iht := iht u
      obtain ⟨n', a'⟩ := u
      have h4 : ¬ (m.length : Int) ≤ (k : Int) := by omega
      have h5 : (k : Int) < (m.length : Int) := by omega
      rw [av_mk, av_mk] at iht
      simp only [h4, h5, h2.1, decide_true, decide_false, cond_true, cond_false, and_self, nth_rows hu, nth, iht, Option.bind_some, AV.int1K, AV.intK, AV.tK, T.intK, IntKind.same, nilK]
      rw [drop_of hu]
      simp only [cmpL]
      cases hc : (cmp (.mk n a) (.mk n' a') == 0) with
      | true =>
        simp only [Bool.not_true, cond_false, cond_true]
        rw [wrap_succ (by omega)]
        exact ihj (k + 1) (by omega)
      | false => simp only [Bool.not_false, cond_false, cond_true, x40_0_x1]
    · have h4 : (m.length : Int) ≤ (k : Int) := by omega
      simp only [h4, decide_true, cond_true, x40_0_x0]
      rw [List.drop_eq_nil_of_le (by omega : m.length ≤ k)]
      simp only [cmpL]
theorem R13 : ∀ t : Ty, t.Ok → ∀ u, R 13 [t.av, u.av] [] = some (.t (.int .i64 (cmp t u)), []) := by
  refine Ty.ind fun n l ih hok u => ?_
  obtain ⟨n', m⟩ := u
  have hl := hok.parts
  unfold R
  rw [av_mk, av_mk, call_unfold Try.func13, e13]
  simp only [cmp]
  cases hc : (compareS n n' == 0) with
  | false => simp only [Bool.not_false, cond_true, cond_false]
  | true =>
    simp only [Bool.not_true, cond_true, cond_false]
    rw [call_unfold Try.func40, e40]
    have := L40 (m := m) hl.1 (fun t ht u => ih t ht (hl.2 t ht) u) l.length 0 (by omega)
    unfold R at this
    rw [show (0 : Int) = ((0 : Nat) : Int) from rfl, this]
    simp only [Option.bind_some, AV.int1K, AV.intK, AV.tK, T.intK, IntKind.same, nilK, cond_true, List.drop_zero]

/-! ### Same -/
mutual
def same : Ty → Ty → Bool
  | .mk n l, .mk n' l' => n == n' && sameL l l'
def sameL : List Ty → List Ty → Bool
  | [], [] => true
  | t :: l, u :: m => same t u && sameL l m
  | _, _ => false
end
theorem sameL_len : ∀ {l m : List Ty}, l.length ≠ m.length → sameL l m = false
  | [], [], h => absurd rfl h
  | [], _ :: _, _ => by simp [sameL]
  | _ :: _, [], _ => by simp [sameL]
  | t :: l, u :: m, h => by
    simp only [sameL]
    rw [sameL_len (by simpa using h), Bool.and_false]
theorem L41 {l m : List Ty} (hl : l.length ≤ 1000) (hm : l.length = m.length) (ih : ∀ t, t ∈ l → ∀ u, R 14 [t.av, u.av] [] = some (.t (.bool (same t u)), [])) :
    ∀ (j k : Nat), j + k = l.length → L41_0 R (K41_0 R) (rows m) (rows l) (k : Int) = some (.t (.bool (sameL (l.drop k) (m.drop k))), []) := by
  intro j
  induction j with
  | zero =>
    intro k hk
    have h1 : ¬ (k : Int) < (l.length : Int) := by omega
    rw [l41_0]
    simp only [rows_length]
    simp only [h1, decide_false, cond_false, x41_0_x1]
    rw [List.drop_eq_nil_of_le (by omega : l.length ≤ k), List.drop_eq_nil_of_le (by omega : m.length ≤ k)]
    simp only [sameL]
  | succ j ihj =>
    intro k hk
    obtain ⟨t, ht⟩ := at_of (l := l) (k := k) (by omega)
    obtain ⟨u, hu⟩ := at_of (l := m) (k := k) (by omega)
    have iht := ih t (List.mem_of_getElem? ht) u
    obtain ⟨n, a⟩ := t
    obtain ⟨n', a'⟩ := u
    have h1 : (k : Int) < (l.length : Int) := by omega
    have h0 : (0 : Int) ≤ (k : Int) := by omega
    have h5 : (k : Int) < (m.length : Int) := by omega
    rw [av_mk, av_mk] at iht
    rw [l41_0]
    simp only [rows_length]
    simp only [h0, h1, h5, decide_true, cond_true, and_self, Int.toNat_natCast, nth_rows ht, nth_rows hu, nth, iht, Option.bind_some, AV.boolK, AV.tK, T.boolK, nilK]
    rw [drop_of ht, drop_of hu]
    simp only [sameL]
    cases hc : same (.mk n a) (.mk n' a') with
    | true =>
      simp only [Bool.not_true, cond_false, Bool.true_and]
      rw [wrap_succ (by omega)]
      exact ihj (k + 1) (by omega)
    | false => simp only [Bool.not_false, cond_true, x41_0_x0, Bool.false_and]
theorem R14 : ∀ t : Ty, t.Ok → ∀ u, R 14 [t.av, u.av] [] = some (.t (.bool (same t u)), []) := by
  refine Ty.ind fun n l ih hok u => ?_
  obtain ⟨n', m⟩ := u
  have hl := hok.parts
  unfold R
  rw [av_mk, av_mk, call_unfold Try.func14, e14]
  simp only [same]
  cases hc : (n == n') with
  | false => simp only [cond_false, Bool.false_and]
  | true =>
    simp only [cond_true, Bool.true_and]
    rw [call_unfold Try.func41, e41]
    simp only [rows_length]
    by_cases hlen : l.length = m.length
    · have h1 : (((l.length : Int) == (m.length : Int))) = true := by rw [beq_iff_eq]; omega
      simp only [h1, Bool.not_true, cond_false]
      have := L41 (m := m) hl.1 hlen (fun t ht u => ih t ht (hl.2 t ht) u) l.length 0 (by omega)
      unfold R at this
      rw [show (0 : Int) = ((0 : Nat) : Int) from rfl, this]
      simp only [Option.bind_some, AV.boolK, AV.tK, T.boolK, nilK, List.drop_zero]
    · have h1 : (((l.length : Int) == (m.length : Int))) = false := by rw [beq_eq_false_iff_ne]; omega
      simp only [h1, Bool.not_false, cond_true, Option.bind_some, AV.boolK, AV.tK, T.boolK, nilK, sameL_len hlen]
end Go.AS.Q4
