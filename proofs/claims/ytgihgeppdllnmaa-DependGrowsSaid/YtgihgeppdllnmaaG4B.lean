/- AS, the seat of DependGrows: copies; whether a type is in a list; visits. Printed by mkg4b.py. -/
import Derived.Test.YtgihgeppdllnmaaG4A
import Derived.Test.YtgihgeppdllnmaaG4L
namespace Go.AS.G4
open Go.Proofs
set_option linter.all false

theorem L14 {n : Str} {l : List Ty} (hl : l.length ≤ 1000) (ih : ∀ t, t ∈ l → R 14 [t.av] [] = some (t.av, [])) : ∀ (j k : Nat), j + k = l.length → L14_0 R (K14_0 R) (rows l) n (rows (l.take k)) (k : Int) = some ((Ty.mk n l).av, []) := by
  intro j
  induction j with
  | zero =>
    intro k hk
    have h1 : ¬ (k : Int) < (l.length : Int) := by omega
    rw [l14_0]
    simp only [rows_length]
    simp only [h1, decide_false, cond_false, x14_0_x0]
    rw [List.take_of_length_le (by omega : l.length ≤ k)]
    rfl
  | succ j ihj =>
    intro k hk
    obtain ⟨t, ht⟩ := at_of (l := l) (k := k) (by omega)
    have iht := ih t (List.mem_of_getElem? ht)
    have hta := take_of ht
    obtain ⟨n', a⟩ := t
    have h1 : (k : Int) < (l.length : Int) := by omega
    have h2 : (0 : Int) ≤ (k : Int) := by omega
    have b1 : Nat.ble ((l.take k).length + 1) (lim 40) = true := by rw [Nat.ble_eq, lim40]; simp; omega
    rw [l14_0]
    simp only [rows_length]
    rw [av_mk] at iht
    simp only [h1, h2, decide_true, cond_true, and_self, Int.toNat_natCast, nth_rows ht, nth, iht, Option.bind_some, AV.aggK, consK, AV.strK, AV.tK, T.strK, AV.sl1K, T.slK, Nat.beq, nilK, List.length_cons, List.length_nil, Nat.zero_add, b1]
    rw [wrap_succ (by omega)]
    have := ihj (k + 1) (by omega)
    rw [hta, rows_append, rows_one] at this
    exact this
theorem R14 : ∀ t : Ty, t.Ok → R 14 [t.av] [] = some (t.av, []) := by
  refine Ty.ind fun n l ih hok => ?_
  have hl := hok.parts
  have := L14 (n := n) hl.1 (fun t ht => ih t ht (hl.2 t ht)) l.length 0 (by omega)
  unfold R at *
  rw [av_mk, call_unfold Try.func14, e14]
  exact this
theorem R20 (c t : Ty) (hc : c.Ok) : R 20 [t.av, .t (.pt 2 [.str c.name, .sl 2 (rows c.args)])] [] = some (.t (.bool (same c t)), []) := by
  have h17 := R17 c hc t
  obtain ⟨n, l⟩ := t
  obtain ⟨n', l'⟩ := c
  unfold R at *
  rw [av_mk] at *
  rw [av_mk] at h17
  simp only [Ty.name, Ty.args]
  rw [call_unfold Try.func20, e20, h17]
  simp only [Option.bind_some, AV.boolK, AV.tK, T.boolK, nilK]
theorem L15_20 {c : Ty} (hc : c.Ok) {l : List Ty} (hl : l.length ≤ 100000) : ∀ (j k : Nat), j + k = l.length →
    ∃ i : Int, decide ((0 : Int) ≤ i) = (l.drop k).any (same c) ∧ L15_1_0 R (K15_1_0 R) (rows l) c.name (rows c.args) (k : Int) = some (.t (.int .i64 i), []) := by
  intro j
  induction j with
  | zero =>
    intro k hk
    have h1 : ¬ (k : Int) < (l.length : Int) := by omega
    refine ⟨-1, ?_, ?_⟩
    · rw [List.drop_eq_nil_of_le (by omega : l.length ≤ k)]; rfl
    · rw [l15_1_0]
      simp only [rows_length]
      simp only [h1, decide_false, cond_false, x15_1_0_x1]
  | succ j ihj =>
    intro k hk
    obtain ⟨t, ht⟩ := at_of (l := l) (k := k) (by omega)
    have h60 := R20 c t hc
    have h1 : (k : Int) < (l.length : Int) := by omega
    have h2 : (0 : Int) ≤ (k : Int) := by omega
    rw [drop_of ht, List.any_cons]
    cases hs : same c t with
    | true =>
      rw [hs] at h60
      obtain ⟨n, a⟩ := t
      rw [av_mk] at h60
      refine ⟨k, by simp, ?_⟩
      rw [l15_1_0]
      simp only [rows_length]
      simp only [h1, h2, decide_true, cond_true, and_self, Int.toNat_natCast, nth_rows ht, nth, h60, Option.bind_some, AV.boolK, AV.tK, T.boolK, nilK, x15_1_0_x0]
    | false =>
      rw [hs] at h60
      obtain ⟨i, q1, q2⟩ := ihj (k + 1) (by omega)
      obtain ⟨n, a⟩ := t
      rw [av_mk] at h60
      refine ⟨i, by rw [q1, Bool.false_or], ?_⟩
      rw [l15_1_0]
      simp only [rows_length]
      simp only [h1, h2, decide_true, cond_true, and_self, Int.toNat_natCast, nth_rows ht, nth, h60, Option.bind_some, AV.boolK, AV.tK, T.boolK, nilK, cond_false]
      rw [wrap_succ (by omega)]
      exact q2
theorem R19_20 (c : Ty) (hc : c.Ok) {l : List Ty} (hl : l.length ≤ 100000) : R 19 [.t (.sl 2 (rows l)), .clo 20 [.t (.pt 2 [.str c.name, .sl 2 (rows c.args)])]] [] = some (.t (.bool (l.any (same c))), []) := by
  obtain ⟨i, q1, q2⟩ := L15_20 hc hl l.length 0 (by omega)
  unfold R at *
  rw [call_unfold Try.func19, e19, call_unfold Try.func15, e15_1, show (0 : Int) = ((0 : Nat) : Int) from rfl, q2]
  simp only [Option.bind_some, AV.int1K, AV.intK, AV.tK, T.intK, IntKind.same, cond_true, nilK]
  rw [List.drop_zero] at q1
  rw [show decide (((0 : Nat) : Int) ≤ i) = l.any (same c) from q1]
theorem R26 (c t : Ty) (hc : c.Ok) : R 26 [t.av, .t (.pt 2 [.str c.name, .sl 2 (rows c.args)])] [] = some (.t (.bool (same c t)), []) := by
  have h17 := R17 c hc t
  obtain ⟨n, l⟩ := t
  obtain ⟨n', l'⟩ := c
  unfold R at *
  rw [av_mk] at *
  rw [av_mk] at h17
  simp only [Ty.name, Ty.args]
  rw [call_unfold Try.func26, e26, h17]
  simp only [Option.bind_some, AV.boolK, AV.tK, T.boolK, nilK]
theorem L15_26 {c : Ty} (hc : c.Ok) {l : List Ty} (hl : l.length ≤ 100000) : ∀ (j k : Nat), j + k = l.length →
    ∃ i : Int, decide ((0 : Int) ≤ i) = (l.drop k).any (same c) ∧ L15_2_0 R (K15_2_0 R) (rows l) c.name (rows c.args) (k : Int) = some (.t (.int .i64 i), []) := by
  intro j
  induction j with
  | zero =>
    intro k hk
    have h1 : ¬ (k : Int) < (l.length : Int) := by omega
    refine ⟨-1, ?_, ?_⟩
    · rw [List.drop_eq_nil_of_le (by omega : l.length ≤ k)]; rfl
    · rw [l15_2_0]
      simp only [rows_length]
      simp only [h1, decide_false, cond_false, x15_2_0_x1]
  | succ j ihj =>
    intro k hk
    obtain ⟨t, ht⟩ := at_of (l := l) (k := k) (by omega)
    have h60 := R26 c t hc
    have h1 : (k : Int) < (l.length : Int) := by omega
    have h2 : (0 : Int) ≤ (k : Int) := by omega
    rw [drop_of ht, List.any_cons]
    cases hs : same c t with
    | true =>
      rw [hs] at h60
      obtain ⟨n, a⟩ := t
      rw [av_mk] at h60
      refine ⟨k, by simp, ?_⟩
      rw [l15_2_0]
      simp only [rows_length]
      simp only [h1, h2, decide_true, cond_true, and_self, Int.toNat_natCast, nth_rows ht, nth, h60, Option.bind_some, AV.boolK, AV.tK, T.boolK, nilK, x15_2_0_x0]
    | false =>
      rw [hs] at h60
      obtain ⟨i, q1, q2⟩ := ihj (k + 1) (by omega)
      obtain ⟨n, a⟩ := t
      rw [av_mk] at h60
      refine ⟨i, by rw [q1, Bool.false_or], ?_⟩
      rw [l15_2_0]
      simp only [rows_length]
      simp only [h1, h2, decide_true, cond_true, and_self, Int.toNat_natCast, nth_rows ht, nth, h60, Option.bind_some, AV.boolK, AV.tK, T.boolK, nilK, cond_false]
      rw [wrap_succ (by omega)]
      exact q2
theorem R19_26 (c : Ty) (hc : c.Ok) {l : List Ty} (hl : l.length ≤ 100000) : R 19 [.t (.sl 2 (rows l)), .clo 26 [.t (.pt 2 [.str c.name, .sl 2 (rows c.args)])]] [] = some (.t (.bool (l.any (same c))), []) := by
  obtain ⟨i, q1, q2⟩ := L15_26 hc hl l.length 0 (by omega)
  unfold R at *
  rw [call_unfold Try.func19, e19_1, call_unfold Try.func15, e15_2, show (0 : Int) = ((0 : Nat) : Int) from rfl, q2]
  simp only [Option.bind_some, AV.int1K, AV.intK, AV.tK, T.intK, IntKind.same, cond_true, nilK]
  rw [List.drop_zero] at q1
  rw [show decide (((0 : Nat) : Int) ≤ i) = l.any (same c) from q1]

/-! ### Visits -/
def wh (W : List (List T)) (m : List Str) (p o : List (List T)) : Heap := [(0, .box [(.sl 9), .any, (.sl 2), (.sl 2)] [.t (T.sl 9 W), .mapp 1, .rowp 2 1 none, .rowp 3 1 none]), (1, .map m), (2, .row 1 2 24 p), (3, .row 1 2 24 o)]
/-- What a visit answers: is it the first one, the error, the texts seen. -/
def vis (m : List Str) (s : Str) : Bool × Int × List Str := cond (memS m s) (false, 0, m) (cond ((m.length : Int) == 300) (false, 4, m) (true, 0, addS m s))
theorem R12 (t : Ty) (hok : t.Ok) (hlen : (text t).length ≤ 100000000) (W : List (List T)) (m : List Str) (p o : List (List T)) :
    R 12 [.ptr 0 0, t.av] (wh W m p o) = some (.tup [.t (.bool (vis m (text t)).1), .t (.int .i64 (vis m (text t)).2.1)], wh W (vis m (text t)).2.2 p o) := by
  have h21 := R21 t hok hlen
  obtain ⟨n, l⟩ := t
  unfold R wh vis at *
  rw [av_mk] at *
  rw [call_unfold Try.func12, e12, h21]
  simp only [Option.bind_some, AV.strK, AV.tK, T.strK, nilK]
  cases memS m (text (.mk n l)) with
  | true => rfl
  | false =>
    simp only [cond_false]
    cases ((m.length : Int) == 300) <;> rfl
end Go.AS.G4
