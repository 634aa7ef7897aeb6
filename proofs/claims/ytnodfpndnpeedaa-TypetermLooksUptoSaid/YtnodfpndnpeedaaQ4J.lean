/- AS, the seat of law 4: the references of size, copies, parameters, equality, replacing. -/
import Derived.Test.YtnodfpndnpeedaaQ4H
namespace Go.AS.Q4
open Go.Proofs
set_option linter.all false

theorem L32 {n : Str} {l : List Ty} (hl : l.length ≤ 1000) (hs : 1 + sizeL l ≤ 1000000000000) (ih : ∀ t, t ∈ l → R 32 [t.av] [] = some (.t (.int .i64 (size t)), [])) : ∀ (j k m : Nat), j + k = l.length → m + sizeL (l.drop k) = 1 + sizeL l →
    L32_0 R (K32_0 R) (rows l) n (m : Int) (k : Int) = some (.t (.int .i64 ((1 + sizeL l : Nat) : Int)), []) := by
  intro j
  induction j with
  | zero =>
    intro k m hk hm
    have h1 : ¬ (k : Int) < (l.length : Int) := by omega
    rw [List.drop_eq_nil_of_le (by omega : l.length ≤ k)] at hm
    simp only [sizeL] at hm
    rw [l32_0]
    simp only [rows_length]
    simp only [h1, decide_false, cond_false, x32_0_x0]
    rw [← hm, Nat.add_zero]
  | succ j ihj =>
    intro k m hk hm
    obtain ⟨t, ht⟩ := at_of (l := l) (k := k) (by omega)
    have iht := ih t (List.mem_of_getElem? ht)
    rw [drop_of ht] at hm
    simp only [sizeL] at hm
    obtain ⟨n', a⟩ := t
    have h1 : (k : Int) < (l.length : Int) := by omega
    have h2 : (0 : Int) ≤ (k : Int) := by omega
    rw [l32_0]
    simp only [rows_length]
    rw [av_mk] at iht
    simp only [h1, h2, decide_true, cond_true, and_self, Int.toNat_natCast, nth_rows ht, nth, iht, Option.bind_some, AV.int1K, AV.intK, AV.tK, T.intK, IntKind.same, nilK]
    rw [wrap_succ (by omega), wrap_in (by omega), ← Int.natCast_add]
    exact ihj (k + 1) _ (by omega) (by omega)
theorem R32 : ∀ t : Ty, t.Ok → size t ≤ 1000000000000 → R 32 [t.av] [] = some (.t (.int .i64 (size t)), []) := by
  refine Ty.ind fun n l ih hok hs => ?_
  have hl := hok.parts
  simp only [size] at hs
  have := L32 (n := n) hl.1 hs (fun t ht => ih t ht (hl.2 t ht) (by have := size_mem ht; omega)) l.length 0 1 (by omega) (by simp)
  unfold R at *
  rw [av_mk, call_unfold Try.func32, e32]
  simp only [size]
  exact this
theorem L31 {n : Str} {l : List Ty} (hl : l.length ≤ 1000) (hs : depthL l ≤ 1000000000000) (ih : ∀ t, t ∈ l → R 31 [t.av] [] = some (.t (.int .i64 (depth t)), [])) : ∀ (j k m : Nat), j + k = l.length → max m (depthL (l.drop k)) = depthL l →
    L31_0 R (K31_0 R) (rows l) n (m : Int) (k : Int) = some (.t (.int .i64 ((1 + depthL l : Nat) : Int)), []) := by
  intro j
  induction j with
  | zero =>
    intro k m hk hm
    have h1 : ¬ (k : Int) < (l.length : Int) := by omega
    rw [List.drop_eq_nil_of_le (by omega : l.length ≤ k)] at hm
    simp only [depthL] at hm
    rw [l31_0]
    simp only [rows_length]
    simp only [h1, decide_false, cond_false, x31_0_x0]
    rw [wrap_in (by omega)]
    congr 5
    omega
  | succ j ihj =>
    intro k m hk hm
    obtain ⟨t, ht⟩ := at_of (l := l) (k := k) (by omega)
    have iht := ih t (List.mem_of_getElem? ht)
    rw [drop_of ht] at hm
    simp only [depthL] at hm
    obtain ⟨n', a⟩ := t
    have h1 : (k : Int) < (l.length : Int) := by omega
    have h2 : (0 : Int) ≤ (k : Int) := by omega
    rw [l31_0]
    simp only [rows_length]
    rw [av_mk] at iht
    simp only [h1, h2, decide_true, cond_true, and_self, Int.toNat_natCast, nth_rows ht, nth, iht, Option.bind_some, AV.int1K, AV.intK, AV.tK, T.intK, IntKind.same, nilK]
    have e : (bif decide ((m : Int) < (depth (.mk n' a) : Int)) then (depth (.mk n' a) : Int) else (m : Int)) = ((max m (depth (.mk n' a)) : Nat) : Int) := by
      by_cases h : m < depth (.mk n' a)
      · have : (m : Int) < (depth (.mk n' a) : Int) := by omega
        simp only [this, decide_true, cond_true]
        omega
      · have : ¬ (m : Int) < (depth (.mk n' a) : Int) := by omega
        simp only [this, decide_false, cond_false]
        omega
    rw [wrap_succ (by omega), e]
    exact ihj (k + 1) _ (by omega) (by omega)
theorem R31 : ∀ t : Ty, t.Ok → depth t ≤ 1000000000000 → R 31 [t.av] [] = some (.t (.int .i64 (depth t)), []) := by
  refine Ty.ind fun n l ih hok hs => ?_
  have hl := hok.parts
  simp only [depth] at hs
  have := L31 (n := n) hl.1 (by omega) (fun t ht => ih t ht (hl.2 t ht) (by have := depth_mem ht; omega)) l.length 0 0 (by omega) (by simp)
  unfold R at *
  rw [av_mk, call_unfold Try.func31, e31]
  simp only [depth]
  exact this

theorem L73 {n : Str} {l : List Ty} (hl : l.length ≤ 1000) (ih : ∀ t, t ∈ l → R 73 [t.av] [] = some (t.av, [])) : ∀ (j k : Nat), j + k = l.length → L73_0 R (K73_0 R) (rows l) n (rows (l.take k)) (k : Int) = some ((Ty.mk n l).av, []) := by
  intro j
  induction j with
  | zero =>
    intro k hk
    have h1 : ¬ (k : Int) < (l.length : Int) := by omega
    rw [l73_0]
    simp only [rows_length]
    simp only [h1, decide_false, cond_false, x73_0_x0]
    rw [List.take_of_length_le (by omega : l.length ≤ k)]
    rfl
  | succ j ihj =>
    intro k hk
    obtain ⟨t, ht⟩ := at_of (l := l) (k := k) (by omega)
    have iht := ih t (List.mem_of_getElem? ht)
    have hta := take_of ht
    obtain ⟨n', a⟩ := t
    have h1 : (k : Int) < (l.length : Int) := by omega
    have h2 : (0 : Int) ≤ (k : Int) := by omega
    have b1 : Nat.ble ((l.take k).length + 1) (lim 40) = true := by rw [Nat.ble_eq, lim40]; simp; omega
    rw [l73_0]
    simp only [rows_length]
    rw [av_mk] at iht
    simp only [h1, h2, decide_true, cond_true, and_self, Int.toNat_natCast, nth_rows ht, nth, iht, Option.bind_some, AV.aggK, consK, AV.strK, AV.tK, T.strK, AV.sl1K, T.slK, Nat.beq, nilK, List.length_cons, List.length_nil, Nat.zero_add, b1]
    rw [wrap_succ (by omega)]
    have := ihj (k + 1) (by omega)
    rw [hta, rows_append, rows_one] at this
    exact this
theorem R73 : ∀ t : Ty, t.Ok → R 73 [t.av] [] = some (t.av, []) := by
  refine Ty.ind fun n l ih hok => ?_
  have hl := hok.parts
  have := L73 (n := n) hl.1 (fun t ht => ih t ht (hl.2 t ht)) l.length 0 (by omega)
  unfold R at *
  rw [av_mk, call_unfold Try.func73, e73]
  exact this

theorem beq_swap (x s : Str) : (x == s) = (s == x) := by
  by_cases h : x = s
  · subst h; rfl
  · rw [beq_eq_false_iff_ne.2 h, beq_eq_false_iff_ne.2 (Ne.symm h)]
theorem L72 {l : List Str} {s : Str} (hl : l.length ≤ 100000) : ∀ (j k : Nat), j + k = l.length → L72_0 R (K72_0 R) s (strRows l) (k : Int) = some (.t (.int .i64 (match ix (l.drop k) s with | some i => ((k + i : Nat) : Int) | none => -1)), []) := by
  intro j
  induction j with
  | zero =>
    intro k hk
    have h1 : ¬ (k : Int) < (l.length : Int) := by omega
    rw [l72_0]
    simp only [strRows_length]
    simp only [h1, decide_false, cond_false, x72_0_x1]
    rw [List.drop_eq_nil_of_le (by omega : l.length ≤ k)]
    rfl
  | succ j ihj =>
    intro k hk
    obtain ⟨x, hx⟩ := at_of (l := l) (k := k) (by omega)
    have h1 : (k : Int) < (l.length : Int) := by omega
    have h2 : (0 : Int) ≤ (k : Int) := by omega
    rw [l72_0]
    simp only [strRows_length]
    simp only [h1, h2, decide_true, cond_true, and_self, Int.toNat_natCast, nth_strRows hx, nth, T.strK]
    rw [drop_of hx]
    simp only [ix]
    rw [beq_swap x s]
    cases hb : (s == x) with
    | true =>
      simp only [cond_true, x72_0_x0]
      rfl
    | false =>
      simp only [cond_false]
      rw [wrap_succ (by omega), ihj (k + 1) (by omega)]
      cases ix (l.drop (k + 1)) s with
      | none => rfl
      | some i => simp only [Option.map_some]; rw [show k + 1 + i = k + (i + 1) by omega]
theorem R72 {l : List Str} (hl : l.length ≤ 100000) (s : Str) : R 72 [.t (.sl 1 (strRows l)), .t (.str s)] [] = some (.t (.int .i64 (ixI l s)), []) := by
  have := L72 (s := s) hl l.length 0 (by omega)
  unfold R at *
  rw [call_unfold Try.func72, e72, show (0 : Int) = ((0 : Nat) : Int) from rfl, this]
  simp only [List.drop_zero, Nat.zero_add]
  rfl
theorem L48 {l : List Str} {s : Str} (hl : l.length ≤ 100000) : ∀ (j k : Nat), j + k = l.length → L48_0 R (K48_0 R) s (strRows l) (k : Int) = some (.t (.bool (decide (s ∈ l.drop k))), []) := by
  intro j
  induction j with
  | zero =>
    intro k hk
    have h1 : ¬ (k : Int) < (l.length : Int) := by omega
    rw [l48_0]
    simp only [strRows_length]
    simp only [h1, decide_false, cond_false, x48_0_x1]
    rw [List.drop_eq_nil_of_le (by omega : l.length ≤ k)]
    simp
  | succ j ihj =>
    intro k hk
    obtain ⟨x, hx⟩ := at_of (l := l) (k := k) (by omega)
    have h1 : (k : Int) < (l.length : Int) := by omega
    have h2 : (0 : Int) ≤ (k : Int) := by omega
    rw [l48_0]
    simp only [strRows_length]
    simp only [h1, h2, decide_true, cond_true, and_self, Int.toNat_natCast, nth_strRows hx, nth, T.strK]
    rw [drop_of hx]
    cases hb : (x == s) with
    | true =>
      rw [beq_iff_eq] at hb
      simp only [cond_true, x48_0_x0]
      simp [hb]
    | false =>
      rw [beq_eq_false_iff_ne] at hb
      simp only [cond_false]
      rw [wrap_succ (by omega), ihj (k + 1) (by omega)]
      have : decide (s ∈ x :: l.drop (k + 1)) = decide (s ∈ l.drop (k + 1)) := by
        rw [decide_eq_decide, List.mem_cons]
        exact ⟨fun h => h.resolve_left fun e => hb e.symm, fun h => .inr h⟩
      rw [this]
theorem R48 {l : List Str} (hl : l.length ≤ 100000) (s : Str) : R 48 [.t (.sl 1 (strRows l)), .t (.str s)] [] = some (.t (.bool (decide (s ∈ l))), []) := by
  have := L48 (s := s) hl l.length 0 (by omega)
  unfold R at *
  rw [call_unfold Try.func48, e48, show (0 : Int) = ((0 : Nat) : Int) from rfl, this]
  simp

/-! ### Equality -/
theorem L74 {l m : List Ty} (hl : l.length ≤ 1000) (hm : l.length = m.length) (ih : ∀ t, t ∈ l → ∀ u, R 51 [t.av, u.av] [] = some (.t (.bool (same t u)), [])) :
    ∀ (j k : Nat), j + k = l.length → L74_0 R (K74_0 R) (rows l) (rows m) (k : Int) = some (.t (.bool (sameL (l.drop k) (m.drop k))), []) := by
  intro j
  induction j with
  | zero =>
    intro k hk
    have h1 : ¬ (k : Int) < (l.length : Int) := by omega
    rw [l74_0]
    simp only [rows_length]
    simp only [h1, decide_false, cond_false, x74_0_x1]
    rw [List.drop_eq_nil_of_le (by omega : l.length ≤ k), List.drop_eq_nil_of_le (by omega : m.length ≤ k)]
    simp only [sameL]
  | succ j ihj =>
    intro k hk
    obtain ⟨t, ht⟩ := at_of (l := l) (k := k) (by omega)
    obtain ⟨u, hu⟩ := at_of (l := m) (k := k) (by omega)
    have iht := ih t (List.mem_of_getElem? ht) u
    obtain ⟨n, a⟩ := t
    obtain ⟨n', a'⟩ := u
    have h1 : (k : Int) < (l.length : Int) := by omega
    have h0 : (0 : Int) ≤ (k : Int) := by omega
    have h5 : (k : Int) < (m.length : Int) := by omega
    rw [av_mk, av_mk] at iht
    rw [l74_0]
    simp only [rows_length]
    simp only [h0, h1, h5, decide_true, cond_true, and_self, Int.toNat_natCast, nth_rows ht, nth_rows hu, nth, iht, Option.bind_some, AV.boolK, AV.tK, T.boolK, nilK]
    rw [drop_of ht, drop_of hu]
    simp only [sameL]
    cases hc : same (.mk n a) (.mk n' a') with
    | true =>
      simp only [Bool.not_true, cond_false, Bool.true_and]
      rw [wrap_succ (by omega)]
      exact ihj (k + 1) (by omega)
    | false => simp only [Bool.not_false, cond_true, x74_0_x0, Bool.false_and]
theorem R51 : ∀ t : Ty, t.Ok → ∀ u, R 51 [t.av, u.av] [] = some (.t (.bool (same t u)), []) := by
  refine Ty.ind fun n l ih hok u => ?_
  obtain ⟨n', m⟩ := u
  have hl := hok.parts
  unfold R
  rw [av_mk, av_mk, call_unfold Try.func51, e51]
  simp only [same]
  cases hc : (n == n') with
  | false => simp only [cond_false, Bool.false_and]
  | true =>
    simp only [cond_true, Bool.true_and]
    rw [call_unfold Try.func74, e74]
    simp only [rows_length]
    by_cases hlen : l.length = m.length
    · have h1 : (((l.length : Int) == (m.length : Int))) = true := by rw [beq_iff_eq]; omega
      simp only [h1, Bool.not_true, cond_false]
      have := L74 (m := m) hl.1 hlen (fun t ht u => ih t ht (hl.2 t ht) u) l.length 0 (by omega)
      unfold R at this
      rw [show (0 : Int) = ((0 : Nat) : Int) from rfl, this]
      simp only [Option.bind_some, AV.boolK, AV.tK, T.boolK, nilK, List.drop_zero]
    · have h1 : (((l.length : Int) == (m.length : Int))) = false := by rw [beq_eq_false_iff_ne]; omega
      simp only [h1, Bool.not_false, cond_true, Option.bind_some, AV.boolK, AV.tK, T.boolK, nilK, sameL_len hlen]
theorem R20 (t : Ty) (ht : t.Ok) (u : Ty) : R 20 [t.av, u.av] [] = some (.t (.bool (same t u)), []) := by
  have h := R51 t ht u
  obtain ⟨n, l⟩ := t
  obtain ⟨n', m⟩ := u
  unfold R at *
  rw [av_mk, av_mk] at *
  rw [call_unfold Try.func20, e20, h]
  simp only [Option.bind_some, AV.boolK, AV.tK, T.boolK, nilK]

/-! ### Replacing -/
theorem rp_mk (n : Str) (l : List Ty) (names : List Str) : rp (.mk n l) names = match l with | [] => ix names n | _ :: _ => none := rfl
section
variable {names : List Str} {by' : List Ty} (hlen : names.length = by'.length) (hn : names.length ≤ 1000)
include hlen hn
def GrowsR (names : List Str) (by' : List Ty) (t : Ty) : Prop := ∃ g : Int, (g ≤ 4096 → g = size (pt names by' t)) ∧ (4096 < g → 4096 < size (pt names by' t)) ∧ 0 ≤ g ∧ g ≤ size (pt names by' t) ∧
  R 49 [t.av, .t (.sl 1 (strRows names)), .t (.sl 1 (szRows by'))] [] = some (.t (.int .i64 g), [])
theorem L49 {n : Str} {l : List Ty} (hl : l.length ≤ 1000) (hs : 1 + sizeL (ptL names by' l) ≤ 1000000000000) (ih : ∀ t, t ∈ l → GrowsR names by' t) : ∀ (j k m : Nat), j + k = l.length → m + sizeL (ptL names by' (l.drop k)) = 1 + sizeL (ptL names by' l) → m ≤ 4096 →
    ∃ g : Int, (g ≤ 4096 → g = ((1 + sizeL (ptL names by' l) : Nat) : Int)) ∧ (4096 < g → 4096 < 1 + sizeL (ptL names by' l)) ∧ 0 ≤ g ∧ g ≤ ((1 + sizeL (ptL names by' l) : Nat) : Int) ∧
    L49_0 R (K49_0 R) (strRows names) (szRows by') (rows l) n (m : Int) (k : Int) = some (.t (.int .i64 g), []) := by
  intro j
  induction j with
  | zero =>
    intro k m hk hm hle
    have h1 : ¬ (k : Int) < (l.length : Int) := by omega
    rw [List.drop_eq_nil_of_le (by omega : l.length ≤ k)] at hm
    simp only [ptL, sizeL] at hm
    refine ⟨(m : Int), by omega, by omega, by omega, by omega, ?_⟩
    rw [l49_0]
    simp only [rows_length]
    simp only [h1, decide_false, cond_false, x49_0_x1]
  | succ j ihj =>
    intro k m hk hm hle
    obtain ⟨t, ht⟩ := at_of (l := l) (k := k) (by omega)
    obtain ⟨g, g1, g2, g3, g4, g5⟩ := ih t (List.mem_of_getElem? ht)
    rw [drop_of ht] at hm
    simp only [ptL, sizeL] at hm
    have next := fun (m' : Nat) hm' hle' => ihj (k + 1) m' (by omega) hm' hle'
    have h1 : (k : Int) < (l.length : Int) := by omega
    have h2 : (0 : Int) ≤ (k : Int) := by omega
    have hw : IntKind.wrap .i64 ((m : Int) + g) = (m : Int) + g := wrap_in (by omega)
    by_cases hg : (4096 : Int) < (m : Int) + g
    · refine ⟨4097, by omega, by omega, by omega, by omega, ?_⟩
      obtain ⟨n', a⟩ := t
      rw [l49_0]
      simp only [rows_length]
      rw [av_mk] at g5
      simp only [h1, h2, decide_true, cond_true, and_self, Int.toNat_natCast, nth_rows ht, nth, g5, Option.bind_some, AV.int1K, AV.intK, AV.tK, T.intK, IntKind.same, nilK, hw, hg, x49_0_x0]
    · have e := g1 (by omega)
      obtain ⟨g', q1, q2, q3, q4, q5⟩ := next (m + size (pt names by' t)) (by omega) (by omega)
      refine ⟨g', q1, q2, q3, q4, ?_⟩
      obtain ⟨n', a⟩ := t
      rw [l49_0]
      simp only [rows_length]
      rw [av_mk] at g5
      simp only [h1, h2, decide_true, decide_false, cond_true, cond_false, and_self, Int.toNat_natCast, nth_rows ht, nth, g5, Option.bind_some, AV.int1K, AV.intK, AV.tK, T.intK, IntKind.same, nilK, hw, hg]
      rw [wrap_succ (by omega)]
      rw [Int.natCast_add, ← e] at q5
      exact q5
theorem R49 : ∀ t : Ty, t.Ok → size (pt names by' t) ≤ 1000000000000 → GrowsR names by' t := by
  refine Ty.ind fun n l ih hok hs => ?_
  have hl := hok.parts
  have h72 := R72 (l := names) (by omega) n
  unfold GrowsR
  rw [pt_mk, rp_mk] at hs ⊢
  have main : (match l with | [] => ix names n | _ :: _ => none) = none → ∃ g : Int, (g ≤ 4096 → g = ((1 + sizeL (ptL names by' l) : Nat) : Int)) ∧ (4096 < g → 4096 < 1 + sizeL (ptL names by' l)) ∧ 0 ≤ g ∧ g ≤ ((1 + sizeL (ptL names by' l) : Nat) : Int) ∧
      L49_0 R (K49_0 R) (strRows names) (szRows by') (rows l) n 1 0 = some (.t (.int .i64 g), []) := by
    intro hr
    rw [hr] at hs
    simp only [size] at hs
    exact L49 (n := n) hlen hn hl.1 hs (fun t ht => ih t ht (hl.2 t ht) (by
      have : pt names by' t ∈ ptL names by' l := by rw [ptL_map]; exact List.mem_map.2 ⟨t, ht, rfl⟩
      have := size_mem this
      omega)) l.length 0 1 (by omega) (by simp) (by omega)
  cases l with
  | nil =>
    simp only at hs main ⊢
    cases hr : ix names n with
    | some k =>
      have hk := ix_lt hr
      obtain ⟨x, hx⟩ := at_of (l := by') (k := k) (by have := (List.getElem?_eq_some_iff.1 hk).1; omega)
      have hnx : nth (.mk [] []) by' k = x := by rw [nth_get, hx]; rfl
      rw [hr] at hs
      simp only [hnx] at hs ⊢
      refine ⟨size x, fun _ => rfl, by omega, by omega, by omega, ?_⟩
      have h1 : (0 : Int) ≤ (k : Int) := by omega
      have h2 : (k : Int) < (by'.length : Int) := by have := (List.getElem?_eq_some_iff.1 hx).1; omega
      unfold R at *
      rw [av_mk, call_unfold Try.func49, e49, h72]
      simp only [ixI, hr, Option.bind_some, AV.int1K, AV.intK, AV.tK, T.intK, IntKind.same, cond_true, nilK, rows_length, List.length_nil, szRows_length, h1, h2, and_self, decide_true, Int.toNat_natCast, nth_sz hx, nth, show ((((0 : Nat) : Int)) == (0 : Int)) = true from rfl]
    | none =>
      obtain ⟨g, q1, q2, q3, q4, q5⟩ := main hr
      simp only [size]
      refine ⟨g, q1, q2, q3, q4, ?_⟩
      unfold R at *
      rw [av_mk, call_unfold Try.func49, e49, h72]
      simp only [ixI, hr, Option.bind_some, AV.int1K, AV.intK, AV.tK, T.intK, IntKind.same, cond_true, nilK, show ¬ (0 : Int) ≤ -1 by omega, decide_false, cond_false]
      exact q5
  | cons a l =>
    obtain ⟨g, q1, q2, q3, q4, q5⟩ := main rfl
    simp only [size]
    refine ⟨g, q1, q2, q3, q4, ?_⟩
    have h0 : (((((a :: l).length : Nat) : Int)) == (0 : Int)) = false := by rw [beq_eq_false_iff_ne]; simp; omega
    unfold R at *
    rw [av_mk, call_unfold Try.func49, e49, h72]
    simp only [Option.bind_some, AV.int1K, AV.intK, AV.tK, T.intK, IntKind.same, cond_true, nilK, rows_length, h0, cond_false, q5]
    cases decide ((0 : Int) ≤ ixI names n) <;> rfl
theorem L50r {n : Str} {l : List Ty} (hl : l.length ≤ 1000) (ih : ∀ t, t ∈ l → R 50 [t.av, .t (.sl 1 (strRows names)), .t (.sl 2 (rows by'))] [] = some ((pt names by' t).av, [])) : ∀ (j k : Nat), j + k = l.length →
    L50_0 R (K50_0 R) (strRows names) (rows by') (rows l) n (rows (ptL names by' (l.take k))) (k : Int) = some ((Ty.mk n (ptL names by' l)).av, []) := by
  intro j
  induction j with
  | zero =>
    intro k hk
    have h1 : ¬ (k : Int) < (l.length : Int) := by omega
    rw [l50_0]
    simp only [rows_length]
    simp only [h1, decide_false, cond_false, x50_0_x0]
    rw [List.take_of_length_le (by omega : l.length ≤ k)]
    rfl
  | succ j ihj =>
    intro k hk
    obtain ⟨t, ht⟩ := at_of (l := l) (k := k) (by omega)
    have iht := ih t (List.mem_of_getElem? ht)
    have hta := take_of ht
    have next := ihj (k + 1) (by omega)
    rw [hta, ptL_map, List.map_append, List.map_cons, List.map_nil, rows_append] at next
    have h1 : (k : Int) < (l.length : Int) := by omega
    have h2 : (0 : Int) ≤ (k : Int) := by omega
    have b1 : Nat.ble ((ptL names by' (l.take k)).length + 1) (lim 40) = true := by rw [Nat.ble_eq, lim40, ptL_map]; simp; omega
    obtain ⟨n', a⟩ := t
    generalize pt names by' (.mk n' a) = u at iht next
    obtain ⟨nu, lu⟩ := u
    rw [l50_0]
    simp only [rows_length]
    rw [av_mk, av_mk] at iht
    simp only [h1, h2, decide_true, cond_true, and_self, Int.toNat_natCast, nth_rows ht, nth, iht, Option.bind_some, AV.aggK, consK, AV.strK, AV.tK, T.strK, AV.sl1K, T.slK, Nat.beq, nilK, List.length_cons, List.length_nil, Nat.zero_add, b1]
    rw [wrap_succ (by omega)]
    rw [rows_one, ← ptL_map] at next
    exact next
theorem R50r (hb : ∀ t, t ∈ by' → t.Ok) : ∀ t : Ty, t.Ok → R 50 [t.av, .t (.sl 1 (strRows names)), .t (.sl 2 (rows by'))] [] = some ((pt names by' t).av, []) := by
  refine Ty.ind fun n l ih hok => ?_
  have hl := hok.parts
  have h72 := R72 (l := names) (by omega) n
  have main := L50r (n := n) hlen hn hl.1 (fun t ht => ih t ht (hl.2 t ht)) l.length 0 (by omega)
  rw [pt_mk, rp_mk]
  cases l with
  | nil =>
    simp only
    cases hr : ix names n with
    | some k =>
      have hk := ix_lt hr
      obtain ⟨x, hx⟩ := at_of (l := by') (k := k) (by have := (List.getElem?_eq_some_iff.1 hk).1; omega)
      have hnx : nth (.mk [] []) by' k = x := by rw [nth_get, hx]; rfl
      have h73 := R73 x (hb x (List.mem_of_getElem? hx))
      have h1 : (0 : Int) ≤ (k : Int) := by omega
      have h2 : (k : Int) < (by'.length : Int) := by have := (List.getElem?_eq_some_iff.1 hx).1; omega
      simp only [hnx]
      obtain ⟨nx, lx⟩ := x
      unfold R at *
      rw [av_mk] at *
      rw [call_unfold Try.func50, e50, h72]
      simp only [ixI, hr, Option.bind_some, AV.int1K, AV.intK, AV.tK, T.intK, IntKind.same, cond_true, nilK, rows_length, List.length_nil, h1, h2, and_self, decide_true, Int.toNat_natCast, nth_rows hx, nth, show ((((0 : Nat) : Int)) == (0 : Int)) = true from rfl, h73, AV.aggK, consK, AV.strK, T.strK, AV.sl1K, T.slK, Nat.beq]
      rfl
    | none =>
      unfold R at *
      rw [av_mk, call_unfold Try.func50, e50, h72]
      simp only [ixI, hr, Option.bind_some, AV.int1K, AV.intK, AV.tK, T.intK, IntKind.same, cond_true, nilK, show ¬ (0 : Int) ≤ -1 by omega, decide_false, cond_false]
      exact main
  | cons a l =>
    have h0 : (((((a :: l).length : Nat) : Int)) == (0 : Int)) = false := by rw [beq_eq_false_iff_ne]; simp; omega
    unfold R at *
    rw [av_mk, call_unfold Try.func50, e50, h72]
    simp only [List.take_zero] at main
    simp only [Option.bind_some, AV.int1K, AV.intK, AV.tK, T.intK, IntKind.same, cond_true, nilK, rows_length, h0, cond_false]
    rw [show ([] : List (List T)) = rows (ptL names by' []) from rfl, show (0 : Int) = ((0 : Nat) : Int) from rfl, main]
    cases decide (((0 : Nat) : Int) ≤ ixI names n) <;> rfl
end
theorem L19 {t : Ty} {names : List Str} {by' : List Ty} (hlen : names.length = by'.length) (hn : names.length ≤ 1000) (hb : ∀ t, t ∈ by' → t.Ok) (hbs : ∀ t, t ∈ by' → size t ≤ 1000000000000) (ht : t.Ok) (hs : size (pt names by' t) ≤ 1000000000000) :
    ∀ (j k : Nat), j + k = names.length → L19_0 R (K19_0 R) (strRows names) (rows by') t.name (rows t.args) (szRows (by'.take k)) (k : Int) =
      some (if tw (names.take k) (names.drop k) = true then (.tup [(Ty.mk [] []).av, .t (.int .i64 5)], []) else if 4096 < size (pt names by' t) then (.tup [(Ty.mk [] []).av, .t (.int .i64 4)], []) else (.tup [(pt names by' t).av, .t (.int .i64 0)], [])) := by
  intro j
  induction j with
  | zero =>
    intro k hk
    have h1 : ¬ (k : Int) < (names.length : Int) := by omega
    rw [l19_0]
    simp only [strRows_length]
    simp only [h1, decide_false, cond_false, x19_0_x1]
    rw [List.take_of_length_le (by omega : by'.length ≤ k), List.drop_eq_nil_of_le (by omega : names.length ≤ k), if_neg (by simp [tw])]
    obtain ⟨g, g1, g2, g3, g4, g5⟩ := R49 hlen hn t ht hs
    have h50 := R50r hlen hn hb t ht
    obtain ⟨n, l⟩ := t
    rw [av_mk] at g5 h50
    show ((R 49 [.agg [.t (.str n), .t (.sl 2 (rows l))], _, _] []).bind _) = _
    rw [g5]
    simp only [Option.bind_some, AV.int1K, AV.intK, AV.tK, T.intK, IntKind.same, cond_true, nilK]
    by_cases hg : (4096 : Int) < g
    · simp only [hg, decide_true, cond_true]
      rw [if_pos (g2 hg)]
      rfl
    · have e := g1 (by omega)
      simp only [hg, decide_false, cond_false]
      rw [if_neg (by omega)]
      show ((R 50 [.agg [.t (.str n), .t (.sl 2 (rows l))], _, _] []).bind _) = _
      rw [h50]
      generalize pt names by' (.mk n l) = u
      obtain ⟨nu, lu⟩ := u
      rfl
  | succ j ihj =>
    intro k hk
    obtain ⟨x, hx⟩ := at_of (l := names) (k := k) (by omega)
    obtain ⟨u, hu⟩ := at_of (l := by') (k := k) (by omega)
    have h32 := R32 u (hb u (List.mem_of_getElem? hu)) (hbs u (List.mem_of_getElem? hu))
    have h48 := R48 (l := names.take k) (by simp; omega) x
    have next := ihj (k + 1) (by omega)
    have h1 : (k : Int) < (names.length : Int) := by omega
    have h2 : (0 : Int) ≤ (k : Int) := by omega
    have h3 : (k : Int) ≤ (names.length : Int) := by omega
    have h4 : (k : Int) < (by'.length : Int) := by omega
    have e : dropN 0 (takeN k (strRows names)) = strRows (names.take k) := by rw [takeN_take]; simp [strRows, dropN]
    have b1 : Nat.ble ((by'.take k).length + 1) (lim 8) = true := by rw [Nat.ble_eq, lim8]; simp; omega
    have e2 : szRows (by'.take k) ++ [[T.int .i64 (size u)]] = szRows (by'.take (k + 1)) := by rw [take_of hu]; simp [szRows, ints]
    obtain ⟨nu, lu⟩ := u
    rw [av_mk] at h32
    rw [l19_0]
    simp only [strRows_length, rows_length]
    simp only [h1, h2, h3, h4, decide_true, cond_true, and_self, Int.toNat_natCast, nth_strRows hx, nth_rows hu, nth, e, h48, Option.bind_some, AV.boolK, AV.tK, T.boolK, nilK, Int.le_refl, h32, AV.int1K, AV.intK, T.intK, IntKind.same, List.length_cons, List.length_nil, Nat.zero_add, szRows_length, b1, e2]
    rw [drop_of hx]
    simp only [tw]
    by_cases hm : x ∈ names.take k
    · simp only [hm, decide_true, cond_true, x19_0_x0, if_true]
      rfl
    · simp only [hm, decide_false, cond_false]
      rw [wrap_succ (by omega), next, take_of hx]
theorem R19 {t : Ty} {names : List Str} {by' : List Ty} (hn : names.length ≤ 1000) (hbl : by'.length ≤ 1000) (hb : ∀ t, t ∈ by' → t.Ok) (hbs : ∀ t, t ∈ by' → size t ≤ 1000000000000) (ht : t.Ok) (hs : size (pt names by' t) ≤ 1000000000000) :
    R 19 [t.av, .t (.sl 1 (strRows names)), .t (.sl 2 (rows by'))] [] = some (.tup [(sub t names by').1.av, .t (.int .i64 (sub t names by').2)], []) := by
  have main := L19 (t := t) (names := names) (by' := by')
  unfold sub
  obtain ⟨n, l⟩ := t
  by_cases hlen : names.length = by'.length
  · have h1 : ((names.length : Int) == (by'.length : Int)) = true := by rw [beq_iff_eq]; omega
    have := main hlen hn hb hbs ht hs names.length 0 (by omega)
    unfold R at *
    rw [av_mk, call_unfold Try.func19, e19]
    simp only [strRows_length, rows_length, h1, Bool.not_true, cond_false]
    simp only [List.take_zero, List.drop_zero] at this
    rw [if_neg (by omega)]
    refine this.trans ?_
    split
    · rfl
    · split <;> rfl
  · have h1 : ((names.length : Int) == (by'.length : Int)) = false := by rw [beq_eq_false_iff_ne]; omega
    unfold R at *
    rw [av_mk, call_unfold Try.func19, e19]
    simp only [strRows_length, rows_length, h1, Bool.not_false, cond_true]
    rw [if_pos hlen]
    rfl
end Go.AS.Q4
