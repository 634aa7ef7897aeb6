/- AS, the seat of law 4: numbers that are drawn from; made types; texts. -/
import Derived.Test.YtnodfpndnpeedaaQ4A
namespace Go.AS.Q4
open Go.Proofs
set_option linter.all false

/-! ### Dice -/
def ints (l : List Int) : List (List T) := l.map fun n => [.int .i64 n]
theorem ints_length (l : List Int) : (ints l).length = l.length := by simp [ints]
theorem nth_ints {l : List Int} {k : Nat} {n : Int} (h : l[k]? = some n) : nth [] (ints l) k = [.int .i64 n] := by rw [ints, nth_map [] _ h]
def dh (l : List Int) (i : Nat) : Heap := [(0, .box [(.sl 1), (.int .i64)] [.t (.sl 1 (ints l)), .t (.int .i64 (i : Int))])]
theorem R9 (l : List Int) : R 9 [.t (.sl 1 (ints l))] [] = some (.t (.bool (decide ((l.length : Int) ≤ 700))), []) := by
  unfold R
  rw [call_unfold Try.func9, e9, ints_length]
theorem R12 (l : List Int) : R 12 [.t (.sl 1 (ints l))] [] = some (.ptr 0 0, dh l 0) := by
  unfold R
  rw [call_unfold Try.func12, e12]
  rfl
theorem R43 (l : List Int) (i : Nat) : R 43 [.ptr 0 0] (dh l i) = some (.t (.bool (decide (i < l.length))), dh l i) := by
  unfold R dh
  rw [call_unfold Try.func43, e43, ints_length]
  congr 5
  exact propext (by omega)
theorem R44 (a n : Int) (hn : 1 ≤ n ∧ n ≤ 1000) : ∃ m, 0 ≤ m ∧ m < n ∧ R 44 [.t (.int .i64 a), .t (.int .i64 n)] [] = some (.t (.int .i64 m), []) := by
  have h1 := Int.tmod_lt_of_pos a (by omega : 0 < n)
  have h2 : -n < Int.tmod a n := by
    have := Int.tmod_lt_of_pos (-a) (by omega : 0 < n)
    rw [Int.neg_tmod] at this
    omega
  have h3 : ¬ n < (1 : Int) := by omega
  have h4 : (n == 0) = false := by rw [beq_eq_false_iff_ne]; omega
  unfold R
  rw [call_unfold Try.func44, e44]
  simp only [h3, h4, decide_false, cond_false]
  by_cases h : Int.tmod a n < 0
  · refine ⟨Int.tmod a n + n, by omega, by omega, ?_⟩
    simp only [h, decide_true, cond_true]
    rw [wrap_in (by omega)]
  · refine ⟨Int.tmod a n, by omega, h1, ?_⟩
    simp only [h, decide_false, cond_false]
theorem R17 {l : List Int} (hl : l.length ≤ 700) {i : Nat} (hi : i ≤ l.length) (n : Int) (hn : 1 ≤ n ∧ n ≤ 1000) :
    ∃ m i', 0 ≤ m ∧ m < n ∧ i' ≤ l.length ∧ R 17 [.ptr 0 0, .t (.int .i64 n)] (dh l i) = some (.t (.int .i64 m), dh l i') := by
  have h43 := R43 l i
  by_cases h : i < l.length
  · obtain ⟨a, ha⟩ := at_of h
    obtain ⟨m, m1, m2, m3⟩ := R44 a n hn
    refine ⟨m, i + 1, m1, m2, by omega, ?_⟩
    unfold R at m3
    unfold R dh at h43 ⊢
    rw [call_unfold Try.func17, e17, h43]
    simp only [h, decide_true, Option.bind_some, AV.boolK, AV.tK, T.boolK, consK, Nat.beq, cond_true, Ent.boxK, AV.sl1K, T.slK, AV.int1K, AV.intK, T.intK, IntKind.same, nilK, Bool.not_true, cond_false, ints_length]
    rw [wrap_succ (by omega), wrap_in (by omega), show (((i + 1 : Nat) : Int) - 1) = (i : Int) by omega]
    have h1 : (0 : Int) ≤ (i : Int) ∧ (i : Int) < (l.length : Int) := by omega
    simp only [h1, and_self, decide_true, cond_true, Int.toNat_natCast, nth_ints ha, nth, m3, Option.bind_some, AV.tK, T.intK, IntKind.same, nilK]
  · refine ⟨0, i, by omega, by omega, hi, ?_⟩
    unfold R dh at h43 ⊢
    rw [call_unfold Try.func17, e17, h43]
    simp only [h, decide_false, Option.bind_some, AV.boolK, AV.tK, T.boolK, consK, Nat.beq, cond_true, Ent.boxK, AV.sl1K, T.slK, AV.int1K, AV.intK, T.intK, IntKind.same, nilK, Bool.not_false, cond_false]

/-! ### Made types -/
def nInt : Str := [73, 110, 116]
def nArray : Str := [65, 114, 114, 97, 121]
def plainNames : List Str := [[73, 110, 116], [66, 111, 111, 108], [84], [85], [83, 101, 108, 102]]
def declNames : List Str := [[103, 101, 111, 46, 80], [103, 101, 111, 46, 81], [98, 97, 115, 101, 46, 82]]
def names9 : List (List T) := [[(T.str ([73, 110, 116] : List UInt8))], [(T.str ([66, 111, 111, 108] : List UInt8))], [(T.str ([84] : List UInt8))], [(T.str ([85] : List UInt8))], [(T.str ([83, 101, 108, 102] : List UInt8))], [(T.str ([65, 114, 114, 97, 121] : List UInt8))], [(T.str ([103, 101, 111, 46, 80] : List UInt8))], [(T.str ([103, 101, 111, 46, 81] : List UInt8))], [(T.str ([98, 97, 115, 101, 46, 82] : List UInt8))]]
def good : Nat → Ty → Prop
  | 0, .mk n l => (n ∈ plainNames ∨ n ∈ declNames) ∧ l = []
  | D + 1, .mk n l => (n ∈ plainNames ∧ l = []) ∨ (n = nArray ∧ ∃ a, l = [a] ∧ good D a) ∨ (n ∈ declNames ∧ l.length ≤ 3 ∧ (D = 0 → l = []) ∧ ∀ a, a ∈ l → good D a)
theorem good_nil {D : Nat} {n : Str} (h : n ∈ plainNames ∨ n ∈ declNames) : good D (.mk n []) := by
  cases D with
  | zero => exact ⟨h, rfl⟩
  | succ D =>
    rcases h with h | h
    · exact .inl ⟨h, rfl⟩
    · exact .inr (.inr ⟨h, by simp, fun _ => rfl, fun a ha => by simp at ha⟩)
/-- What a call of 'open' answers. -/
def Opens (l : List Int) (D : Nat) (i : Nat) : Prop := ∃ t i', good D t ∧ i' ≤ l.length ∧ R 11 [.ptr 0 0, .t (.int .i64 ((D : Int) - 1))] (dh l i) = some (t.av, dh l i')
section
variable {l : List Int} {D : Nat} (ih : ∀ i, i ≤ l.length → Opens l D i)
include ih
theorem L11_0_ok (hD : D ≤ 100) (s1 s2 : Str) (a : List Ty) (ha : ∀ t, t ∈ a → good D t) : ∀ (j : Nat) (b : List Ty) (i : Nat), (∀ t, t ∈ b → good D t) → b.length + j ≤ 1000 → i ≤ l.length →
    ∃ b' i', (∀ t, t ∈ b' → good D t) ∧ b'.length = b.length + j ∧ i' ≤ l.length ∧ L11_0 R (K11_0 R) (ints l) s1 s2 (rows b) (D : Int) (j : Int) (i : Int) = some ((Ty.mk s2 b').av, dh l i') := by
  intro j
  induction j with
  | zero =>
    intro b i hb hlen hi
    refine ⟨b, i, hb, by omega, hi, ?_⟩
    have h0 : ¬ (0 : Int) < ((0 : Nat) : Int) := by omega
    rw [l11_0]
    simp only [h0, decide_false, cond_false, x11_0_x0]
    rfl
  | succ j ihj =>
    intro b i hb hlen hi
    obtain ⟨t, i1, g1, g2, g3⟩ := ih i hi
    obtain ⟨n, ar⟩ := t
    obtain ⟨b', i', q1, q2, q3, q4⟩ := ihj (b ++ [.mk n ar]) i1 (fun t ht => by
      rcases List.mem_append.1 ht with ht | ht
      · exact hb t ht
      · simp at ht; rw [ht]; exact g1) (by simp; omega) g2
    refine ⟨b', i', q1, by rw [q2]; simp; omega, q3, ?_⟩
    have h0 : (0 : Int) < ((j + 1 : Nat) : Int) := by omega
    have h1 : Nat.ble (b.length + 1) (lim 40) = true := by
      rw [Nat.ble_eq]
      have : lim 40 = 3518437208883 := by decide
      omega
    have h2 : IntKind.wrap .i64 ((D : Int) - 1) = (D : Int) - 1 := wrap_in (by omega)
    have h3 : IntKind.wrap .i64 (((j + 1 : Nat) : Int) - 1) = (j : Int) := by rw [wrap_in (by omega)]; omega
    rw [l11_0]
    unfold dh at g3
    rw [av_mk] at g3
    simp only [h0, h2, h3, decide_true, cond_true, g3, Option.bind_some, AV.aggK, consK, AV.strK, AV.tK, T.strK, AV.sl1K, T.slK, Nat.beq, nilK, Ent.boxK, AV.int1K, AV.intK, T.intK, IntKind.same, rows_length, List.length_cons, List.length_nil, Nat.zero_add, h1]
    rw [rows_append, rows_one] at q4
    exact q4
theorem L11_1_ok (hD : D ≤ 100) (s1 : Str) (s2 : Str) : ∀ (j : Nat) (b : List Ty) (i : Nat), (∀ t, t ∈ b → good D t) → b.length + j ≤ 1000 → i ≤ l.length →
    ∃ b' i', (∀ t, t ∈ b' → good D t) ∧ b'.length = b.length + j ∧ i' ≤ l.length ∧ L11_1 R (K11_1 R) (ints l) s1 (.str s2) (rows b) (D : Int) (j : Int) (i : Int) = some ((Ty.mk s2 b').av, dh l i') := by
  intro j
  induction j with
  | zero =>
    intro b i hb hlen hi
    refine ⟨b, i, hb, by omega, hi, ?_⟩
    have h0 : ¬ (0 : Int) < ((0 : Nat) : Int) := by omega
    rw [l11_1]
    simp only [h0, decide_false, cond_false, x11_1_x0]
    rfl
  | succ j ihj =>
    intro b i hb hlen hi
    obtain ⟨t, i1, g1, g2, g3⟩ := ih i hi
    obtain ⟨n, ar⟩ := t
    obtain ⟨b', i', q1, q2, q3, q4⟩ := ihj (b ++ [.mk n ar]) i1 (fun t ht => by
      rcases List.mem_append.1 ht with ht | ht
      · exact hb t ht
      · simp at ht; rw [ht]; exact g1) (by simp; omega) g2
    refine ⟨b', i', q1, by rw [q2]; simp; omega, q3, ?_⟩
    have h0 : (0 : Int) < ((j + 1 : Nat) : Int) := by omega
    have h1 : Nat.ble (b.length + 1) (lim 40) = true := by
      rw [Nat.ble_eq]
      have : lim 40 = 3518437208883 := by decide
      omega
    have h2 : IntKind.wrap .i64 ((D : Int) - 1) = (D : Int) - 1 := wrap_in (by omega)
    have h3 : IntKind.wrap .i64 (((j + 1 : Nat) : Int) - 1) = (j : Int) := by rw [wrap_in (by omega)]; omega
    rw [l11_1]
    unfold dh at g3
    rw [av_mk] at g3
    simp only [h0, h2, h3, decide_true, cond_true, g3, Option.bind_some, AV.aggK, consK, AV.strK, AV.tK, T.strK, AV.sl1K, T.slK, Nat.beq, nilK, Ent.boxK, AV.int1K, AV.intK, T.intK, IntKind.same, rows_length, List.length_cons, List.length_nil, Nat.zero_add, h1]
    rw [rows_append, rows_one] at q4
    exact q4
end
theorem mem9 {n : Int} (h : 0 ≤ n ∧ n < 9) : ∃ s, nth T.pnil (nth [] names9 (Int.toNat n)) 0 = .str s ∧ ((s ∈ plainNames ∧ ¬ (97 : Int) ≤ ((nth 0 s 0).toNat : Int) ∧ (s == ([65, 114, 114, 97, 121] : List UInt8)) = false) ∨ (s ∈ declNames ∧ (97 : Int) ≤ ((nth 0 s 0).toNat : Int) ∧ (s == ([65, 114, 114, 97, 121] : List UInt8)) = false) ∨ (s = nArray ∧ ¬ (97 : Int) ≤ ((nth 0 s 0).toNat : Int))) ∧ 0 < s.length := by
  have hn : n = 0 ∨ n = 1 ∨ n = 2 ∨ n = 3 ∨ n = 4 ∨ n = 5 ∨ n = 6 ∨ n = 7 ∨ n = 8 := by omega
  rcases hn with rfl | rfl | rfl | rfl | rfl | rfl | rfl | rfl | rfl
  · exact ⟨_, rfl, .inl (by decide), by decide⟩
  · exact ⟨_, rfl, .inl (by decide), by decide⟩
  · exact ⟨_, rfl, .inl (by decide), by decide⟩
  · exact ⟨_, rfl, .inl (by decide), by decide⟩
  · exact ⟨_, rfl, .inl (by decide), by decide⟩
  · exact ⟨_, rfl, .inr (.inr (by decide)), by decide⟩
  · exact ⟨_, rfl, .inr (.inl (by decide)), by decide⟩
  · exact ⟨_, rfl, .inr (.inl (by decide)), by decide⟩
  · exact ⟨_, rfl, .inr (.inl (by decide)), by decide⟩
theorem J11_0_ok {l : List Int} (hl : l.length ≤ 700) {D : Nat} (hD : D ≤ 100) (ih : ∀ D', D = D' + 1 → ∀ i, i ≤ l.length → Opens l D' i) {s : Str} {j : Nat} (hs : ((s ∈ plainNames ∧ j = 0 ∧ (s == ([65, 114, 114, 97, 121] : List UInt8)) = false) ∨ (s ∈ declNames ∧ j ≤ 3 ∧ (D ≤ 1 → j = 0) ∧ (s == ([65, 114, 114, 97, 121] : List UInt8)) = false) ∨ s = nArray))
    {i : Nat} (hi : i ≤ l.length) : ∃ t i', good D t ∧ i' ≤ l.length ∧ J11_0 R (ints l) [] (.str s) ((D : Int) - 1) (j : Int) (i : Int) = some (t.av, dh l i') := by
  rw [j11_0]
  simp only [T.strK]
  cases D with
  | zero =>
    -- no further types are made
    have stop : ∀ s2 : Str, (s2 ∈ plainNames ∨ s2 ∈ declNames) → ∃ t i', good 0 t ∧ i' ≤ l.length ∧ J11_2 R (ints l) [] (.str s2) (((0 : Nat) : Int) - 1) ((0 : Nat) : Int) (i : Int) = some (t.av, dh l i') := by
      intro s2 h2
      refine ⟨.mk s2 [], i, good_nil h2, hi, ?_⟩
      rw [j11_2, l11_1]
      have h0 : ¬ (0 : Int) < ((0 : Nat) : Int) := by omega
      simp only [h0, decide_false, cond_false, x11_1_x0]
      rfl
    rcases hs with ⟨h1, rfl, h2⟩ | ⟨h1, h3, h4, h2⟩ | h1
    · simp only [h2, cond_false]
      exact stop s (.inl h1)
    · obtain rfl : j = 0 := h4 (by omega)
      simp only [h2, cond_false]
      exact stop s (.inr h1)
    · have h2 : (s == ([65, 114, 114, 97, 121] : List UInt8)) = true := by rw [h1]; rfl
      have h3 : ((0 : Nat) : Int) - 1 < 0 := by omega
      simp only [h2, h3, decide_true, cond_true]
      refine ⟨.mk nInt [], i, good_nil (.inl (by decide)), hi, ?_⟩
      rw [j11_1, l11_0]
      have h0 : ¬ (0 : Int) < (0 : Int) := by omega
      simp only [h0, decide_false, cond_false, x11_0_x0]
      rfl
  | succ D =>
    have e1 : (((D + 1 : Nat) : Int) - 1) = (D : Int) := by omega
    have ih' := ih D rfl
    have go : ∀ (s2 : Str) (j : Nat), j ≤ 3 → ∃ b' i', (∀ t, t ∈ b' → good D t) ∧ b'.length = j ∧ i' ≤ l.length ∧ J11_2 R (ints l) [] (.str s2) (D : Int) (j : Int) (i : Int) = some ((Ty.mk s2 b').av, dh l i') := by
      intro s2 j hj
      obtain ⟨b', i', q1, q2, q3, q4⟩ := L11_1_ok ih' (by omega) [] s2 j [] i (fun t ht => by simp at ht) (by simp; omega) hi
      refine ⟨b', i', q1, by simpa using q2, q3, ?_⟩
      rw [j11_2]
      exact q4
    rw [e1]
    rcases hs with ⟨h1, rfl, h2⟩ | ⟨h1, h3, h4, h2⟩ | h1
    · simp only [h2, cond_false]
      obtain ⟨b', i', q1, q2, q3, q4⟩ := go s 0 (by omega)
      have hb : b' = [] := List.eq_nil_of_length_eq_zero q2
      subst hb
      exact ⟨_, i', good_nil (.inl h1), q3, q4⟩
    · simp only [h2, cond_false]
      obtain ⟨b', i', q1, q2, q3, q4⟩ := go s j h3
      refine ⟨_, i', ?_, q3, q4⟩
      exact Or.inr (Or.inr ⟨h1, by omega, fun hD0 => by
        have := h4 (by omega)
        exact List.eq_nil_of_length_eq_zero (by omega), q1⟩)
    · have h2 : (s == ([65, 114, 114, 97, 121] : List UInt8)) = true := by rw [h1]; rfl
      have h3 : ¬ (D : Int) < 0 := by omega
      simp only [h2, h3, decide_false, cond_true, cond_false]
      obtain ⟨b', i', q1, q2, q3, q4⟩ := go s 1 (by omega)
      obtain ⟨a, rfl⟩ : ∃ a, b' = [a] := List.length_eq_one_iff.1 q2
      refine ⟨_, i', ?_, q3, q4⟩
      exact Or.inr (Or.inl ⟨h1, a, rfl, q1 a (by simp)⟩)
theorem R11 {l : List Int} (hl : l.length ≤ 700) : ∀ (D : Nat), D ≤ 100 → ∀ i, i ≤ l.length → Opens l D i := by
  intro D
  induction D with
  | zero =>
    intro hD i hi
    obtain ⟨m, i1, m1, m2, m3, m4⟩ := R17 hl hi 9 (by omega)
    obtain ⟨s, s1, s2, s3⟩ := mem9 (n := m) (by omega)
    unfold Opens
    unfold R dh at m4 ⊢
    rw [call_unfold Try.func11, e11]
    simp only [List.length_cons, List.length_nil, show (((0 + 1 + 1 + 1 + 1 + 1 + 1 + 1 + 1 + 1 : Nat) : Int)) = 9 from rfl]
    rw [m4]
    have h1 : (0 : Int) ≤ m ∧ m < (9 : Int) := by omega
    have h2 : ¬ (0 : Int) < ((0 : Nat) : Int) - 1 := by omega
    have s1' : nth T.pnil (nth [] [[(T.str ([73, 110, 116] : List UInt8))], [(T.str ([66, 111, 111, 108] : List UInt8))], [(T.str ([84] : List UInt8))], [(T.str ([85] : List UInt8))], [(T.str ([83, 101, 108, 102] : List UInt8))], [(T.str ([65, 114, 114, 97, 121] : List UInt8))], [(T.str ([103, 101, 111, 46, 80] : List UInt8))], [(T.str ([103, 101, 111, 46, 81] : List UInt8))], [(T.str ([98, 97, 115, 101, 46, 82] : List UInt8))]] (Int.toNat m)) 0 = .str s := s1
    simp only [Option.bind_some, AV.int1K, AV.intK, AV.tK, T.intK, IntKind.same, consK, Nat.beq, cond_true, cond_false, Ent.boxK, AV.sl1K, T.slK, nilK, h1, h2, and_self, decide_true, decide_false, s1']
    obtain ⟨t, i', q1, q2, q3⟩ := J11_0_ok hl (by omega : (0 : Nat) ≤ 100) (fun D' h => by omega) (s := s) (j := 0) (by
      rcases s2 with h | h | h
      · exact .inl ⟨h.1, rfl, h.2.2⟩
      · exact .inr (.inl ⟨h.1, by omega, fun _ => rfl, h.2.2⟩)
      · exact .inr (.inr h.1)) m3
    unfold R dh at q3
    exact ⟨t, i', q1, q2, q3⟩
  | succ D ihD =>
    intro hD i hi
    obtain ⟨m, i1, m1, m2, m3, m4⟩ := R17 hl hi 9 (by omega)
    obtain ⟨s, s1, s2, s3⟩ := mem9 (n := m) (by omega)
    have ih := ihD (by omega)
    unfold Opens
    unfold R dh at m4 ⊢
    rw [call_unfold Try.func11, e11]
    simp only [List.length_cons, List.length_nil, show (((0 + 1 + 1 + 1 + 1 + 1 + 1 + 1 + 1 + 1 : Nat) : Int)) = 9 from rfl]
    rw [m4]
    have h1 : (0 : Int) ≤ m ∧ m < (9 : Int) := by omega
    have s1' : nth T.pnil (nth [] [[(T.str ([73, 110, 116] : List UInt8))], [(T.str ([66, 111, 111, 108] : List UInt8))], [(T.str ([84] : List UInt8))], [(T.str ([85] : List UInt8))], [(T.str ([83, 101, 108, 102] : List UInt8))], [(T.str ([65, 114, 114, 97, 121] : List UInt8))], [(T.str ([103, 101, 111, 46, 80] : List UInt8))], [(T.str ([103, 101, 111, 46, 81] : List UInt8))], [(T.str ([98, 97, 115, 101, 46, 82] : List UInt8))]] (Int.toNat m)) 0 = .str s := s1
    have main : ∀ (j i2 : Nat), i2 ≤ l.length → ((s ∈ plainNames ∧ j = 0 ∧ (s == ([65, 114, 114, 97, 121] : List UInt8)) = false) ∨ (s ∈ declNames ∧ j ≤ 3 ∧ (D + 1 ≤ 1 → j = 0) ∧ (s == ([65, 114, 114, 97, 121] : List UInt8)) = false) ∨ s = nArray) →
        ∃ t i', good (D + 1) t ∧ i' ≤ l.length ∧ J11_0 (call Try.prog cx) (ints l) [] (.str s) (((D + 1 : Nat) : Int) - 1) (j : Int) (i2 : Int) = some (t.av, [(0, .box [(.sl 1), (.int .i64)] [.t (.sl 1 (ints l)), .t (.int .i64 (i' : Int))])]) := by
      intro j i2 h2 hs
      obtain ⟨t, i', q1, q2, q3⟩ := J11_0_ok hl (by omega) (fun D' h => by
        have h : D = D' := by omega
        subst h; exact ih) hs h2
      unfold R dh at q3
      exact ⟨t, i', q1, q2, q3⟩
    by_cases hD0 : (0 : Int) < ((D + 1 : Nat) : Int) - 1
    · have s3' : (0 : Int) ≤ (0 : Int) ∧ (0 : Int) < (s.length : Int) := by omega
      rcases s2 with h | h | h
      · simp only [Option.bind_some, AV.int1K, AV.intK, AV.tK, T.intK, IntKind.same, consK, Nat.beq, cond_true, cond_false, Ent.boxK, AV.sl1K, T.slK, nilK, h1, hD0, s3', and_self, decide_true, decide_false, s1', T.strK, h.2.1]
        exact main 0 i1 m3 (.inl ⟨h.1, rfl, h.2.2⟩)
      · obtain ⟨m', i2, n1, n2, n3, n4⟩ := R17 hl m3 4 (by omega)
        unfold R dh at n4
        simp only [Option.bind_some, AV.int1K, AV.intK, AV.tK, T.intK, IntKind.same, consK, Nat.beq, cond_true, cond_false, Ent.boxK, AV.sl1K, T.slK, nilK, h1, hD0, s3', and_self, decide_true, decide_false, s1', T.strK, h.2.1, n4]
        obtain ⟨j, rfl⟩ : ∃ j : Nat, m' = j := ⟨m'.toNat, by omega⟩
        exact main j i2 n3 (.inr (.inl ⟨h.1, by omega, fun hh => by omega, h.2.2⟩))
      · simp only [Option.bind_some, AV.int1K, AV.intK, AV.tK, T.intK, IntKind.same, consK, Nat.beq, cond_true, cond_false, Ent.boxK, AV.sl1K, T.slK, nilK, h1, hD0, s3', and_self, decide_true, decide_false, s1', T.strK, h.2]
        exact main 0 i1 m3 (.inr (.inr h.1))
    · simp only [Option.bind_some, AV.int1K, AV.intK, AV.tK, T.intK, IntKind.same, consK, Nat.beq, cond_true, cond_false, Ent.boxK, AV.sl1K, T.slK, nilK, h1, hD0, and_self, decide_true, decide_false, s1']
      refine main 0 i1 m3 ?_
      rcases s2 with h | h | h
      · exact .inl ⟨h.1, rfl, h.2.2⟩
      · exact .inr (.inl ⟨h.1, by omega, fun _ => rfl, h.2.2⟩)
      · exact .inr (.inr h.1)
end Go.AS.Q4
