/- AS, the seat of law 4: splitting names, valid types; the references of comparing, of texts. -/
import Derived.Test.YtnodfpndnpeedaaQ4I
namespace Go.AS.Q4
open Go.Proofs
set_option linter.all false

/-! ### Splitting -/
theorem cut_spec : ∀ s : Str, ((46 : UInt8) ∉ s ∧ cutS s [46] = (s, [], false)) ∨ ∃ a b, s = a ++ 46 :: b ∧ (46 : UInt8) ∉ a ∧ cutS s [46] = (a, b, true)
  | [] => .inl ⟨by simp, rfl⟩
  | c :: s => by
    by_cases h : c = 46
    · subst h
      refine .inr ⟨[], s, rfl, by simp, ?_⟩
      simp [cutS, prefixB, dropN]
    · have hb : ((46 : UInt8) == c) = false := by rw [beq_eq_false_iff_ne]; exact Ne.symm h
      rcases cut_spec s with ⟨h1, h2⟩ | ⟨a, b, rfl, h2, h3⟩
      · refine .inl ⟨by simp only [List.mem_cons, not_or]; exact ⟨Ne.symm h, h1⟩, ?_⟩
        simp [cutS, prefixB, hb, h2]
      · refine .inr ⟨c :: a, b, rfl, by simp only [List.mem_cons, not_or]; exact ⟨Ne.symm h, h2⟩, ?_⟩
        simp [cutS, prefixB, hb, h3]
/-- The parts of a name, as both find them. -/
def splitS (s : Str) : Str × Str × Bool := cond (!(cutS s [46]).2.2) ([], [], false) (cond ((cutS s [46]).1 == []) ([], [], false) (cond ((cutS s [46]).2.1 == []) ([], [], false) (cond (containsS (cutS s [46]).2.1 [46]) ([], [], false) ((cutS s [46]).1, (cutS s [46]).2.1, true))))
def splitAV (p : Str × Str × Bool) : AV := .tup [.t (.str p.1), .t (.str p.2.1), .t (.bool p.2.2)]
theorem R35 {s : Str} (hs : s.length ≤ 9223372036854775807) : R 35 [.t (.str s)] [] = some (splitAV (splitS s), []) := by
  have b1 : Nat.ble (List.length s) 9223372036854775807 = true := by rw [Nat.ble_eq]; exact hs
  unfold R splitS
  rw [call_unfold Try.func35, e35]
  simp only [b1, cond_true]
  cases (cutS s [46]).2.2
  · rfl
  · cases ((cutS s [46]).1 == [])
    · cases ((cutS s [46]).2.1 == [])
      · cases (containsS (cutS s [46]).2.1 [46]) <;> rfl
      · rfl
    · rfl
theorem L36 {s a b : Str} (hs : s.length ≤ 9223372036854775807) (hsab : s = a ++ 46 :: b) (ha : (46 : UInt8) ∉ a) : ∀ (j k : Nat), j + k = a.length → L36_0 R (K36_0 R) s (k : Int) = some (splitAV (a, b, true), []) := by
  have hlen : s.length = a.length + 1 + b.length := by rw [hsab]; simp; omega
  intro j
  induction j with
  | zero =>
    intro k hk
    have hc : s[k]? = some 46 := by rw [hsab, List.getElem?_append_right (by omega), show k - a.length = 0 by omega]; rfl
    have h2 : (0 : Int) ≤ (k : Int) := by omega
    have h1 : (k : Int) < (s.length : Int) := by omega
    rw [l36_0]
    simp only [h1, h2, and_self, decide_true, cond_true, Int.toNat_natCast, nth_str hc, byte_eq, Bool.not_true, cond_false, x36_0_x0]
    have w : IntKind.wrap .i64 ((k : Int) + 1) = ((k + 1 : Nat) : Int) := wrap_succ (by omega)
    have c1 : (0 : Int) ≤ (0 : Int) ∧ True ∧ (k : Int) ≤ (s.length : Int) := ⟨by omega, trivial, by omega⟩
    have c2 : (0 : Int) ≤ ((k + 1 : Nat) : Int) ∧ ((k + 1 : Nat) : Int) ≤ (s.length : Int) ∧ (s.length : Int) ≤ (s.length : Int) := by omega
    rw [w]
    rw [decide_eq_true c1, decide_eq_true c2]
    simp only [cond_true, Int.toNat_natCast, dropN_drop, takeN_take]
    have e1 : (s.take k).drop 0 = a := by rw [hsab, List.drop_zero, List.take_append_of_le_length (by omega), List.take_of_length_le (by omega)]
    have e2 : (s.take s.length).drop (k + 1) = b := by
      rw [List.take_of_length_le (by omega), hsab, show a ++ 46 :: b = (a ++ [46]) ++ b by simp, show k + 1 = (a ++ [46]).length by simp; omega, List.drop_left]
    rw [e1, e2]
    rfl
  | succ j ihj =>
    intro k hk
    obtain ⟨c, hc0⟩ := at_of (l := a) (k := k) (by omega)
    have hc : s[k]? = some c := by rw [hsab, List.getElem?_append_left (by omega), hc0]
    have hne : c ≠ 46 := fun e => ha (e ▸ List.mem_of_getElem? hc0)
    have h2 : (0 : Int) ≤ (k : Int) := by omega
    have h1 : (k : Int) < (s.length : Int) := by omega
    rw [l36_0]
    simp only [h1, h2, and_self, decide_true, cond_true, Int.toNat_natCast, nth_str hc, byte_eq, hne, decide_false, Bool.not_false]
    rw [wrap_succ (by omega)]
    exact ihj (k + 1) (by omega)
theorem R36 {s : Str} (hs : s.length ≤ 9223372036854775807) : R 36 [.t (.str s)] [] = some (splitAV (splitS s), []) := by
  have h63 := R63 hs
  have hz := dotsN_zero
  have main := fun a b => L36 (a := a) (b := b) hs
  have bad : splitS s = ([], [], false) → (dotsN s ≠ 1 ∨ s[0]? = some 46 ∨ s[s.length - 1]? = some 46) → R 36 [.t (.str s)] [] = some (splitAV ([], [], false), []) := by
    intro _ hb
    unfold R at *
    rw [call_unfold Try.func36, e36, h63]
    simp only [Option.bind_some, AV.int1K, AV.intK, AV.tK, T.intK, IntKind.same, cond_true, nilK]
    by_cases h1 : dotsN s = 1
    · have e1 : (((dotsN s : Nat) : Int) == 1) = true := by rw [beq_iff_eq]; omega
      simp only [e1, Bool.not_true, cond_false]
      have hpos : 0 < s.length := by
        cases s with
        | nil => simp [dotsN] at h1
        | cons _ _ => simp
      have c1 : (0 : Int) ≤ (0 : Int) ∧ (0 : Int) < (s.length : Int) := by omega
      have w : IntKind.wrap .i64 ((s.length : Int) - 1) = ((s.length - 1 : Nat) : Int) := by rw [wrap_in (by omega)]; omega
      have c2 : (0 : Int) ≤ ((s.length - 1 : Nat) : Int) ∧ ((s.length - 1 : Nat) : Int) < (s.length : Int) := by omega
      rw [decide_eq_true c1, w, decide_eq_true c2]
      simp only [cond_true, Int.toNat_natCast]
      obtain ⟨c, hc⟩ := at_of (l := s) (k := 0) hpos
      obtain ⟨d, hd⟩ := at_of (l := s) (k := s.length - 1) (by omega)
      rw [show nth 0 s 0 = c from nth_str hc, show nth 0 s (s.length - 1) = d from nth_str hd, byte_eq, byte_eq]
      rcases hb with hb | hb | hb
      · exact absurd h1 hb
      · rw [hc] at hb
        injection hb with hb
        subst hb
        rfl
      · rw [hd] at hb
        injection hb with hb
        subst hb
        cases decide (c = 46) <;> rfl
    · have e1 : (((dotsN s : Nat) : Int) == 1) = false := by rw [beq_eq_false_iff_ne]; omega
      simp only [e1, Bool.not_false, cond_true]
      rfl
  rcases cut_spec s with ⟨h1, h2⟩ | ⟨a, b, hsab, h2, h3⟩
  · have e : splitS s = ([], [], false) := by unfold splitS; rw [h2]; rfl
    rw [e]
    exact bad e (.inl (by rw [(hz s).2 h1]; omega))
  · have hd : dotsN s = 1 + dotsN b := by rw [hsab, dotsN_append, (hz a).2 h2]; simp [dotsN]
    have hlen : s.length = a.length + 1 + b.length := by rw [hsab]; simp; omega
    by_cases ha : a = []
    · have e : splitS s = ([], [], false) := by unfold splitS; rw [h3, ha]; rfl
      rw [e]
      exact bad e (.inr (.inl (by rw [hsab, ha]; rfl)))
    · have ha' : (a == []) = false := by rw [beq_eq_false_iff_ne]; exact ha
      by_cases hb : b = []
      · have e : splitS s = ([], [], false) := by unfold splitS; rw [h3, hb]; simp [ha']
        rw [e]
        refine bad e (.inr (.inr ?_))
        subst hb
        rw [hsab, List.getElem?_append_right (by simp), show (a ++ [(46 : UInt8)]).length - 1 - a.length = 0 by simp]
        rfl
      · have hb' : (b == []) = false := by rw [beq_eq_false_iff_ne]; exact hb
        by_cases hbd : (46 : UInt8) ∈ b
        · have hc : containsS b [46] = true := by rw [contains_dot]; exact decide_eq_true hbd
          have e : splitS s = ([], [], false) := by unfold splitS; rw [h3]; simp [ha', hb', hc]
          rw [e]
          refine bad e (.inl ?_)
          have : dotsN b ≠ 0 := fun h0 => (hz b).1 h0 hbd
          omega
        · have hc : containsS b [46] = false := by rw [contains_dot]; exact decide_eq_false hbd
          have e : splitS s = (a, b, true) := by unfold splitS; rw [h3]; simp [ha', hb', hc]
          rw [e]
          have h1 : dotsN s = 1 := by rw [hd, (hz b).2 hbd]
          have la : 0 < a.length := List.length_pos_iff.2 ha
          have lb : 0 < b.length := List.length_pos_iff.2 hb
          have m := main a b hsab h2 a.length 0 (by omega)
          unfold R at *
          rw [call_unfold Try.func36, e36, h63]
          have e1 : (((dotsN s : Nat) : Int) == 1) = true := by rw [beq_iff_eq]; omega
          have c1 : (0 : Int) ≤ (0 : Int) ∧ (0 : Int) < (s.length : Int) := by omega
          have w : IntKind.wrap .i64 ((s.length : Int) - 1) = ((s.length - 1 : Nat) : Int) := by rw [wrap_in (by omega)]; omega
          have c2 : (0 : Int) ≤ ((s.length - 1 : Nat) : Int) ∧ ((s.length - 1 : Nat) : Int) < (s.length : Int) := by omega
          simp only [Option.bind_some, AV.int1K, AV.intK, AV.tK, T.intK, IntKind.same, cond_true, nilK, e1, Bool.not_true, cond_false]
          rw [decide_eq_true c1, w, decide_eq_true c2]
          simp only [cond_true, Int.toNat_natCast]
          obtain ⟨c, hc0⟩ := at_of (l := a) (k := 0) la
          obtain ⟨d, hd0⟩ := at_of (l := b) (k := b.length - 1) (by omega)
          have hc1 : s[0]? = some c := by rw [hsab, List.getElem?_append_left la, hc0]
          have hd1 : s[s.length - 1]? = some d := by
            rw [hlen, hsab, List.getElem?_append_right (by omega), show a.length + 1 + b.length - 1 - a.length = (b.length - 1) + 1 by omega, List.getElem?_cons_succ, hd0]
          have n1 : c ≠ 46 := fun e => h2 (e ▸ List.mem_of_getElem? hc0)
          have n2 : d ≠ 46 := fun e => hbd (e ▸ List.mem_of_getElem? hd0)
          rw [show nth 0 s 0 = c from nth_str hc1, show nth 0 s (s.length - 1) = d from nth_str hd1, byte_eq, byte_eq, decide_eq_false n1, decide_eq_false n2]
          exact m
end Go.AS.Q4
