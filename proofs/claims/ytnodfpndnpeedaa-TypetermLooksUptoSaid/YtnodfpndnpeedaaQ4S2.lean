/- AS, the seat of law 4: valid types, the references of comparing, closed types, texts. -/
import Derived.Test.YtnodfpndnpeedaaQ4S
namespace Go.AS.Q4
open Go.Proofs
set_option linter.all false

/-! ### Valid types -/
mutual
def valid : Ty → Bool
  | .mk n l => cond (n == []) false (cond (decide ((46 : UInt8) ∈ n)) (cond (splitS n).2.2 (validL l) false) (cond (decide (l.length = cond (n == ([65, 114, 114, 97, 121] : List UInt8)) 1 0)) (validL l) false))
def validL : List Ty → Bool
  | [] => true
  | t :: l => cond (valid t) (validL l) false
end
theorem split_none {n : Str} (h : (46 : UInt8) ∉ n) : splitS n = ([], [], false) := by
  rcases cut_spec n with ⟨_, h2⟩ | ⟨a, b, e, _, _⟩
  · unfold splitS; rw [h2]; rfl
  · exact absurd (by rw [e]; simp) h
theorem R62 {t : Ty} (h : R 28 [t.av] [] = some (.t (.bool (valid t)), [])) : R 62 [t.av] [] = some (.t (.bool (!valid t)), []) := by
  obtain ⟨n, l⟩ := t
  unfold R at *
  rw [av_mk] at *
  rw [call_unfold Try.func62, e62, h]
  simp only [Option.bind_some, AV.boolK, AV.tK, T.boolK, nilK]
theorem L78v {l : List Ty} (hl : l.length ≤ 1000) (ih : ∀ t, t ∈ l → R 28 [t.av] [] = some (.t (.bool (valid t)), [])) : ∀ (j k : Nat), j + k = l.length →
    ∃ i : Int, decide ((0 : Int) ≤ i) = !validL (l.drop k) ∧ L78_1_0 R (K78_1_0 R) (rows l) (k : Int) = some (.t (.int .i64 i), []) := by
  intro j
  induction j with
  | zero =>
    intro k hk
    have h1 : ¬ (k : Int) < (l.length : Int) := by omega
    refine ⟨-1, ?_, ?_⟩
    · rw [List.drop_eq_nil_of_le (by omega : l.length ≤ k)]; rfl
    · rw [l78_1_0]
      simp only [rows_length]
      simp only [h1, decide_false, cond_false, x78_1_0_x1]
  | succ j ihj =>
    intro k hk
    obtain ⟨t, ht⟩ := at_of (l := l) (k := k) (by omega)
    have h60 := R62 (ih t (List.mem_of_getElem? ht))
    have h1 : (k : Int) < (l.length : Int) := by omega
    have h2 : (0 : Int) ≤ (k : Int) := by omega
    rw [drop_of ht]
    rw [validL]
    cases hc : valid t with
    | false =>
      rw [hc] at h60
      obtain ⟨n, a⟩ := t
      rw [av_mk] at h60
      refine ⟨k, by simp, ?_⟩
      rw [l78_1_0]
      simp only [rows_length]
      simp only [h1, h2, decide_true, cond_true, and_self, Int.toNat_natCast, nth_rows ht, nth, h60, Option.bind_some, AV.boolK, AV.tK, T.boolK, nilK, Bool.not_false, x78_1_0_x0]
    | true =>
      rw [hc] at h60
      obtain ⟨i, q1, q2⟩ := ihj (k + 1) (by omega)
      obtain ⟨n, a⟩ := t
      rw [av_mk] at h60
      refine ⟨i, q1, ?_⟩
      rw [l78_1_0]
      simp only [rows_length]
      simp only [h1, h2, decide_true, cond_true, and_self, Int.toNat_natCast, nth_rows ht, nth, h60, Option.bind_some, AV.boolK, AV.tK, T.boolK, nilK, Bool.not_true, cond_false]
      rw [wrap_succ (by omega)]
      exact q2
theorem R59v {l : List Ty} (hl : l.length ≤ 1000) (ih : ∀ t, t ∈ l → R 28 [t.av] [] = some (.t (.bool (valid t)), [])) : R 59 [.t (.sl 2 (rows l)), .clo 62 []] [] = some (.t (.bool (!validL l)), []) := by
  obtain ⟨i, q1, q2⟩ := L78v hl ih l.length 0 (by omega)
  unfold R at *
  rw [call_unfold Try.func59, e59_1, call_unfold Try.func78, e78_1, show (0 : Int) = ((0 : Nat) : Int) from rfl, q2]
  simp only [Option.bind_some, AV.int1K, AV.intK, AV.tK, T.intK, IntKind.same, cond_true, nilK]
  rw [List.drop_zero] at q1
  rw [show decide (((0 : Nat) : Int) ≤ i) = !validL l from q1]
theorem J28 {n : Str} {l : List Ty} (hn : n.length ≤ 9223372036854775807) (h59 : R 59 [.t (.sl 2 (rows l)), .clo 62 []] [] = some (.t (.bool (!validL l)), [])) (a : Nat) :
    J28_0 R n (rows l) (a : Int) = some (.t (.bool (cond (n == []) false (cond (decide ((46 : UInt8) ∈ n)) (cond (splitS n).2.2 (validL l) false) (cond (decide (l.length = a)) (validL l) false)))), []) := by
  have hs := split_none (n := n)
  have h35 := R35 hn
  generalize splitS n = s at hs h35
  obtain ⟨s1, s2, s3⟩ := s
  rw [j28_0]
  simp only [h35, splitAV, Option.bind_some, AV.tupK, consK, AV.strK, AV.tK, T.strK, AV.boolK, T.boolK, nilK, h59, contains_dot, rows_length]
  cases hn0 : (n == []) with
  | true =>
    have : n = [] := by simpa using hn0
    have h2 := hs (by rw [this]; simp)
    injection h2 with _ h2
    injection h2 with _ h2
    subst h2
    rfl
  | false =>
    by_cases hd : (46 : UInt8) ∈ n
    · cases s3 with
      | true => simp only [hd, decide_true, Bool.not_true, cond_false, cond_true, Bool.not_not]
      | false => simp only [hd, decide_true, Bool.not_false, cond_false, cond_true]
    · have h2 := hs hd
      injection h2 with _ h2
      injection h2 with _ h2
      subst h2
      by_cases hla : l.length = a
      · subst hla
        simp only [hd, decide_false, Bool.not_false, cond_false, cond_true, beq_self_eq_true, Bool.not_true, decide_true, Bool.not_not]
      · have h1 : ((l.length : Int) == (a : Int)) = false := by rw [beq_eq_false_iff_ne]; omega
        simp only [hd, decide_false, Bool.not_false, cond_false, cond_true, h1, hla]
theorem R28 : ∀ t : Ty, t.Ok → Nm t → R 28 [t.av] [] = some (.t (.bool (valid t)), []) := by
  refine Ty.ind fun n l ih hok hnm => ?_
  have hl := hok.parts
  obtain ⟨hn, hm⟩ := hnm.parts
  have hj := J28 hn (R59v hl.1 fun t ht => ih t ht (hl.2 t ht) (hm t ht))
  unfold R at *
  rw [av_mk, call_unfold Try.func28, e28, valid]
  cases (n == ([65, 114, 114, 97, 121] : List UInt8)) with
  | true => exact hj 1
  | false => exact hj 0
theorem L29 {l : List Ty} (hl : l.length ≤ 1000) (s1 : Str) (ih : ∀ t, t ∈ l → R 29 [t.av] [] = some (.t (.bool (valid t)), [])) : ∀ (j k : Nat), j + k = l.length →
    L29_0 R (K29_0 R) (rows l) s1 (k : Int) = some (.t (.bool (validL (l.drop k))), []) := by
  intro j
  induction j with
  | zero =>
    intro k hk
    have h1 : ¬ (k : Int) < (l.length : Int) := by omega
    rw [List.drop_eq_nil_of_le (by omega : l.length ≤ k)]
    rw [l29_0]
    simp only [rows_length]
    simp only [h1, decide_false, cond_false, x29_0_x1, validL]
  | succ j ihj =>
    intro k hk
    obtain ⟨t, ht⟩ := at_of (l := l) (k := k) (by omega)
    have iht := ih t (List.mem_of_getElem? ht)
    have h1 : (k : Int) < (l.length : Int) := by omega
    have h2 : (0 : Int) ≤ (k : Int) := by omega
    rw [drop_of ht]
    rw [validL]
    cases hc : valid t with
    | false =>
      rw [hc] at iht
      obtain ⟨n, a⟩ := t
      rw [av_mk] at iht
      rw [l29_0]
      simp only [rows_length]
      simp only [h1, h2, decide_true, cond_true, cond_false, and_self, Int.toNat_natCast, nth_rows ht, nth, iht, Option.bind_some, AV.boolK, AV.tK, T.boolK, nilK, Bool.not_false, x29_0_x0]
    | true =>
      rw [hc] at iht
      obtain ⟨n, a⟩ := t
      rw [av_mk] at iht
      rw [l29_0]
      simp only [rows_length]
      simp only [h1, h2, decide_true, cond_true, and_self, Int.toNat_natCast, nth_rows ht, nth, iht, Option.bind_some, AV.boolK, AV.tK, T.boolK, nilK, Bool.not_true, cond_false]
      rw [wrap_succ (by omega)]
      exact ihj (k + 1) (by omega)
theorem R29 : ∀ t : Ty, t.Ok → Nm t → R 29 [t.av] [] = some (.t (.bool (valid t)), []) := by
  refine Ty.ind fun n l ih hok hnm => ?_
  have hl := hok.parts
  obtain ⟨hn, hm⟩ := hnm.parts
  have hj : J29_0 R n (rows l) = some (.t (.bool (validL l)), []) := by
    rw [j29_0]
    exact L29 hl.1 n (fun t ht => ih t ht (hl.2 t ht) (hm t ht)) l.length 0 (by omega)
  have h63 := R63 hn
  have h36 := R36 hn
  have hz := dotsN_zero n
  have hs := split_none (n := n)
  unfold R at *
  rw [av_mk, call_unfold Try.func29, e29, valid]
  generalize splitS n = s at hs h36 ⊢
  obtain ⟨s1, s2, s3⟩ := s
  cases hn0 : (n == []) with
  | true => rfl
  | false =>
    simp only [cond_false, h63, Option.bind_some, AV.int1K, AV.intK, AV.tK, T.intK, IntKind.same, cond_true, nilK, rows_length]
    by_cases hd : (46 : UInt8) ∈ n
    · have h0 : dotsN n ≠ 0 := fun e => (hz.1 e) hd
      have h1 : (0 : Int) < ((dotsN n : Nat) : Int) := by omega
      simp only [h1, hd, decide_true, cond_true, h36, splitAV, Option.bind_some, AV.tupK, consK, AV.strK, AV.tK, T.strK, AV.boolK, T.boolK, nilK]
      cases s3 with
      | true => exact hj
      | false => rfl
    · have h0 := hz.2 hd
      have h1 : ¬ (0 : Int) < ((dotsN n : Nat) : Int) := by omega
      simp only [h1, hd, decide_false, cond_false]
      cases (n == ([65, 114, 114, 97, 121] : List UInt8)) with
      | true =>
        simp only [cond_true]
        by_cases hla : l.length = 1
        · have h2 : ((l.length : Int) == (1 : Int)) = true := by rw [beq_iff_eq]; omega
          rw [h2, decide_eq_true hla]
          exact hj
        · have h2 : ((l.length : Int) == (1 : Int)) = false := by rw [beq_eq_false_iff_ne]; omega
          rw [h2, decide_eq_false hla]
          rfl
      | false =>
        simp only [cond_false]
        by_cases hla : l.length = 0
        · have h2 : ¬ (0 : Int) < (l.length : Int) := by omega
          rw [decide_eq_false h2, decide_eq_true hla]
          exact hj
        · have h2 : (0 : Int) < (l.length : Int) := by omega
          rw [decide_eq_true h2, decide_eq_false hla]
          rfl

/-! ### Comparing -/
theorem L30 {l m : List Ty} (hl : l.length ≤ 1000) (s0 s2 : Str) (ih : ∀ t, t ∈ l → ∀ u, R 30 [t.av, u.av] [] = some (.t (.int .i64 (cmp t u)), [])) :
    ∀ (j k : Nat), j + k = l.length → k ≤ m.length → L30_0 R (K30_0 R) s0 (rows l) s2 (rows m) (k : Int) = some (.t (.int .i64 (cmpL (l.drop k) (m.drop k))), []) := by
  intro j
  induction j with
  | zero =>
    intro k hk hkm
    have h1 : ¬ (k : Int) < (l.length : Int) := by omega
    rw [l30_0]
    simp only [rows_length]
    simp only [h1, decide_false, cond_false, x30_0_x2, rows_length]
    rw [List.drop_eq_nil_of_le (by omega : l.length ≤ k)]
    by_cases h2 : l.length < m.length
    · obtain ⟨u, hu⟩ := at_of (l := m) (k := k) (by omega)
      have h3 : (l.length : Int) < (m.length : Int) := by omega
      rw [drop_of hu, cmpL]
      simp only [h3, decide_true, cond_true]
    · rw [List.drop_eq_nil_of_le (by omega : m.length ≤ k), cmpL]
      have h3 : ¬ (l.length : Int) < (m.length : Int) := by omega
      by_cases h4 : (m.length : Int) < (l.length : Int)
      · omega
      · simp only [h3, h4, decide_false, cond_false]
  | succ j ihj =>
    intro k hk hkm
    obtain ⟨t, ht⟩ := at_of (l := l) (k := k) (by omega)
    have iht := ih t (List.mem_of_getElem? ht)
    obtain ⟨n, a⟩ := t
    have h1 : (k : Int) < (l.length : Int) := by omega
    have h2 : (0 : Int) ≤ (k : Int) ∧ (k : Int) < (l.length : Int) := ⟨by omega, h1⟩
    rw [l30_0]
    simp only [rows_length]
    rw [drop_of ht]
    by_cases h3 : k < m.length
    · obtain ⟨u, hu⟩ := at_of (l := m) (k := k) h3
      have iht := iht u
      obtain ⟨n', a'⟩ := u
      have h5 : (k : Int) < (m.length : Int) := by omega
      rw [av_mk, av_mk] at iht
      rw [drop_of hu, cmpL]
      simp only [h1, h5, h2.1, decide_true, cond_true, and_self, Int.toNat_natCast, nth_rows ht, nth_rows hu, nth, iht, Option.bind_some, AV.int1K, AV.intK, AV.tK, T.intK, IntKind.same, nilK]
      cases hc : (cmp (.mk n a) (.mk n' a') == 0) with
      | true =>
        simp only [Bool.not_true, cond_false, cond_true]
        rw [wrap_succ (by omega)]
        exact ihj (k + 1) (by omega) (by omega)
      | false => simp only [Bool.not_false, cond_false, cond_true, x30_0_x0]
    · have h5 : ¬ (k : Int) < (m.length : Int) := by omega
      have h6 : ¬ (l.length : Int) < (m.length : Int) := by omega
      have h7 : (m.length : Int) < (l.length : Int) := by omega
      rw [List.drop_eq_nil_of_le (by omega : m.length ≤ k), cmpL]
      simp only [h1, h5, decide_true, decide_false, cond_true, cond_false, x30_0_x1, rows_length, h6, h7]
theorem R30 : ∀ t : Ty, t.Ok → ∀ u, R 30 [t.av, u.av] [] = some (.t (.int .i64 (cmp t u)), []) := by
  refine Ty.ind fun n l ih hok u => ?_
  obtain ⟨n', m⟩ := u
  have hl := hok.parts
  have main := L30 (m := m) hl.1 n n' (fun t ht u => ih t ht (hl.2 t ht) u) l.length 0 (by omega) (by omega)
  unfold R at *
  rw [av_mk, av_mk, call_unfold Try.func30, e30, cmp]
  by_cases he : n = n'
  · have h1 : (n == n') = true := by rw [beq_iff_eq]; exact he
    have h2 : (compareS n n' == 0) = true := by rw [beq_iff_eq]; exact (ord_S.eq n n').2 he
    rw [h1, h2]
    exact main
  · have h1 : (n == n') = false := by rw [beq_eq_false_iff_ne]; exact he
    have h2 : (compareS n n' == 0) = false := by rw [beq_eq_false_iff_ne]; exact fun e => he ((ord_S.eq n n').1 e)
    rw [h1, h2]
    simp only [compareS, h1, Bool.not_false, cond_true, cond_false]
    cases Op.bytesLess n n' <;> rfl

/-! ### Closed -/
theorem prm_mono : ∀ t : Ty, ∀ out : List Str, out.length ≤ (prm t out).length := by
  refine Ty.ind fun n l ih out => ?_
  have hL : ∀ (l : List Ty), (∀ t, t ∈ l → ∀ out : List Str, out.length ≤ (prm t out).length) → ∀ out : List Str, out.length ≤ (prmL l out).length := by
    intro l
    induction l with
    | nil => intro _ out; rw [prmL]; exact Nat.le_refl _
    | cons t l ihl =>
      intro h out
      rw [prmL]
      exact Nat.le_trans (h t (by simp) out) (ihl (fun t ht => h t (by simp [ht])) _)
  rw [prm]
  refine Nat.le_trans ?_ (hL l ih _)
  cases isParam n <;> cases decide (n ∈ out) <;> simp
theorem prmL_mono : ∀ (l : List Ty) (out : List Str), out.length ≤ (prmL l out).length
  | [], out => by rw [prmL]; exact Nat.le_refl _
  | t :: l, out => by rw [prmL]; exact Nat.le_trans (prm_mono t out) (prmL_mono l _)
theorem prm_closed : ∀ t : Ty, ∀ out : List Str, closed t = true → prm t out = out := by
  refine Ty.ind fun n l ih out hc => ?_
  have hL : ∀ (l : List Ty), (∀ t, t ∈ l → ∀ out : List Str, closed t = true → prm t out = out) → ∀ out : List Str, closedL l = true → prmL l out = out := by
    intro l
    induction l with
    | nil => intro _ out _; rw [prmL]
    | cons t l ihl =>
      intro h out hc
      rw [closedL] at hc
      cases ht : closed t with
      | false => rw [ht] at hc; exact absurd hc (by simp)
      | true =>
        rw [ht, cond_true] at hc
        rw [prmL, h t (by simp) out ht]
        exact ihl (fun t ht => h t (by simp [ht])) out hc
  rw [closed] at hc
  rw [prm]
  cases hp : isParam n with
  | true => rw [hp] at hc; exact absurd hc (by simp)
  | false =>
    rw [hp, Bool.not_false, cond_true] at hc
    rw [cond_false]
    exact hL l ih out hc
theorem prm_open : ∀ t : Ty, ∀ out : List Str, closed t = false → 0 < (prm t out).length := by
  refine Ty.ind fun n l ih out hc => ?_
  have hL : ∀ (l : List Ty), (∀ t, t ∈ l → ∀ out : List Str, closed t = false → 0 < (prm t out).length) → ∀ out : List Str, closedL l = false → 0 < (prmL l out).length := by
    intro l
    induction l with
    | nil => intro _ out hc; rw [closedL] at hc; exact absurd hc (by simp)
    | cons t l ihl =>
      intro h out hc
      rw [closedL] at hc
      rw [prmL]
      cases ht : closed t with
      | false => exact Nat.lt_of_lt_of_le (h t (by simp) out ht) (prmL_mono l _)
      | true =>
        rw [ht, cond_true] at hc
        exact ihl (fun t ht => h t (by simp [ht])) _ hc
  rw [closed] at hc
  rw [prm]
  cases hp : isParam n with
  | true =>
    rw [cond_true]
    refine Nat.lt_of_lt_of_le ?_ (prmL_mono l _)
    by_cases hm : n ∈ out
    · rw [decide_eq_true hm, cond_true]; exact List.length_pos_of_mem hm
    · rw [decide_eq_false hm, cond_false]; simp
  | false =>
    rw [hp, Bool.not_false, cond_true] at hc
    rw [cond_false]
    exact hL l ih out hc
theorem R33 (t : Ty) (hok : t.Ok) (hm : Nm t) (hs : size t ≤ 10000) : R 33 [t.av] [] = some (.t (.bool (closed t)), []) := by
  have h21 := R21 t hok hm hs
  have h1 := prm_closed t []
  have h2 := prm_open t []
  generalize prm t [] = p at h21 h1 h2
  have e : ((((strRows p).length : Nat) : Int) == 0) = closed t := by
    rw [strRows_length]
    cases hc : closed t with
    | true => rw [h1 hc]; rfl
    | false => rw [beq_eq_false_iff_ne]; have := h2 hc; omega
  obtain ⟨n, l⟩ := t
  unfold R at *
  rw [av_mk] at *
  rw [call_unfold Try.func33, e33, h21]
  simp only [Option.bind_some, AV.sl1K, AV.tK, T.slK, Nat.beq, cond_true, nilK]
  rw [e]

/-! ### Texts -/
theorem L87 {l : List Ty} (hl : l.length ≤ 1000) (ih : ∀ t, t ∈ l → (text t).length ≤ 100000000 → R 64 [t.av] [] = some (.t (.str (text t)), [])) : ∀ (j k : Nat) (acc : Str), j + (k + 1) = l.length → acc.length + (textR (l.drop (k + 1))).length ≤ 100000000 →
    L87_0 R (K87_0 R) acc (rows l) ((k + 1 : Nat) : Int) = some (.t (.str (acc ++ textR (l.drop (k + 1)))), []) := by
  intro j
  induction j with
  | zero =>
    intro k acc hk hb
    have h1 : ¬ ((k + 1 : Nat) : Int) < (l.length : Int) := by omega
    rw [l87_0]
    simp only [rows_length]
    simp only [h1, decide_false, cond_false, x87_0_x0]
    rw [List.drop_eq_nil_of_le (by omega : l.length ≤ k + 1), textR, List.append_nil]
  | succ j ihj =>
    intro k acc hk hb
    obtain ⟨t, ht⟩ := at_of (l := l) (k := k + 1) (by omega)
    rw [drop_of ht] at hb ⊢
    rw [textR] at hb ⊢
    simp only [List.length_append, List.length_cons, List.length_nil] at hb
    have iht := ih t (List.mem_of_getElem? ht) (by omega)
    obtain ⟨n, a⟩ := t
    have h1 : ((k + 1 : Nat) : Int) < (l.length : Int) := by omega
    have h2 : (0 : Int) ≤ ((k + 1 : Nat) : Int) := by omega
    have h3 : (0 : Int) < ((k + 1 : Nat) : Int) := by omega
    have b1 : Nat.ble (acc.length + ([44, 32] : List UInt8).length) 9223372036854775807 = true := by rw [Nat.ble_eq]; simp only [List.length_cons, List.length_nil]; omega
    have b2 : Nat.ble ((acc ++ ([44, 32] : List UInt8)).length + (text (.mk n a)).length) 9223372036854775807 = true := by rw [Nat.ble_eq]; simp only [List.length_append, List.length_cons, List.length_nil]; omega
    have next := ihj (k + 1) ((acc ++ [44, 32]) ++ text (.mk n a)) (by omega) (by simp only [List.length_append, List.length_cons, List.length_nil]; omega)
    rw [av_mk] at iht
    rw [l87_0]
    simp only [rows_length]
    simp only [h1, h2, h3, decide_true, cond_true, and_self, Int.toNat_natCast, nth_rows ht, nth, b1, k87_0_0, iht, Option.bind_some, AV.strK, AV.tK, T.strK, nilK, b2]
    rw [wrap_succ (by omega), next]
    simp only [List.append_assoc]
theorem R64 : ∀ t : Ty, t.Ok → (text t).length ≤ 100000000 → R 64 [t.av] [] = some (.t (.str (text t)), []) := by
  refine Ty.ind fun n l ih hok hlen => ?_
  have hl := hok.parts
  have parts := fun t (ht : t ∈ l) hh => ih t ht (hl.2 t ht) hh
  have h80 : R 80 [.t (.sl 2 (rows l))] [] = some (.t (.str (textB l)), []) := by
    match l, hl, parts, hlen with
    | [], _, _, _ =>
      unfold R
      rw [call_unfold Try.func80, e80]
      rfl
    | t :: l, hl, parts, hlen =>
      rw [text, textB] at hlen
      simp only [List.length_append, List.length_cons, List.length_nil] at hlen
      have iht := parts t (by simp) (by omega)
      have next := L87 hl.1 parts l.length 0 (text t) (by simp) (by simp only [List.drop_succ_cons, List.drop_zero]; omega)
      have h87 : R 87 [.t (.sl 2 (rows (t :: l)))] [] = some (.t (.str (text t ++ textR l)), []) := by
        have h1 : (0 : Int) < ((t :: l).length : Int) := by simp only [List.length_cons]; omega
        have hr : rows (t :: l) = [.str t.name, .sl 2 (rows t.args)] :: rows l := by obtain ⟨n', a⟩ := t; simp only [rows, List.map_cons, row_mk]; rfl
        have b2 : Nat.ble (([] : List UInt8).length + (text t).length) 9223372036854775807 = true := by rw [Nat.ble_eq]; simp only [List.length_nil]; omega
        have k := k87_0_0 R (K87_0 R) [] (rows (t :: l)) (.str t.name) (.sl 2 (rows t.args)) 0
        rw [show (.agg [.t (.str t.name), .t (.sl 2 (rows t.args))] : AV) = t.av from rfl, iht] at k
        simp only [Option.bind_some, AV.strK, AV.tK, T.strK, nilK, b2, cond_true, List.nil_append] at k
        rw [show IntKind.wrap .i64 ((0 : Int) + 1) = ((0 + 1 : Nat) : Int) by decide, next] at k
        have lz := l87_0 R (K87_0 R) [] (rows (t :: l)) 0
        rw [rows_length, decide_eq_true h1, decide_eq_true (p := (0 : Int) ≤ 0 ∧ (0 : Int) < ((t :: l).length : Int)) ⟨by omega, h1⟩] at lz
        have lz' : L87_0 R (K87_0 R) [] (rows (t :: l)) 0 = M87_0_0 R (K87_0 R) [] (rows (t :: l)) (.str t.name) (.sl 2 (rows t.args)) 0 := by
          rw [lz, cond_true, cond_true, decide_eq_false (by omega), cond_false]
          rw [hr]
          rfl
        have e := e87 R (rows (t :: l))
        rw [lz', k] at e
        unfold R at *
        rw [call_unfold Try.func87]
        exact e
      have b1 : Nat.ble (([91] : List UInt8).length + (text t ++ textR l).length) 9223372036854775807 = true := by rw [Nat.ble_eq]; simp only [List.length_append, List.length_cons, List.length_nil]; omega
      have b2 : Nat.ble ((([91] : List UInt8) ++ (text t ++ textR l)).length + ([93] : List UInt8).length) 9223372036854775807 = true := by rw [Nat.ble_eq]; simp only [List.length_append, List.length_cons, List.length_nil]; omega
      have h0 : (((t :: l).length : Int) == 0) = false := by rw [beq_eq_false_iff_ne]; simp only [List.length_cons]; omega
      unfold R at *
      rw [call_unfold Try.func80, e80, rows_length, h0, cond_false, h87]
      simp only [Option.bind_some, AV.strK, AV.tK, T.strK, nilK, b1, b2, cond_true]
      rw [textB]
  rw [text] at hlen ⊢
  simp only [List.length_append] at hlen
  have b1 : Nat.ble (n.length + (textB l).length) 9223372036854775807 = true := by rw [Nat.ble_eq]; omega
  unfold R at *
  rw [av_mk, call_unfold Try.func64, e64, h80]
  simp only [Option.bind_some, AV.strK, AV.tK, T.strK, nilK, b1, cond_true]
theorem R34 (t : Ty) (hok : t.Ok) (h : (text t).length ≤ 100000000) : R 34 [t.av] [] = some (.t (.str (text t)), []) := by
  have h64 := R64 t hok h
  obtain ⟨n, l⟩ := t
  unfold R at *
  rw [av_mk] at *
  rw [call_unfold Try.func34, e34, h64]
  simp only [Option.bind_some, AV.strK, AV.tK, T.strK, nilK]
theorem text_wt : ∀ t : Ty, (text t).length + 2 ≤ 4 * wt t := by
  refine Ty.ind fun n l ih => ?_
  have hR : ∀ l : List Ty, (∀ t, t ∈ l → (text t).length + 2 ≤ 4 * wt t) → (textR l).length ≤ 4 * wtL l := by
    intro l
    induction l with
    | nil => intro _; rw [textR, wtL]; exact Nat.le_refl _
    | cons t l ihl =>
      intro h
      have h1 := h t (by simp)
      have h2 := ihl fun t ht => h t (by simp [ht])
      rw [textR, wtL]
      simp only [List.length_append, List.length_cons, List.length_nil]
      omega
  rw [text, wt]
  match l, ih with
  | [], _ =>
    rw [textB, wtL]
    simp only [List.length_append, List.length_nil]
    omega
  | t :: l, ih =>
    have h1 := ih t (by simp)
    have h2 := hR l fun t ht => ih t (by simp [ht])
    rw [textB, wtL]
    simp only [List.length_append, List.length_cons, List.length_nil]
    omega
end Go.AS.Q4
