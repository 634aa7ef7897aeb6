/- AS, the seat of law 4: the references of parameters and of matching; small types. -/
import Derived.Test.YtnodfpndnpeedaaQ4J
namespace Go.AS.Q4
open Go.Proofs
set_option linter.all false

/-! ### Full stops -/
def dotsN : Str → Nat
  | [] => 0
  | c :: s => (if c = 46 then 1 else 0) + dotsN s
theorem dotsN_append : ∀ a b : Str, dotsN (a ++ b) = dotsN a + dotsN b
  | [], b => by simp [dotsN]
  | c :: a, b => by simp only [List.cons_append, dotsN, dotsN_append a b]; omega
theorem dotsN_le : ∀ s : Str, dotsN s ≤ s.length
  | [] => Nat.le_refl _
  | c :: s => by have := dotsN_le s; simp only [dotsN, List.length_cons]; split <;> omega
theorem dotsN_zero : ∀ s : Str, dotsN s = 0 ↔ (46 : UInt8) ∉ s
  | [] => by simp [dotsN]
  | c :: s => by
    have ih := dotsN_zero s
    simp only [dotsN, List.mem_cons, not_or]
    by_cases h : c = 46
    · simp [h]
    · simp only [h, if_false, Nat.zero_add, ih]
      exact ⟨fun h' => ⟨fun e => h e.symm, h'⟩, fun h' => h'.2⟩
theorem byte_eq (c : UInt8) : ((c.toNat : Int) == (46 : Int)) = decide (c = 46) := by
  by_cases h : c = 46
  · subst h; rfl
  · simp only [h, decide_false]
    rw [beq_eq_false_iff_ne]
    intro e
    apply h
    apply UInt8.toNat_inj.1
    have : c.toNat = 46 := by omega
    rw [this]; rfl
theorem nth_str {s : Str} {k : Nat} {c : UInt8} (h : s[k]? = some c) : nth 0 s k = c := by rw [nth_get, h]; rfl
theorem L63 {s : Str} (hs : s.length ≤ 9223372036854775807) : ∀ (j k : Nat), j + k = s.length → L63_0 R (K63_0 R) s ((dotsN (s.take k) : Nat) : Int) (k : Int) = some (.t (.int .i64 ((dotsN s : Nat) : Int)), []) := by
  intro j
  induction j with
  | zero =>
    intro k hk
    have h1 : ¬ (k : Int) < (s.length : Int) := by omega
    rw [l63_0]
    simp only [h1, decide_false, cond_false, x63_0_x0]
    rw [List.take_of_length_le (by omega : s.length ≤ k)]
  | succ j ihj =>
    intro k hk
    obtain ⟨c, hc⟩ := at_of (l := s) (k := k) (by omega)
    have next := ihj (k + 1) (by omega)
    have hle := dotsN_le (s.take k)
    rw [List.length_take] at hle
    rw [take_of hc, dotsN_append] at next
    have h1 : (k : Int) < (s.length : Int) := by omega
    have h2 : (0 : Int) ≤ (k : Int) := by omega
    rw [l63_0]
    simp only [h1, h2, decide_true, cond_true, and_self, Int.toNat_natCast, nth_str hc, byte_eq]
    by_cases h : c = 46
    · simp only [h, decide_true, cond_true]
      simp only [dotsN, h, if_true] at next
      rw [wrap_succ (by omega), wrap_succ (by omega)]
      exact next
    · simp only [h, decide_false, cond_false]
      simp only [dotsN, h, if_false] at next
      rw [wrap_succ (by omega)]
      exact next
theorem R63 {s : Str} (hs : s.length ≤ 9223372036854775807) : R 63 [.t (.str s)] [] = some (.t (.int .i64 ((dotsN s : Nat) : Int)), []) := by
  have := L63 hs s.length 0 (by omega)
  unfold R at *
  rw [call_unfold Try.func63, e63]
  exact this
theorem R38 (s : Str) : R 38 [.t (.str s)] [] = some (.t (.bool (builtin s)), []) := by
  unfold R builtin
  rw [call_unfold Try.func38, e38]
  cases (s == [73, 110, 116]) <;> cases (s == [66, 121, 116, 101]) <;> cases (s == [66, 111, 111, 108]) <;> rfl
theorem contains_dot (s : Str) : containsS s [46] = decide ((46 : UInt8) ∈ s) := by
  rw [containsS_one]
  induction s with
  | nil => rfl
  | cons b l ih =>
    have hge := Lib.indexByte_ge l 46
    by_cases h : b = 46
    · subst h
      simp [Lib.indexByte]
    · have h1 : (b == 46) = false := by rw [beq_eq_false_iff_ne]; exact h
      have e : decide ((46 : UInt8) ∈ b :: l) = decide ((46 : UInt8) ∈ l) := by
        rw [decide_eq_decide, List.mem_cons]
        exact ⟨fun h' => h'.resolve_left fun e => h e.symm, fun h' => .inr h'⟩
      rw [e, ← ih, decide_eq_decide]
      simp only [Lib.indexByte, h1]
      by_cases h0 : Lib.indexByte l 46 = -1
      · simp [h0]
      · have h3 : (Lib.indexByte l 46 == -1) = false := by rw [beq_eq_false_iff_ne]; exact h0
        simp only [h3]
        simp
        omega
theorem R75 {s : Str} (hs : s.length ≤ 9223372036854775807) : R 75 [.t (.str s)] [] = some (.t (.bool (isParam s)), []) := by
  have h63 := R63 hs
  have h38 := R38 s
  unfold R at *
  rw [call_unfold Try.func75, e75, h63]
  simp only [Option.bind_some, AV.int1K, AV.intK, AV.tK, T.intK, IntKind.same, cond_true, nilK]
  unfold isParam
  rw [contains_dot]
  have hz := dotsN_zero s
  by_cases h : (46 : UInt8) ∈ s
  · have h0 : dotsN s ≠ 0 := fun e => (hz.1 e) h
    have h1 : (((dotsN s : Nat) : Int) == 0) = false := by rw [beq_eq_false_iff_ne]; omega
    simp only [h1, h, decide_true, cond_false, Bool.not_true]
    cases builtin s <;> rfl
  · have h0 := hz.2 h
    have h1 : (((dotsN s : Nat) : Int) == 0) = true := by rw [beq_iff_eq]; omega
    simp only [h1, h, decide_false, cond_true, h38, Option.bind_some, AV.boolK, AV.tK, T.boolK, nilK, Bool.not_false]
    cases builtin s <;> rfl

/-! ### Parameters -/
/-- No name is longer than any text is. -/
inductive Nm : Ty → Prop
  | mk (n : Str) (l : List Ty) (hn : n.length ≤ 9223372036854775807) (h : ∀ t, t ∈ l → Nm t) : Nm (.mk n l)
theorem Nm.parts {n : Str} {l : List Ty} (h : Nm (.mk n l)) : n.length ≤ 9223372036854775807 ∧ ∀ t, t ∈ l → Nm t := by cases h with | mk _ _ a b => exact ⟨a, b⟩
theorem L52 {n : Str} {l : List Ty} (hl : l.length ≤ 1000) (hs : sizeL l ≤ 10000) (ih : ∀ t, t ∈ l → ∀ out : List Str, out.length ≤ 90000 → out.length + size t ≤ 90000 → R 52 [t.av, .rowp 0 1 none] (ph out) = some (.rowp 0 1 none, ph (prm t out))) :
    ∀ (j k : Nat) (out : List Str), j + k = l.length → out.length + sizeL (l.drop k) ≤ 90000 → L52_0 R (K52_0 R) (rows l) (strRows out) n (k : Int) = some (.rowp 0 1 none, ph (prmL (l.drop k) out)) := by
  intro j
  induction j with
  | zero =>
    intro k out hk ho
    have h1 : ¬ (k : Int) < (l.length : Int) := by omega
    rw [l52_0]
    simp only [rows_length]
    simp only [h1, decide_false, cond_false, x52_0_x0]
    rw [List.drop_eq_nil_of_le (by omega : l.length ≤ k)]
    rfl
  | succ j ihj =>
    intro k out hk ho
    obtain ⟨t, ht⟩ := at_of (l := l) (k := k) (by omega)
    rw [drop_of ht] at ho ⊢
    simp only [sizeL] at ho
    have iht := ih t (List.mem_of_getElem? ht) out (by omega) (by omega)
    have hpl := prm_len t out
    have next := ihj (k + 1) (prm t out) (by omega) (by omega)
    have h1 : (k : Int) < (l.length : Int) := by omega
    have h2 : (0 : Int) ≤ (k : Int) := by omega
    simp only [prmL]
    obtain ⟨n', a⟩ := t
    rw [l52_0]
    simp only [rows_length]
    unfold ph at iht
    rw [av_mk] at iht
    simp only [h1, h2, decide_true, cond_true, and_self, Int.toNat_natCast, nth_rows ht, nth, iht, Option.bind_some, AV.rowpK, Nat.beq, consK, Ent.rowK, nilK]
    rw [wrap_succ (by omega)]
    exact next
theorem R52 : ∀ t : Ty, t.Ok → Nm t → size t ≤ 10000 → ∀ out : List Str, out.length ≤ 90000 → out.length + size t ≤ 90000 → R 52 [t.av, .rowp 0 1 none] (ph out) = some (.rowp 0 1 none, ph (prm t out)) := by
  refine Ty.ind fun n l ih hok hnm hs out ho1 ho => ?_
  have hl := hok.parts
  have hm := hnm.parts
  simp only [size] at hs ho
  have h75 := R75 hm.1
  have main : ∀ out : List Str, out.length + sizeL l ≤ 90000 → J52_0 R (strRows out) n (rows l) = some (.rowp 0 1 none, ph (prmL l out)) := by
    intro out ho
    have := L52 (n := n) hl.1 (by omega) (fun t ht out h1 h2 => ih t ht (hl.2 t ht) (hm.2 t ht) (by have := size_mem ht; omega) out h1 h2) l.length 0 out (by omega) (by simpa using ho)
    rw [j52_0]
    simpa using this
  simp only [prm]
  have h48 := R48 (l := out) (by omega) n
  unfold R ph at *
  rw [av_mk, call_unfold Try.func52, e52, h75]
  simp only [Option.bind_some, AV.boolK, AV.tK, T.boolK, nilK]
  cases hp : isParam n with
  | false =>
    simp only [cond_false]
    exact main out (by omega)
  | true =>
    simp only [cond_true]
    rw [h48]
    simp only [Option.bind_some, AV.boolK, AV.tK, T.boolK, nilK]
    cases hm : decide (n ∈ out) with
    | true =>
      simp only [Bool.not_true, cond_false, cond_true]
      exact main out (by omega)
    | false =>
      have hlim : lim 16 = 8796093022208 := by decide
      have b1 : Nat.ble ((strRows out).length + 1) (lim 16) = true := by rw [Nat.ble_eq, hlim, strRows_length]; omega
      have e : strRows out ++ [[T.str n]] = strRows (out ++ [n]) := by simp [strRows]
      simp only [Bool.not_false, cond_true, cond_false, List.length_cons, List.length_nil, Nat.zero_add, b1, e]
      exact main (out ++ [n]) (by simp; omega)
theorem R21 (t : Ty) (hok : t.Ok) (hm : Nm t) (hs : size t ≤ 10000) : R 21 [t.av] [] = some (.t (.sl 1 (strRows (prm t []))), []) := by
  have h52 := R52 t hok hm hs [] (by simp) (by simp; omega)
  obtain ⟨n, l⟩ := t
  unfold R ph at *
  rw [show strRows [] = [] from rfl] at h52
  rw [av_mk] at *
  rw [call_unfold Try.func21, e21, h52]
  simp only [Option.bind_some, AV.rowpK, Nat.beq, cond_true, consK, Ent.rowK, nilK]

/-! ### Matching -/
def ocell : Option Ty → List T
  | none => [.str [], .sl 2 []]
  | some t => t.row
def fb (f : List (Option Ty)) : List (List T) := f.map fun x => [.bool x.isSome]
def fo (f : List (Option Ty)) : List (List T) := f.map ocell
theorem fb_length (f : List (Option Ty)) : (fb f).length = f.length := by simp [fb]
theorem fo_length (f : List (Option Ty)) : (fo f).length = f.length := by simp [fo]
theorem nth_fb {f : List (Option Ty)} {k : Nat} {x : Option Ty} (h : f[k]? = some x) : nth [] (fb f) k = [.bool x.isSome] := by rw [fb, nth_map [] _ h]
theorem nth_fo {f : List (Option Ty)} {k : Nat} {x : Option Ty} (h : f[k]? = some x) : nth [] (fo f) k = ocell x := by rw [fo, nth_map [] _ h]
def mr (f : List (Option Ty)) : Heap := [(0, .row 0 1 4 (fb f)), (1, .row 0 2 27 (fo f))]
def MatchesR (names : List Str) (p : Ty) : Prop := ∀ t : Ty, t.Ok → ∀ f, FOk names f → R 56 [p.av, t.av, .t (.sl 1 (strRows names)), .rowp 0 0 none, .rowp 1 0 none] (mr f) = some (.t (.bool (mt names p t f).1), mr (mt names p t f).2)
theorem L56 {names : List Str} {n n' : Str} {l m : List Ty} (hl : l.length ≤ 1000) (hlm : l.length = m.length) (hm : ∀ t, t ∈ m → t.Ok) (ih : ∀ p, p ∈ l → MatchesR names p) : ∀ (j k : Nat) (f : List (Option Ty)), j + k = l.length → FOk names f →
    L56_0 R (K56_0 R) (strRows names) (fb f) (fo f) n (rows l) n' (rows m) (k : Int) = some (.t (.bool (mtL names (l.drop k) (m.drop k) f).1), mr (mtL names (l.drop k) (m.drop k) f).2) := by
  intro j
  induction j with
  | zero =>
    intro k f hk hf
    have h1 : ¬ (k : Int) < (m.length : Int) := by omega
    rw [l56_0]
    simp only [rows_length]
    simp only [h1, decide_false, cond_false, x56_0_x1]
    rw [List.drop_eq_nil_of_le (by omega : l.length ≤ k)]
    simp only [mtL]
    rfl
  | succ j ihj =>
    intro k f hk hf
    obtain ⟨p, hp⟩ := at_of (l := l) (k := k) (by omega)
    obtain ⟨t, ht⟩ := at_of (l := m) (k := k) (by omega)
    have h56 := ih p (List.mem_of_getElem? hp) t (hm t (List.mem_of_getElem? ht)) f hf
    have hf' := mt_ok p t (hm t (List.mem_of_getElem? ht)) f hf
    have hdp := drop_of hp
    have hdt := drop_of ht
    have next := ihj (k + 1) (mt names p t f).2 (by omega) hf'
    obtain ⟨np, a⟩ := p
    obtain ⟨nt, a'⟩ := t
    have h1 : (k : Int) < (l.length : Int) := by omega
    have h2 : (0 : Int) ≤ (k : Int) := by omega
    have h3 : (k : Int) < (m.length : Int) := by omega
    rw [l56_0]
    simp only [rows_length]
    unfold mr at h56
    rw [av_mk, av_mk] at h56
    simp only [h1, h2, h3, decide_true, cond_true, and_self, Int.toNat_natCast, nth_rows hp, nth_rows ht, nth, h56, Option.bind_some, AV.boolK, AV.tK, T.boolK, consK, Nat.beq, Ent.rowK, nilK]
    rw [hdp, hdt]
    simp only [mtL]
    cases hc : (mt names (.mk np a) (.mk nt a') f).1 with
    | true =>
      simp only [Bool.not_true, cond_false, cond_true]
      rw [wrap_succ (by omega)]
      exact next
    | false =>
      simp only [Bool.not_false, cond_true, cond_false, x56_0_x0]
      rfl
theorem R56 {names : List Str} (hn : names.length ≤ 10000) : ∀ p : Ty, p.Ok → MatchesR names p := by
  refine Ty.ind fun n l ih hok t ht f hf => ?_
  obtain ⟨n', m⟩ := t
  have hl := hok.parts
  have hm := ht.parts
  have h72 := R72 (l := names) (by omega) n
  rw [mt_mk, rp_mk]
  -- behind the look at the names
  have rest : (match l with | [] => ix names n | _ :: _ => none) = none →
      (bif (!(n == n')) then (some ((.t (T.bool false) : AV), [(0, .row 0 1 4 (fb f)), (1, .row 0 2 27 (fo f))])) else (bif (!((l.length : Int) == (m.length : Int))) then (some ((.t (T.bool false) : AV), [(0, .row 0 1 4 (fb f)), (1, .row 0 2 27 (fo f))])) else (L56_0 R (K56_0 R) (strRows names) (fb f) (fo f) n (rows l) n' (rows m) (0 : Int)))) =
      some ((.t (.bool (cond (n == n') (cond (l.length == m.length) (mtL names l m f) (false, f)) (false, f)).1) : AV), mr (cond (n == n') (cond (l.length == m.length) (mtL names l m f) (false, f)) (false, f)).2) := by
    intro _
    cases hb : (n == n') with
    | false => simp only [Bool.not_false, cond_true, cond_false]; rfl
    | true =>
      simp only [Bool.not_true, cond_true, cond_false]
      cases hc : (l.length == m.length) with
      | false =>
        have h1 : (((l.length : Int) == (m.length : Int))) = false := by
          rw [beq_eq_false_iff_ne] at hc ⊢; omega
        simp only [h1, Bool.not_false, cond_true, cond_false]; rfl
      | true =>
        have hlm : l.length = m.length := by simpa using hc
        have h1 : (((l.length : Int) == (m.length : Int))) = true := by rw [beq_iff_eq]; omega
        have main := L56 (n := n) (n' := n') hl.1 hlm hm.2 (fun p hp => ih p hp (hl.2 p hp)) l.length 0 f (by omega) hf
        simp only [h1, Bool.not_true, cond_false, cond_true]
        rw [show (0 : Int) = ((0 : Nat) : Int) from rfl, main]
        simp only [List.drop_zero]
  have hname : (Ty.mk n' m).name = n' := rfl
  have hargs : (Ty.mk n' m).args = m := rfl
  rw [hname, hargs]
  unfold mr at *
  cases l with
  | nil =>
    simp only at rest ⊢
    cases hr : ix names n with
    | some k =>
      have hk := ix_lt hr
      obtain ⟨x, hx⟩ := at_of (l := f) (k := k) (by rw [hf.1]; exact (List.getElem?_eq_some_iff.1 hk).1)
      have hkl := (List.getElem?_eq_some_iff.1 hx).1
      have h1 : (0 : Int) ≤ (k : Int) := by omega
      have h2 : (k : Int) < (f.length : Int) := by omega
      simp only [hx]
      cases x with
      | some u =>
        have hu := hf.2 k u hx
        have h20 := R20 u hu (.mk n' m)
        obtain ⟨nu, lu⟩ := u
        unfold R at *
        rw [av_mk] at *
        rw [av_mk] at *
        rw [call_unfold Try.func56, e56, h72]
        simp only [ixI, hr, Option.bind_some, AV.int1K, AV.intK, AV.tK, T.intK, IntKind.same, cond_true, nilK, rows_length, List.length_nil, h1, h2, fb_length, fo_length, and_self, decide_true, Int.toNat_natCast, nth_fb hx, nth_fo hx, nth, show ((((0 : Nat) : Int)) == (0 : Int)) = true from rfl, Option.isSome, T.boolK, ocell, row_mk, h20, AV.boolK]
      | none =>
        have h73 := R73 (.mk n' m) ht
        have e1 : setN (fb f) k [T.bool true] = fb (f.set k (some (.mk n' m))) := by
          rw [setN_set]; simp [fb, List.map_set]
        have e2 : setN (fo f) k [T.str n', T.sl 2 (rows m)] = fo (f.set k (some (.mk n' m))) := by
          rw [setN_set]; simp [fo, List.map_set, ocell, row_mk]
        unfold R at *
        rw [av_mk] at *
        rw [av_mk] at *
        rw [call_unfold Try.func56, e56, h72]
        simp only [ixI, hr, Option.bind_some, AV.int1K, AV.intK, AV.tK, T.intK, IntKind.same, cond_true, cond_false, nilK, rows_length, List.length_nil, h1, h2, fb_length, fo_length, and_self, decide_true, Int.toNat_natCast, nth_fb hx, nth_fo hx, nth, show ((((0 : Nat) : Int)) == (0 : Int)) = true from rfl, Option.isSome, T.boolK, ocell, h73, AV.aggK, consK, AV.strK, T.strK, AV.sl1K, T.slK, Nat.beq, setN, e1, e2]
    | none =>
      have := rest hr
      unfold R at *
      rw [av_mk, av_mk, call_unfold Try.func56, e56, h72]
      simp only [ixI, hr, Option.bind_some, AV.int1K, AV.intK, AV.tK, T.intK, IntKind.same, cond_true, nilK, show ¬ (0 : Int) ≤ -1 by omega, decide_false, cond_false, rows_length]
      exact this
  | cons a l =>
    have := rest rfl
    have h0 : (((((a :: l).length : Nat) : Int)) == (0 : Int)) = false := by rw [beq_eq_false_iff_ne]; simp; omega
    unfold R at *
    rw [av_mk, av_mk, call_unfold Try.func56, e56, h72]
    simp only [Option.bind_some, AV.int1K, AV.intK, AV.tK, T.intK, IntKind.same, cond_true, nilK, rows_length, h0, cond_false]
    refine Eq.trans ?_ this
    cases decide ((0 : Int) ≤ ixI names n) <;> rfl
theorem L230 {names : List Str} (hl : names.length ≤ 10000) (s1 : Str) (r2 : List (List T)) (s3 : Str) (r4 : List (List T)) : ∀ (j k : Nat), j + k = names.length →
    L23_0 R (K23_0 R) (strRows names) s1 r2 s3 r4 (k : Int) = cond (tw (names.take k) (names.drop k)) (some (.tup [.t (T.sl 2 []), .t (T.bool false)], [])) (X23_0_x1 (K23_0 R) (strRows names) s1 r2 s3 r4 [] (names.length : Int) false) := by
  intro j
  induction j with
  | zero =>
    intro k hk
    have h1 : decide ((k : Int) < (names.length : Int)) = false := decide_eq_false (by omega)
    rw [l23_0, strRows_length, h1, cond_false]
    rw [List.drop_eq_nil_of_le (by omega : names.length ≤ k), show k = names.length by omega]
    rfl
  | succ j ihj =>
    intro k hk
    obtain ⟨x, hx⟩ := at_of (l := names) (k := k) (by omega)
    have h48 := R48 (l := names.take k) (by simp; omega) x
    have next := ihj (k + 1) (by omega)
    have h1 : (k : Int) < (names.length : Int) := by omega
    have h2 : (0 : Int) ≤ (k : Int) := by omega
    have h3 : (k : Int) ≤ (names.length : Int) := by omega
    have e : dropN 0 (takeN k (strRows names)) = strRows (names.take k) := by rw [takeN_take]; simp [strRows, dropN]
    rw [l23_0]
    simp only [strRows_length]
    simp only [h1, h2, h3, decide_true, cond_true, and_self, Int.toNat_natCast, nth_strRows hx, nth, e, h48, Option.bind_some, AV.boolK, AV.tK, T.boolK, nilK, Int.le_refl]
    rw [drop_of hx]
    simp only [tw]
    by_cases hm : x ∈ names.take k
    · simp only [hm, decide_true, cond_true, x23_0_x0]
    · simp only [hm, decide_false, cond_false]
      rw [wrap_succ (by omega), next, take_of hx]
theorem L231 {f : List (Option Ty)} (hl : f.length ≤ 10000) (s0 : Str) (r1 : List (List T)) (s2 : Str) (r3 r4 r6 : List (List T)) : ∀ (j k : Nat), j + k = f.length →
    L23_1 R (K23_1 R) s0 r1 s2 r3 r4 (fb f) r6 (k : Int) = some (cond ((f.drop k).any Option.isNone) (.tup [.t (T.sl 2 []), .t (T.bool false)]) (.tup [.t (T.sl 2 r6), .t (T.bool true)]), []) := by
  intro j
  induction j with
  | zero =>
    intro k hk
    have h1 : ¬ (k : Int) < (f.length : Int) := by omega
    rw [l23_1]
    simp only [fb_length]
    simp only [h1, decide_false, cond_false, x23_1_x1]
    rw [List.drop_eq_nil_of_le (by omega : f.length ≤ k)]
    rfl
  | succ j ihj =>
    intro k hk
    obtain ⟨x, hx⟩ := at_of (l := f) (k := k) (by omega)
    have h1 : (k : Int) < (f.length : Int) := by omega
    have h2 : (0 : Int) ≤ (k : Int) := by omega
    rw [l23_1]
    simp only [fb_length]
    simp only [h1, h2, decide_true, cond_true, and_self, Int.toNat_natCast, nth_fb hx, nth, T.boolK]
    rw [drop_of hx]
    cases x with
    | none => simp only [Option.isSome, Bool.not_false, cond_true, x23_1_x0, List.any_cons, Option.isNone, Bool.true_or]
    | some u =>
      simp only [Option.isSome, Bool.not_true, cond_false, List.any_cons, Option.isNone, Bool.false_or]
      rw [wrap_succ (by omega)]
      exact ihj (k + 1) (by omega)
theorem fo_all : ∀ {f : List (Option Ty)}, f.any Option.isNone = false → fo f = rows (allF f)
  | [], _ => rfl
  | none :: f, h => by simp at h
  | some t :: f, h => by
    have ih := fo_all (f := f) (by simpa using h)
    simp only [fo, List.map_cons, ocell, allF, rows] at ih ⊢
    rw [ih]
theorem lim1 : lim 1 = 140737488355328 := by decide
theorem R23 {p t : Ty} (hp : p.Ok) (ht : t.Ok) {names : List Str} (hn : names.length ≤ 10000) : R 23 [p.av, t.av, .t (.sl 1 (strRows names))] [] = some (mtchAV (mtch p t names), []) := by
  have hf0 : FOk names (List.replicate names.length none) := ⟨by simp, fun k t h => by
    rw [List.getElem?_replicate] at h
    split at h <;> cases h⟩
  have h56 := R56 hn p hp t ht _ hf0
  have hf := mt_ok p t ht _ hf0
  have h230 := L230 hn p.name (rows p.args) t.name (rows t.args) names.length 0 (by omega)
  unfold mtch
  have e1 : rep [T.bool false] names.length = fb (List.replicate names.length none) := by rw [rep_replicate]; simp [fb]
  have e2 : rep [T.str [], T.sl 2 []] names.length = fo (List.replicate names.length none) := by rw [rep_replicate]; simp [fo, ocell]
  generalize mt names p t (List.replicate names.length none) = r at h56 hf ⊢
  obtain ⟨n, a⟩ := p
  obtain ⟨n', a'⟩ := t
  simp only [Ty.name, Ty.args, List.take_zero, List.drop_zero] at h230
  have c1 : (0 : Int) ≤ (names.length : Int) := by omega
  have c2 : (names.length : Int) ≤ ((lim 1 : Nat) : Int) := by rw [lim1]; omega
  have c3 : (names.length : Int) ≤ ((lim 40 : Nat) : Int) := by rw [lim40]; omega
  have h231 := fun r6 => L231 (f := r.2) (by rw [hf.1]; exact hn) n (rows a) n' (rows a') [] r6 r.2.length 0 (by omega)
  unfold R mr at *
  rw [av_mk, av_mk] at *
  rw [call_unfold Try.func23, e23, show (0 : Int) = ((0 : Nat) : Int) from rfl, h230]
  cases tw [] names with
  | true => rfl
  | false =>
    simp only [cond_false]
    rw [x23_0_x1]
    simp only [strRows_length, c1, c2, c3, Int.le_refl, and_self, decide_true, cond_true, Int.toNat_natCast, e1, e2, h56, Option.bind_some, AV.boolK, AV.tK, T.boolK, consK, Nat.beq, Ent.rowK, nilK]
    cases r.1 with
    | false => rfl
    | true =>
      simp only [Bool.not_true, cond_false]
      rw [show (0 : Int) = ((0 : Nat) : Int) from rfl, h231]
      simp only [List.drop_zero]
      cases hc : r.2.any Option.isNone with
      | true => rfl
      | false =>
        rw [fo_all hc]
        rfl

/-! ### Small types -/
def light : Nat → Ty → Bool
  | 0, _ => false
  | n + 1, .mk _ l => cond (decide (6 < l.length)) false (l.all (light n))
def szl : Nat → Nat
  | 0 => 0
  | n + 1 => 1 + 6 * szl n
theorem sizeL_le {b : Nat} : ∀ {l : List Ty}, (∀ t, t ∈ l → size t ≤ b) → sizeL l ≤ l.length * b
  | [], _ => by simp [sizeL]
  | t :: l, h => by
    have h1 := h t (by simp)
    have h2 := sizeL_le (l := l) fun t ht => h t (by simp [ht])
    simp only [sizeL, List.length_cons, Nat.succ_mul]
    omega
theorem light_ok : ∀ (n : Nat) (t : Ty), light n t = true → t.Ok ∧ size t ≤ szl n
  | n + 1, .mk s l, h => by
    simp only [light] at h
    by_cases h6 : 6 < l.length
    · simp [h6] at h
    · simp only [h6, decide_false, cond_false, List.all_eq_true] at h
      have hall := fun t ht => light_ok n t (h t ht)
      refine ⟨.mk s l (by omega) fun t ht => (hall t ht).1, ?_⟩
      have h2 := sizeL_le fun t ht => (hall t ht).2
      have h3 : l.length * szl n ≤ 6 * szl n := Nat.mul_le_mul_right _ (by omega)
      simp only [size, szl]
      omega
theorem L16 {s : Str} {l : List Ty} {n : Nat} (hn : n ≤ 100) (hl : l.length ≤ 6) (ih : ∀ t, t ∈ l → R 16 [t.av, .t (.int .i64 (n : Int))] [] = some (.t (.bool (light n t)), [])) : ∀ (j k : Nat), j + k = l.length →
    L16_0 R (K16_0 R) (rows l) s (((n + 1 : Nat) : Int)) (k : Int) = some (.t (.bool ((l.drop k).all (light n))), []) := by
  intro j
  induction j with
  | zero =>
    intro k hk
    have h1 : ¬ (k : Int) < (l.length : Int) := by omega
    rw [l16_0]
    simp only [rows_length]
    simp only [h1, decide_false, cond_false, x16_0_x1]
    rw [List.drop_eq_nil_of_le (by omega : l.length ≤ k)]
    rfl
  | succ j ihj =>
    intro k hk
    obtain ⟨t, ht⟩ := at_of (l := l) (k := k) (by omega)
    have iht := ih t (List.mem_of_getElem? ht)
    have hdt := drop_of ht
    obtain ⟨n', a⟩ := t
    have h1 : (k : Int) < (l.length : Int) := by omega
    have h2 : (0 : Int) ≤ (k : Int) := by omega
    have hw : IntKind.wrap .i64 (((n + 1 : Nat) : Int) - 1) = (n : Int) := by rw [wrap_in (by omega)]; omega
    rw [l16_0]
    simp only [rows_length]
    rw [av_mk] at iht
    simp only [h1, h2, hw, decide_true, cond_true, and_self, Int.toNat_natCast, nth_rows ht, nth, iht, Option.bind_some, AV.boolK, AV.tK, T.boolK, nilK]
    rw [hdt]
    simp only [List.all_cons]
    cases hc : light n (.mk n' a) with
    | true =>
      simp only [Bool.not_true, cond_false, Bool.true_and]
      rw [wrap_succ (by omega)]
      exact ihj (k + 1) (by omega)
    | false => simp only [Bool.not_false, cond_true, x16_0_x0, Bool.false_and]
theorem R16 : ∀ (n : Nat), n ≤ 100 → ∀ t : Ty, R 16 [t.av, .t (.int .i64 (n : Int))] [] = some (.t (.bool (light n t)), []) := by
  intro n
  induction n with
  | zero =>
    intro _ t
    obtain ⟨s, l⟩ := t
    unfold R
    rw [av_mk, call_unfold Try.func16, e16]
    rfl
  | succ n ihn =>
    intro hn t
    obtain ⟨s, l⟩ := t
    have h0 : ¬ ((n + 1 : Nat) : Int) ≤ 0 := by omega
    by_cases h6 : 6 < l.length
    · have h6' : (6 : Int) < (l.length : Int) := by omega
      unfold R
      rw [av_mk, call_unfold Try.func16, e16]
      simp only [rows_length, h0, h6', light, h6, decide_true, decide_false, cond_true, cond_false]
    · have h6' : ¬ (6 : Int) < (l.length : Int) := by omega
      have main := L16 (s := s) (n := n) (by omega) (by omega : l.length ≤ 6) (fun t _ => ihn (by omega) t) l.length 0 (by omega)
      unfold R at *
      rw [av_mk, call_unfold Try.func16, e16]
      simp only [rows_length, h0, h6', light, h6, decide_false, cond_false]
      exact main
end Go.AS.Q4
