/- AS, the seat of law 4: matching; the sanity check. -/
import Derived.Test.YtnodfpndnpeedaaQ4C
namespace Go.AS.Q4
open Go.Proofs
set_option linter.all false

/-! ### Places of names -/
def ix : List Str → Str → Option Nat
  | [], _ => none
  | x :: l, s => cond (s == x) (some 0) ((ix l s).map (· + 1))
def ixI (l : List Str) (s : Str) : Int := match ix l s with
  | some k => k
  | none => -1
theorem ix_lt : ∀ {l : List Str} {s : Str} {k : Nat}, ix l s = some k → l[k]? = some s
  | x :: l, s, k, h => by
    simp only [ix] at h
    cases hb : (s == x) with
    | true =>
      rw [hb] at h
      injection h with h
      subst h
      rw [beq_iff_eq] at hb
      subst hb
      rfl
    | false =>
      rw [hb] at h
      cases hr : ix l s with
      | none => rw [hr] at h; cases h
      | some k' =>
        rw [hr] at h
        injection h with h
        subst h
        simpa using ix_lt hr
theorem ix_none : ∀ {l : List Str} {s : Str}, ix l s = none ↔ s ∉ l
  | [], s => by simp [ix]
  | x :: l, s => by
    simp only [ix, List.mem_cons, not_or]
    cases hb : (s == x) with
    | true =>
      rw [beq_iff_eq] at hb
      simp [hb]
    | false =>
      rw [beq_eq_false_iff_ne] at hb
      have := ix_none (l := l) (s := s)
      cases hr : ix l s with
      | none => simp [hb, this.1 hr]
      | some k' =>
        have : ¬ s ∉ l := fun h => by rw [this.2 h] at hr; cases hr
        simp [hb]
        exact Decidable.not_not.1 this
theorem ixI_ge (l : List Str) (s : Str) : decide ((0 : Int) ≤ ixI l s) = decide (s ∈ l) := by
  unfold ixI
  cases h : ix l s with
  | none => have := ix_none.1 h; simp [this]
  | some k =>
    have : s ∈ l := List.mem_of_getElem? (ix_lt h)
    simp [this]
theorem strRows_length (l : List Str) : (strRows l).length = l.length := by simp [strRows]
theorem nth_strRows {l : List Str} {k : Nat} {s : Str} (h : l[k]? = some s) : nth [] (strRows l) k = [.str s] := by rw [strRows, nth_map [] _ h]
theorem L85 {l : List Str} {s : Str} (hl : l.length ≤ 100000) : ∀ (j k : Nat), j + k = l.length → L85_0 R (K85_0 R) (strRows l) s (k : Int) = some (.t (.int .i64 (match ix (l.drop k) s with | some i => ((k + i : Nat) : Int) | none => -1)), []) := by
  intro j
  induction j with
  | zero =>
    intro k hk
    have h1 : ¬ (k : Int) < (l.length : Int) := by omega
    rw [l85_0]
    simp only [strRows_length]
    simp only [h1, decide_false, cond_false, x85_0_x1]
    rw [List.drop_eq_nil_of_le (by omega : l.length ≤ k)]
    rfl
  | succ j ihj =>
    intro k hk
    obtain ⟨x, hx⟩ := at_of (l := l) (k := k) (by omega)
    have h1 : (k : Int) < (l.length : Int) := by omega
    have h2 : (0 : Int) ≤ (k : Int) := by omega
    rw [l85_0]
    simp only [strRows_length]
    simp only [h1, h2, decide_true, cond_true, and_self, Int.toNat_natCast, nth_strRows hx, nth, T.strK]
    rw [drop_of hx]
    simp only [ix]
    cases hb : (s == x) with
    | true =>
      simp only [cond_true, x85_0_x0]
      rfl
    | false =>
      simp only [cond_false]
      rw [wrap_succ (by omega), ihj (k + 1) (by omega)]
      cases ix (l.drop (k + 1)) s with
      | none => rfl
      | some i => simp only [Option.map_some]; rw [show k + 1 + i = k + (i + 1) by omega]
theorem R85 {l : List Str} (hl : l.length ≤ 100000) (s : Str) : R 85 [.t (.sl 1 (strRows l)), .t (.str s)] [] = some (.t (.int .i64 (ixI l s)), []) := by
  have := L85 (s := s) hl l.length 0 (by omega)
  unfold R at *
  rw [call_unfold Try.func85, e85, show (0 : Int) = ((0 : Nat) : Int) from rfl, this]
  simp only [List.drop_zero, Nat.zero_add]
  rfl
theorem R70 {l : List Str} (hl : l.length ≤ 100000) (s : Str) : R 70 [.t (.sl 1 (strRows l)), .t (.str s)] [] = some (.t (.bool (decide (s ∈ l))), []) := by
  have := R85 hl s
  unfold R at *
  rw [call_unfold Try.func70, e70, this]
  simp only [Option.bind_some, AV.int1K, AV.intK, AV.tK, T.intK, IntKind.same, cond_true, nilK, ixI_ge]
/-- The place of the name that a type is. -/
def rp (t : Ty) (names : List Str) : Option Nat := match t.args with
  | [] => ix names t.name
  | _ :: _ => none
def rpI (t : Ty) (names : List Str) : Int := match rp t names with
  | some k => k
  | none => -1
theorem R71 (t : Ty) {l : List Str} (hl : l.length ≤ 100000) : R 71 [t.av, .t (.sl 1 (strRows l))] [] = some (.t (.int .i64 (rpI t l)), []) := by
  obtain ⟨n, a⟩ := t
  have := R85 hl n
  unfold R at *
  rw [av_mk, call_unfold Try.func71, e71, rows_length]
  cases a with
  | nil =>
    simp only [List.length_nil, show ¬ (0 : Int) < ((0 : Nat) : Int) by omega, decide_false, cond_false, this, Option.bind_some, AV.int1K, AV.intK, AV.tK, T.intK, IntKind.same, cond_true, nilK]
    rfl
  | cons x a =>
    have h : (0 : Int) < (((x :: a).length : Nat) : Int) := by simp
    simp only [h, decide_true, cond_true]
    rfl
/-- Whether a name stands twice. -/
def tw (seen : List Str) : List Str → Bool
  | [] => false
  | x :: l => cond (decide (x ∈ seen)) true (tw (seen ++ [x]) l)
theorem L45 {l : List Str} (hl : l.length ≤ 100000) : ∀ (j k : Nat), j + k = l.length → L45_0 R (K45_0 R) (strRows l) (k : Int) = some (.t (.bool (tw (l.take k) (l.drop k))), []) := by
  intro j
  induction j with
  | zero =>
    intro k hk
    have h1 : ¬ (k : Int) < (l.length : Int) := by omega
    rw [l45_0]
    simp only [strRows_length]
    simp only [h1, decide_false, cond_false, x45_0_x1]
    rw [List.drop_eq_nil_of_le (by omega : l.length ≤ k)]
    rfl
  | succ j ihj =>
    intro k hk
    obtain ⟨x, hx⟩ := at_of (l := l) (k := k) (by omega)
    have h1 : (k : Int) < (l.length : Int) := by omega
    have h2 : (0 : Int) ≤ (k : Int) := by omega
    have h3 : (k : Int) ≤ (l.length : Int) := by omega
    have h70 := R70 (l := l.take k) (by simp; omega) x
    have e : dropN 0 (takeN k (strRows l)) = strRows (l.take k) := by rw [takeN_take]; simp [strRows, dropN]
    rw [l45_0]
    simp only [strRows_length]
    simp only [h1, h2, h3, decide_true, cond_true, and_self, Int.toNat_natCast, nth_strRows hx, nth, e, h70, Option.bind_some, AV.boolK, AV.tK, T.boolK, nilK, Int.le_refl]
    rw [drop_of hx]
    simp only [tw]
    cases hb : decide (x ∈ l.take k) with
    | true => simp only [cond_true, x45_0_x0]
    | false =>
      simp only [cond_false]
      rw [wrap_succ (by omega), ihj (k + 1) (by omega), take_of hx]
theorem R45 {l : List Str} (hl : l.length ≤ 100000) : R 45 [.t (.sl 1 (strRows l))] [] = some (.t (.bool (tw [] l)), []) := by
  have := L45 hl l.length 0 (by omega)
  unfold R at *
  rw [call_unfold Try.func45, e45, show (0 : Int) = ((0 : Nat) : Int) from rfl, this]
  simp

/-! ### Copies -/
theorem lim40 : lim 40 = 3518437208883 := by decide
theorem L55 {n : Str} {l : List Ty} (hl : l.length ≤ 1000) (ih : ∀ t, t ∈ l → R 55 [t.av] [] = some (t.av, [])) : ∀ (j k : Nat), j + k = l.length → L55_0 R (K55_0 R) (rows l) n (rows (l.take k)) (k : Int) = some ((Ty.mk n l).av, []) := by
  intro j
  induction j with
  | zero =>
    intro k hk
    have h1 : ¬ (k : Int) < (l.length : Int) := by omega
    rw [l55_0]
    simp only [rows_length]
    simp only [h1, decide_false, cond_false, x55_0_x0]
    rw [List.take_of_length_le (by omega : l.length ≤ k)]
    rfl
  | succ j ihj =>
    intro k hk
    obtain ⟨t, ht⟩ := at_of (l := l) (k := k) (by omega)
    have iht := ih t (List.mem_of_getElem? ht)
    have hta := take_of ht
    obtain ⟨n', a⟩ := t
    have h1 : (k : Int) < (l.length : Int) := by omega
    have h2 : (0 : Int) ≤ (k : Int) := by omega
    have b1 : Nat.ble ((l.take k).length + 1) (lim 40) = true := by rw [Nat.ble_eq, lim40]; simp; omega
    rw [l55_0]
    simp only [rows_length]
    rw [av_mk] at iht
    simp only [h1, h2, decide_true, cond_true, and_self, Int.toNat_natCast, nth_rows ht, nth, iht, Option.bind_some, AV.aggK, consK, AV.strK, AV.tK, T.strK, AV.sl1K, T.slK, Nat.beq, nilK, List.length_cons, List.length_nil, Nat.zero_add, b1]
    rw [wrap_succ (by omega)]
    have := ihj (k + 1) (by omega)
    rw [hta, rows_append, rows_one] at this
    exact this
theorem R55 : ∀ t : Ty, t.Ok → R 55 [t.av] [] = some (t.av, []) := by
  refine Ty.ind fun n l ih hok => ?_
  have hl := hok.parts
  have := L55 (n := n) hl.1 (fun t ht => ih t ht (hl.2 t ht)) l.length 0 (by omega)
  unfold R at *
  rw [av_mk, call_unfold Try.func55, e55]
  exact this

/-! ### Matching -/
def fcell : Option Ty → T
  | none => .pnil
  | some t => .pt 2 t.row
def fnd (f : List (Option Ty)) : List (List T) := f.map fun x => [fcell x]
theorem fnd_length (f : List (Option Ty)) : (fnd f).length = f.length := by simp [fnd]
theorem nth_fnd {f : List (Option Ty)} {k : Nat} {x : Option Ty} (h : f[k]? = some x) : nth [] (fnd f) k = [fcell x] := by rw [fnd, nth_map [] _ h]
theorem fnd_set (f : List (Option Ty)) (k : Nat) (x : Option Ty) : setN (fnd f) k [fcell x] = fnd (f.set k x) := by rw [setN_set]; simp [fnd, List.map_set]
mutual
def mt (names : List Str) : Ty → Ty → List (Option Ty) → Bool × List (Option Ty)
  | .mk n l, t, f => match (match l with | [] => ix names n | _ :: _ => none) with
    | some k => (match f[k]? with
      | some (some u) => (same u t, f)
      | some none => (true, f.set k (some t))
      | none => (false, f))
    | none => cond (n == t.name) (cond (l.length == t.args.length) (mtL names l t.args f) (false, f)) (false, f)
def mtL (names : List Str) : List Ty → List Ty → List (Option Ty) → Bool × List (Option Ty)
  | p :: l, t :: m, f => cond (mt names p t f).1 (mtL names l m (mt names p t f).2) (false, (mt names p t f).2)
  | _, _, f => (true, f)
end
theorem mt_mk (names : List Str) (n : Str) (l : List Ty) (t : Ty) (f : List (Option Ty)) : mt names (.mk n l) t f = match rp (.mk n l) names with
    | some k => (match f[k]? with
      | some (some u) => (same u t, f)
      | some none => (true, f.set k (some t))
      | none => (false, f))
    | none => cond (n == t.name) (cond (l.length == t.args.length) (mtL names l t.args f) (false, f)) (false, f) := by
  simp only [mt]
  rfl
/-- What was found: as many as there are names; none of them is long. -/
def FOk (names : List Str) (f : List (Option Ty)) : Prop := f.length = names.length ∧ ∀ (k : Nat) t, f[k]? = some (some t) → t.Ok
theorem rp_some {t : Ty} {names : List Str} {k : Nat} (h : rp t names = some k) : t.args = [] ∧ names[k]? = some t.name := by
  unfold rp at h
  split at h
  · rename_i h0; exact ⟨h0, ix_lt h⟩
  · cases h
theorem mt_ok {names : List Str} : ∀ (p : Ty) (t : Ty), t.Ok → ∀ f, FOk names f → FOk names (mt names p t f).2 := by
  refine Ty.ind fun n l ih t ht f hf => ?_
  rw [mt_mk]
  have hL : ∀ (l m : List Ty), (∀ p, p ∈ l → ∀ t : Ty, t.Ok → ∀ f, FOk names f → FOk names (mt names p t f).2) → (∀ t, t ∈ m → t.Ok) → ∀ f, FOk names f → FOk names (mtL names l m f).2 := by
    intro l
    induction l with
    | nil => intro m _ _ f hf; simp only [mtL]; exact hf
    | cons p l ihl =>
      intro m hh hm f hf
      cases m with
      | nil => simp only [mtL]; exact hf
      | cons t m =>
        simp only [mtL]
        have h1 := hh p (by simp) t (hm t (by simp)) f hf
        cases (mt names p t f).1 with
        | true => simp only [cond_true]; exact ihl m (fun p hp => hh p (by simp [hp])) (fun t ht => hm t (by simp [ht])) _ h1
        | false => simp only [cond_false]; exact h1
  split
  · rename_i k hk
    split
    · exact hf
    · refine ⟨by simpa using hf.1, fun j u hj => ?_⟩
      rw [List.getElem?_set] at hj
      split at hj
      · split at hj
        · injection hj with hj; injection hj with hj; exact hj ▸ ht
        · cases hj
      · exact hf.2 j u hj
    · exact hf
  · obtain ⟨n', m⟩ := t
    cases (n == (Ty.mk n' m).name) with
    | false => exact hf
    | true =>
      simp only [cond_true]
      cases (l.length == (Ty.mk n' m).args.length) with
      | false => exact hf
      | true => exact hL l m ih (fun t h => ht.parts.2 t h) f hf
def mh (f : List (Option Ty)) : Heap := [(0, .row 0 1 70 (fnd f))]
def mh2 (names : List Str) (f : List (Option Ty)) : Heap := [(0, .box [(.sl 1)] [.t (.sl 1 (strRows names))]), (1, .box [(.sl 1)] [.rowp 2 0 none]), (2, .row 0 1 70 (fnd f))]
def Matches (names : List Str) (p : Ty) : Prop := ∀ t : Ty, t.Ok → ∀ f, FOk names f → R 53 [p.av, t.av, .t (.sl 1 (strRows names)), .rowp 0 0 none] (mh f) = some (.t (.bool (mt names p t f).1), mh (mt names p t f).2)
theorem R76 {names : List Str} {p : Ty} (h : Matches names p) {t : Ty} (ht : t.Ok) {f : List (Option Ty)} (hf : FOk names f) : R 76 [p.av, t.av, .ptr 0 0, .ptr 1 0] (mh2 names f) = some (.t (.bool (mt names p t f).1), mh2 names (mt names p t f).2) := by
  have h1 := h t ht f hf
  obtain ⟨n, a⟩ := p
  obtain ⟨n', a'⟩ := t
  unfold R mh at h1
  unfold R mh2
  rw [av_mk, av_mk] at *
  rw [call_unfold Try.func76, e76, h1]
  simp only [Option.bind_some, AV.boolK, AV.tK, T.boolK, consK, Nat.beq, cond_true, Ent.rowK, nilK]
theorem L41_1 {names : List Str} {l m : List Ty} (hl : l.length ≤ 1000) (hlm : l.length = m.length) (hm : ∀ t, t ∈ m → t.Ok) (ih : ∀ p, p ∈ l → Matches names p) : ∀ (j k : Nat) (f : List (Option Ty)), j + k = l.length → FOk names f →
    L41_1_0 R (K41_1_0 R) (rows m) (rows l) (strRows names) (fnd f) (k : Int) = some (.t (.bool (mtL names (l.drop k) (m.drop k) f).1), mh2 names (mtL names (l.drop k) (m.drop k) f).2) := by
  intro j
  induction j with
  | zero =>
    intro k f hk hf
    have h1 : ¬ (k : Int) < (l.length : Int) := by omega
    rw [l41_1_0]
    simp only [rows_length]
    simp only [h1, decide_false, cond_false, x41_1_0_x1]
    rw [List.drop_eq_nil_of_le (by omega : l.length ≤ k)]
    simp only [mtL]
    rfl
  | succ j ihj =>
    intro k f hk hf
    obtain ⟨p, hp⟩ := at_of (l := l) (k := k) (by omega)
    obtain ⟨t, ht⟩ := at_of (l := m) (k := k) (by omega)
    have h76 := R76 (ih p (List.mem_of_getElem? hp)) (hm t (List.mem_of_getElem? ht)) hf
    have hf' := mt_ok p t (hm t (List.mem_of_getElem? ht)) f hf
    have hdp := drop_of hp
    have hdt := drop_of ht
    have next := ihj (k + 1) (mt names p t f).2 (by omega) hf'
    obtain ⟨n, a⟩ := p
    obtain ⟨n', a'⟩ := t
    have h1 : (k : Int) < (l.length : Int) := by omega
    have h2 : (0 : Int) ≤ (k : Int) := by omega
    have h3 : (k : Int) < (m.length : Int) := by omega
    rw [l41_1_0]
    simp only [rows_length]
    unfold mh2 at h76
    rw [av_mk, av_mk] at h76
    simp only [h1, h2, h3, decide_true, cond_true, and_self, Int.toNat_natCast, nth_rows hp, nth_rows ht, nth, h76, Option.bind_some, AV.boolK, AV.tK, T.boolK, consK, Nat.beq, Ent.boxK, AV.sl1K, T.slK, nilK, AV.rowpK, Ent.rowK]
    rw [hdp, hdt]
    simp only [mtL]
    cases hc : (mt names (.mk n a) (.mk n' a') f).1 with
    | true =>
      simp only [Bool.not_true, cond_false, cond_true]
      rw [wrap_succ (by omega)]
      exact next
    | false =>
      simp only [Bool.not_false, cond_true, cond_false, x41_1_0_x0]
      rfl
theorem R53 {names : List Str} (hn : names.length ≤ 10000) : ∀ p : Ty, p.Ok → Matches names p := by
  refine Ty.ind fun n l ih hok t ht f hf => ?_
  obtain ⟨n', m⟩ := t
  have hl := hok.parts
  have hm := ht.parts
  have h71 := R71 (.mk n l) (l := names) (by omega)
  rw [mt_mk]
  unfold R mh at *
  rw [av_mk] at h71 ⊢
  rw [av_mk, call_unfold Try.func53, e53, h71]
  simp only [Option.bind_some, AV.int1K, AV.intK, AV.tK, T.intK, IntKind.same, cond_true, nilK, rpI]
  cases hr : rp (.mk n l) names with
  | some k =>
    obtain ⟨_, hk⟩ := rp_some hr
    have hkf : k < f.length := by
      have := (List.getElem?_eq_some_iff.1 hk).1
      rw [hf.1]; exact this
    obtain ⟨x, hx⟩ := at_of hkf
    have h1 : (0 : Int) ≤ (k : Int) := by omega
    have h2 : (k : Int) < (f.length : Int) := by omega
    simp only [h1, h2, fnd_length, and_self, decide_true, cond_true, Int.toNat_natCast, nth_fnd hx, nth, hx]
    cases x with
    | none =>
      simp only [fcell, T.nilK, cond_true, setN]
      have e : setN (fnd f) k [T.pt 2 [.str n', .sl 2 (rows m)]] = fnd (f.set k (some (.mk n' m))) := by
        rw [← fnd_set]
        simp only [fcell, row_mk]
      have hx' : (f.set k (some (Ty.mk n' m)))[k]? = some (some (.mk n' m)) := by rw [List.getElem?_set, if_pos rfl, if_pos hkf]
      have h14 := R14 (.mk n' m) ht (.mk n' m)
      have hss : same (.mk n' m) (.mk n' m) = true := (same_eq _ _).2 rfl
      unfold R at h14
      rw [av_mk, hss] at h14
      rw [e, j53_0]
      simp only [fnd_length, List.length_set, h1, h2, and_self, decide_true, cond_true, Int.toNat_natCast, nth_fnd hx', nth, fcell, T.ptK, row_mk, Nat.ble, h14, Option.bind_some, AV.boolK, AV.tK, T.boolK, nilK]
    | some u =>
      have hu := hf.2 k u hx
      obtain ⟨nu, lu⟩ := u
      have h14 := R14 (.mk nu lu) hu (.mk n' m)
      unfold R at h14
      rw [av_mk, av_mk] at h14
      simp only [fcell, T.nilK, cond_false, row_mk]
      rw [j53_1]
      simp only [fnd_length, h1, h2, and_self, decide_true, cond_true, Int.toNat_natCast, nth_fnd hx, nth, fcell, T.ptK, row_mk, Nat.ble, h14, Option.bind_some, AV.boolK, AV.tK, T.boolK, nilK]
  | none =>
    simp only [show ¬ (0 : Int) ≤ -1 by omega, decide_false, cond_false]
    show _ = some _
    have hname : (Ty.mk n' m).name = n' := rfl
    have hargs : (Ty.mk n' m).args = m := rfl
    rw [hname, hargs]
    cases hb : (n == n') with
    | false => simp only [cond_false]
    | true =>
      simp only [cond_true]
      rw [call_unfold Try.func41, e41_1]
      simp only [rows_length]
      cases hc : (l.length == m.length) with
      | false =>
        have h1 : (((l.length : Int) == (m.length : Int))) = false := by
          rw [beq_eq_false_iff_ne] at hc ⊢; omega
        simp only [h1, Bool.not_false, cond_true, Option.bind_some, AV.boolK, AV.tK, T.boolK, consK, Nat.beq, Ent.boxK, AV.sl1K, T.slK, nilK, AV.rowpK, Ent.rowK, cond_false]
      | true =>
        have hlm : l.length = m.length := by simpa using hc
        have h1 : (((l.length : Int) == (m.length : Int))) = true := by
          rw [beq_iff_eq]; omega
        have main := L41_1 hl.1 hlm hm.2 (fun p hp => ih p hp (hl.2 p hp)) l.length 0 f (by omega) hf
        unfold R mh2 at main
        simp only [h1, Bool.not_true, cond_false]
        rw [show (0 : Int) = ((0 : Nat) : Int) from rfl, main]
        simp only [Option.bind_some, AV.boolK, AV.tK, T.boolK, consK, Nat.beq, cond_true, Ent.boxK, AV.sl1K, T.slK, nilK, AV.rowpK, Ent.rowK, List.drop_zero]
/-- Whether something was not found. -/
theorem L77 {f : List (Option Ty)} (hl : f.length ≤ 10000) : ∀ (j k : Nat), j + k = f.length → ∃ i : Int, (0 ≤ i ↔ none ∈ f.drop k) ∧ L77_0 R (K77_0 R) (fnd f) (k : Int) = some (.t (.int .i64 i), []) := by
  intro j
  induction j with
  | zero =>
    intro k hk
    have h1 : ¬ (k : Int) < (f.length : Int) := by omega
    refine ⟨-1, ?_, ?_⟩
    · rw [List.drop_eq_nil_of_le (by omega : f.length ≤ k)]; simp
    · rw [l77_0]
      simp only [fnd_length]
      simp only [h1, decide_false, cond_false, x77_0_x1]
  | succ j ihj =>
    intro k hk
    obtain ⟨x, hx⟩ := at_of (l := f) (k := k) (by omega)
    have h1 : (k : Int) < (f.length : Int) := by omega
    have h2 : (0 : Int) ≤ (k : Int) := by omega
    cases x with
    | none =>
      refine ⟨k, ?_, ?_⟩
      · rw [drop_of hx]; simp
      · rw [l77_0]
        simp only [fnd_length]
        simp only [h1, h2, decide_true, cond_true, and_self, Int.toNat_natCast, nth_fnd hx, nth, fcell, T.nilK, x77_0_x0]
    | some u =>
      obtain ⟨i, q1, q2⟩ := ihj (k + 1) (by omega)
      refine ⟨i, ?_, ?_⟩
      · rw [drop_of hx, q1]; simp
      · rw [l77_0]
        simp only [fnd_length]
        simp only [h1, h2, decide_true, cond_true, and_self, Int.toNat_natCast, nth_fnd hx, nth, fcell, T.nilK, cond_false]
        rw [wrap_succ (by omega)]
        exact q2
theorem R54 {f : List (Option Ty)} (hl : f.length ≤ 10000) : R 54 [.t (.sl 1 (fnd f)), .t .pnil] [] = some (.t (.bool (f.any Option.isNone)), []) := by
  obtain ⟨i, q1, q2⟩ := L77 hl f.length 0 (by omega)
  unfold R at *
  rw [call_unfold Try.func54, e54, call_unfold Try.func77, e77, show (0 : Int) = ((0 : Nat) : Int) from rfl, q2]
  simp only [Option.bind_some, AV.int1K, AV.intK, AV.tK, T.intK, IntKind.same, cond_true, nilK]
  congr 5
  rw [List.drop_zero] at q1
  have : (((0 : Nat) : Int) ≤ i) ↔ f.any Option.isNone = true := by
    rw [show ((0 : Nat) : Int) = 0 from rfl, q1, List.any_eq_true]
    constructor
    · intro h; exact ⟨none, h, rfl⟩
    · rintro ⟨x, hx, hn⟩
      cases x with
      | none => exact hx
      | some _ => cases hn
  cases hb : f.any Option.isNone with
  | true => exact decide_eq_true (this.2 hb)
  | false => exact decide_eq_false fun h => by rw [this.1 h] at hb; cases hb
/-- What was found, all of it. -/
def allF : List (Option Ty) → List Ty
  | some t :: f => t :: allF f
  | _ => []
theorem allF_len : ∀ {f : List (Option Ty)}, f.any Option.isNone = false → (allF f).length = f.length ∧ ∀ (k : Nat) x, f[k]? = some x → ∃ t, x = some t ∧ (allF f)[k]? = some t
  | [], _ => ⟨rfl, fun k x h => by simp at h⟩
  | none :: f, h => by simp at h
  | some t :: f, h => by
    obtain ⟨q1, q2⟩ := allF_len (f := f) (by simpa using h)
    refine ⟨by simp [allF, q1], fun k x hx => ?_⟩
    cases k with
    | zero => simp at hx; exact ⟨t, hx.symm, rfl⟩
    | succ k => simpa [allF] using q2 k x (by simpa using hx)
theorem L22 {s0 s2 : Str} {r1 r3 : List (List T)} {names : List Str} {f : List (Option Ty)} (hl : f.length ≤ 10000) (hf : FOk names f) (hn : f.any Option.isNone = false) : ∀ (j k : Nat), j + k = f.length →
    L22_0 R (K22_0 R) s0 r1 s2 r3 (fnd f) (rows ((allF f).take k)) (k : Int) = some (.tup [.t (.sl 2 (rows (allF f))), .t (.bool true)], []) := by
  obtain ⟨q1, q2⟩ := allF_len hn
  intro j
  induction j with
  | zero =>
    intro k hk
    have h1 : ¬ (k : Int) < (f.length : Int) := by omega
    rw [l22_0]
    simp only [fnd_length]
    simp only [h1, decide_false, cond_false, x22_0_x0]
    rw [List.take_of_length_le (by omega : (allF f).length ≤ k)]
  | succ j ihj =>
    intro k hk
    obtain ⟨x, hx⟩ := at_of (l := f) (k := k) (by omega)
    obtain ⟨t, rfl, ht⟩ := q2 k x hx
    have htok := hf.2 k t hx
    have h55 := R55 t htok
    have hta := take_of ht
    obtain ⟨n, a⟩ := t
    have h1 : (k : Int) < (f.length : Int) := by omega
    have h2 : (0 : Int) ≤ (k : Int) := by omega
    have b1 : Nat.ble (((allF f).take k).length + 1) (lim 40) = true := by rw [Nat.ble_eq, lim40]; simp; omega
    rw [l22_0]
    simp only [fnd_length]
    rw [av_mk] at h55
    simp only [h1, h2, decide_true, cond_true, and_self, Int.toNat_natCast, nth_fnd hx, nth, fcell, T.ptK, row_mk, Nat.ble, h55, Option.bind_some, AV.aggK, consK, AV.strK, AV.tK, T.strK, AV.sl1K, T.slK, Nat.beq, nilK, rows_length, List.length_cons, List.length_nil, Nat.zero_add]
    simp only [b1, cond_true]
    rw [wrap_succ (by omega)]
    have := ihj (k + 1) (by omega)
    rw [hta, rows_append, rows_one] at this
    exact this
/-- What Match answers. -/
def mtch (p t : Ty) (names : List Str) : Option (List Ty) :=
  cond (tw [] names) none (cond (!(mt names p t (List.replicate names.length none)).1) none (cond ((mt names p t (List.replicate names.length none)).2.any Option.isNone) none (some (allF (mt names p t (List.replicate names.length none)).2))))
def mtchAV : Option (List Ty) → AV
  | none => .tup [.t (.sl 2 []), .t (.bool false)]
  | some l => .tup [.t (.sl 2 (rows l)), .t (.bool true)]
theorem rep_fnd (n : Nat) : rep [T.pnil] n = fnd (List.replicate n none) := by rw [rep_replicate]; simp [fnd, fcell]
theorem lim8 : lim 8 = 17592186044416 := by decide
theorem R22 {p t : Ty} (hp : p.Ok) (ht : t.Ok) {names : List Str} (hn : names.length ≤ 10000) : R 22 [p.av, t.av, .t (.sl 1 (strRows names))] [] = some (mtchAV (mtch p t names), []) := by
  have h45 := R45 (l := names) (by omega)
  have hf0 : FOk names (List.replicate names.length none) := ⟨by simp, fun k t h => by
    rw [List.getElem?_replicate] at h
    split at h <;> cases h⟩
  have h53 := R53 hn p hp t ht _ hf0
  have hf := mt_ok p t ht _ hf0
  unfold mtch
  generalize mt names p t (List.replicate names.length none) = r at h53 hf ⊢
  have h54 := R54 (f := r.2) (by rw [hf.1]; exact hn)
  obtain ⟨n, a⟩ := p
  obtain ⟨n', a'⟩ := t
  unfold R mh at *
  rw [av_mk, av_mk] at *
  have c1 : (0 : Int) ≤ (names.length : Int) := by omega
  have c2 : (names.length : Int) ≤ ((lim 8 : Nat) : Int) := by rw [lim8]; omega
  rw [call_unfold Try.func22, e22]
  simp only [strRows_length, c1, c2, Int.le_refl, and_self, decide_true, cond_true, Int.toNat_natCast, rep_fnd, h45, h53, Option.bind_some, AV.boolK, AV.tK, T.boolK, nilK]
  cases tw [] names with
  | true => rfl
  | false =>
    simp only [cond_false, consK, Nat.beq, cond_true, Ent.rowK, nilK]
    cases r.1 with
    | false => rfl
    | true =>
      simp only [Bool.not_true, cond_false, h54, Option.bind_some, AV.boolK, AV.tK, T.boolK, nilK]
      cases hc : r.2.any Option.isNone with
      | true => rfl
      | false =>
        simp only [cond_false]
        have := L22 (s0 := n) (s2 := n') (r1 := rows a) (r3 := rows a') (by rw [hf.1]; exact hn) hf hc r.2.length 0 (by omega)
        unfold R at this
        simp only [List.take_zero] at this
        exact this

/-! ### The sanity check -/
theorem awake : R 10 [] [] = some (.t (.bool true), []) := by
  have ok0 : ∀ n, (Ty.mk n []).Ok := fun n => .mk n [] (by simp) fun t ht => by simp at ht
  have ok2 : ∀ n a b, (Ty.mk n [.mk a [], .mk b []]).Ok := fun n a b => .mk n _ (by simp) fun t ht => by
    simp at ht
    rcases ht with rfl | rfl <;> exact ok0 _
  have m1 := R22 (p := .mk [109, 46, 80] [.mk [65] [], .mk [65] []]) (t := .mk [109, 46, 80] [.mk [73, 110, 116] [], .mk [73, 110, 116] []]) (ok2 _ _ _) (ok2 _ _ _) (names := [[65]]) (by simp)
  have m2 := R22 (p := .mk [109, 46, 80] [.mk [65] [], .mk [65] []]) (t := .mk [109, 46, 80] [.mk [73, 110, 116] [], .mk [65] []]) (ok2 _ _ _) (ok2 _ _ _) (names := [[65]]) (by simp)
  have t1 := R15 (.mk [109, 46, 80] [.mk [65] [], .mk [73, 110, 116] []]) (ok2 _ _ _) (by simp [text, textB, textR])
  have e1 : mtch (.mk [109, 46, 80] [.mk [65] [], .mk [65] []]) (.mk [109, 46, 80] [.mk [73, 110, 116] [], .mk [73, 110, 116] []]) [[65]] = some [.mk [73, 110, 116] []] := by rfl
  have e2 : mtch (.mk [109, 46, 80] [.mk [65] [], .mk [65] []]) (.mk [109, 46, 80] [.mk [73, 110, 116] [], .mk [65] []]) [[65]] = none := by rfl
  rw [e1] at m1
  rw [e2] at m2
  unfold R at *
  simp only [av_mk, rows, List.map_cons, List.map_nil, row_mk, strRows, mtchAV] at m1 m2 t1
  rw [call_unfold Try.func10, e10, m1, m2, t1]
  simp [AV.tupK, consK, AV.sl1K, AV.tK, T.slK, AV.boolK, T.boolK, nilK, AV.strK, T.strK, nth, text, textB, textR]
end Go.AS.Q4
