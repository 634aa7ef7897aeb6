/- AS, the seat of DependGrows: declarations of a module; what lies in a type. Printed by mkg4c.py. -/
import Derived.Test.YtgihgeppdllnmaaG4B
namespace Go.AS.G4
open Go.Proofs
set_option linter.all false

/-! ### Declarations -/
structure Dc where
  name : Str
  ps : List Str
  fs : List (List T)
def dcRow (z : Nat) (d : Dc) : List T := [.int .i64 0, .bool false, .bool false, .str d.name, .sl 1 (strRows d.ps), .sl z d.fs]
theorem nth_dc {z : Nat} {l : List Dc} {k : Nat} {d : Dc} (h : l[k]? = some d) : nth [] (l.map (dcRow z)) k = dcRow z d := nth_map [] _ h
theorem L36 {l : List Dc} {s : Str} (hl : l.length ≤ 100000) : ∀ (j k : Nat), j + k = l.length → L36_0 R (K36_0 R) (l.map (dcRow 4)) s (k : Int) = some (.t (.int .i64 (match ix ((l.drop k).map (·.name)) s with | some i => ((k + i : Nat) : Int) | none => -1)), [(0, .box [.str] [.t (.str s)])]) := by
  intro j
  induction j with
  | zero =>
    intro k hk
    have h1 : ¬ (k : Int) < (l.length : Int) := by omega
    rw [l36_0]
    simp only [List.length_map]
    simp only [h1, decide_false, cond_false, x36_0_x1]
    rw [List.drop_eq_nil_of_le (by omega : l.length ≤ k)]
    rfl
  | succ j ihj =>
    intro k hk
    obtain ⟨d, hd⟩ := at_of (l := l) (k := k) (by omega)
    have h1 : (k : Int) < (l.length : Int) := by omega
    have h2 : (0 : Int) ≤ (k : Int) := by omega
    have h37 : R 37 [.agg [.t (.int .i64 0), .t (.bool false), .t (.bool false), .t (.str d.name), .t (.sl 1 (strRows d.ps)), .t (.sl 4 d.fs)], .ptr 0 0] [(0, .box [.str] [.t (.str s)])] = some (.t (.bool (d.name == s)), [(0, .box [.str] [.t (.str s)])]) := by
      unfold R
      rw [call_unfold Try.func37, e37]
    rw [l36_0]
    simp only [List.length_map]
    simp only [h1, h2, decide_true, cond_true, and_self, Int.toNat_natCast, nth_dc hd, dcRow, nth, h37, Option.bind_some, AV.boolK, AV.tK, T.boolK, consK, Nat.beq, Ent.boxK, AV.strK, T.strK, nilK]
    rw [drop_of hd, List.map_cons]
    simp only [ix]
    cases hb : (d.name == s) with
    | true =>
      have : d.name = s := by simpa using hb
      rw [show (s == d.name) = true by rw [this]; simp]
      simp only [cond_true, x36_0_x0]
      rfl
    | false =>
      have hne : (s == d.name) = false := by
        rw [beq_eq_false_iff_ne] at hb ⊢
        exact Ne.symm hb
      rw [hne]
      simp only [cond_false]
      rw [wrap_succ (by omega)]
      have := ihj (k + 1) (by omega)
      refine (show _ = _ from this).trans ?_
      cases ix ((l.drop (k + 1)).map (·.name)) s with
      | none => rfl
      | some i => simp only [Option.map_some]; rw [show k + 1 + i = k + (i + 1) by omega]
theorem R36 {l : List Dc} (hl : l.length ≤ 100000) (s : Str) : R 36 [.t (.sl 6 (l.map (dcRow 4))), .clo 37 [.ptr 0 0]] [(0, .box [.str] [.t (.str s)])] = some (.t (.int .i64 (ixI (l.map (·.name)) s)), [(0, .box [.str] [.t (.str s)])]) := by
  have := L36 (s := s) hl l.length 0 (by omega)
  unfold R at *
  rw [call_unfold Try.func36, e36, show (0 : Int) = ((0 : Nat) : Int) from rfl, this, List.drop_zero]
  unfold ixI
  cases ix (l.map (·.name)) s with
  | none => rfl
  | some i => simp only [Nat.zero_add]
theorem L38 {l : List Dc} {s : Str} (hl : l.length ≤ 100000) : ∀ (j k : Nat), j + k = l.length → L38_0 R (K38_0 R) (l.map (dcRow 3)) s (k : Int) = some (.t (.int .i64 (match ix ((l.drop k).map (·.name)) s with | some i => ((k + i : Nat) : Int) | none => -1)), [(0, .box [.str] [.t (.str s)])]) := by
  intro j
  induction j with
  | zero =>
    intro k hk
    have h1 : ¬ (k : Int) < (l.length : Int) := by omega
    rw [l38_0]
    simp only [List.length_map]
    simp only [h1, decide_false, cond_false, x38_0_x1]
    rw [List.drop_eq_nil_of_le (by omega : l.length ≤ k)]
    rfl
  | succ j ihj =>
    intro k hk
    obtain ⟨d, hd⟩ := at_of (l := l) (k := k) (by omega)
    have h1 : (k : Int) < (l.length : Int) := by omega
    have h2 : (0 : Int) ≤ (k : Int) := by omega
    have h37 : R 39 [.agg [.t (.int .i64 0), .t (.bool false), .t (.bool false), .t (.str d.name), .t (.sl 1 (strRows d.ps)), .t (.sl 3 d.fs)], .ptr 0 0] [(0, .box [.str] [.t (.str s)])] = some (.t (.bool (d.name == s)), [(0, .box [.str] [.t (.str s)])]) := by
      unfold R
      rw [call_unfold Try.func39, e39]
    rw [l38_0]
    simp only [List.length_map]
    simp only [h1, h2, decide_true, cond_true, and_self, Int.toNat_natCast, nth_dc hd, dcRow, nth, h37, Option.bind_some, AV.boolK, AV.tK, T.boolK, consK, Nat.beq, Ent.boxK, AV.strK, T.strK, nilK]
    rw [drop_of hd, List.map_cons]
    simp only [ix]
    cases hb : (d.name == s) with
    | true =>
      have : d.name = s := by simpa using hb
      rw [show (s == d.name) = true by rw [this]; simp]
      simp only [cond_true, x38_0_x0]
      rfl
    | false =>
      have hne : (s == d.name) = false := by
        rw [beq_eq_false_iff_ne] at hb ⊢
        exact Ne.symm hb
      rw [hne]
      simp only [cond_false]
      rw [wrap_succ (by omega)]
      have := ihj (k + 1) (by omega)
      refine (show _ = _ from this).trans ?_
      cases ix ((l.drop (k + 1)).map (·.name)) s with
      | none => rfl
      | some i => simp only [Option.map_some]; rw [show k + 1 + i = k + (i + 1) by omega]
theorem R38 {l : List Dc} (hl : l.length ≤ 100000) (s : Str) : R 38 [.t (.sl 6 (l.map (dcRow 3))), .clo 39 [.ptr 0 0]] [(0, .box [.str] [.t (.str s)])] = some (.t (.int .i64 (ixI (l.map (·.name)) s)), [(0, .box [.str] [.t (.str s)])]) := by
  have := L38 (s := s) hl l.length 0 (by omega)
  unfold R at *
  rw [call_unfold Try.func38, e38, show (0 : Int) = ((0 : Nat) : Int) from rfl, this, List.drop_zero]
  unfold ixI
  cases ix (l.map (·.name)) s with
  | none => rfl
  | some i => simp only [Nat.zero_add]

/-! ### The types in a declared type -/
structure Cs where
  ind : Bool
  name : Str
  pay : List Ty
def csRow (c : Cs) : List T := [.bool c.ind, .str c.name, .sl 2 (rows c.pay)]
theorem nth_cs {l : List Cs} {k : Nat} {c : Cs} (h : l[k]? = some c) : nth [] (l.map csRow) k = csRow c := nth_map [] _ h
def tys (all : Bool) : List Cs → List Ty
  | [] => []
  | c :: l => cond all (c.pay ++ tys all l) (cond (!c.ind) (c.pay ++ tys all l) (tys all l))
def geo : Str := [103, 101, 111]
def modRow (S U : List Dc) : List T := [.int .i64 1, .str geo, .int .i64 1, .sl 2 [], .sl 6 (S.map (dcRow 4)), .sl 6 (U.map (dcRow 3)), .sl 5 [], .sl 5 [], .sl 20 []]
theorem lim40' : lim 40 = 3518437208883 := by decide
theorem M25 {l : List Cs} (hl : l.length ≤ 1000) (hp : ∀ c, c ∈ l → c.pay.length ≤ 1000) (all op : Bool) (ks : Ks Res) (x2 x3 x4 x5 x6 : T) : ∀ (j k : Nat) (acc : List Ty), j + k = l.length → acc.length ≤ 1000 * k →
    L25_0_1 R (K25_0_1 R ks) (.sl 3 (l.map csRow)) (rows acc) x2 x3 x4 x5 x6 all op (l.length : Int) (k : Int) = X25_0_1_x0 (K25_0_1 R ks) (.sl 3 (l.map csRow)) (rows (acc ++ tys all (l.drop k))) x2 x3 x4 x5 x6 all op (l.length : Int) (l.length : Int) false := by
  intro j
  induction j with
  | zero =>
    intro k acc hk ha
    have h1 : decide ((k : Int) < (l.length : Int)) = false := decide_eq_false (by omega)
    rw [l25_0_1, h1, cond_false, List.drop_eq_nil_of_le (by omega : l.length ≤ k), tys, List.append_nil, show k = l.length by omega]
  | succ j ihj =>
    intro k acc hk ha
    obtain ⟨c, hc⟩ := at_of (l := l) (k := k) (by omega)
    have hpc := hp c (List.mem_of_getElem? hc)
    have h1 : (k : Int) < (l.length : Int) := by omega
    have h2 : (0 : Int) ≤ (k : Int) := by omega
    have b1 : Nat.ble ((rows acc).length + (rows c.pay).length) (lim 40) = true := by rw [Nat.ble_eq, lim40', rows_length, rows_length]; omega
    rw [drop_of hc, tys]
    rw [l25_0_1]
    simp only [h1, h2, decide_true, cond_true, T.slK, Nat.beq, List.length_map, and_self, Int.toNat_natCast, nth_cs hc, csRow, nth, T.boolK, b1]
    have w := wrap_succ (k := k) (by omega)
    have nx1 := ihj (k + 1) (acc ++ c.pay) (by omega) (by simp; omega)
    have nx2 := ihj (k + 1) acc (by omega) (by omega)
    rw [rows_append, List.append_assoc] at nx1
    cases all with
    | true =>
      simp only [cond_true]
      rw [w]
      exact nx1
    | false =>
      simp only [cond_false]
      cases c.ind with
      | true =>
        simp only [Bool.not_true, cond_false]
        rw [w]
        exact nx2
      | false =>
        simp only [Bool.not_false, cond_true]
        rw [w]
        exact nx1
theorem R25 {S U : List Dc} (hS : S.length ≤ 1000) (hU : U.length ≤ 1000) {nm own : Str} (hnm : nm.length ≤ 100000) (hsp : splitS nm = (geo, own, true)) (hs : own ∉ S.map (·.name)) {i : Nat} (hi : ix (U.map (·.name)) own = some i) {u : Dc} (hu : U[i]? = some u)
    {cs : List Cs} (hcs : u.fs = cs.map csRow) (hcl : cs.length ≤ 1000) (hp : ∀ c, c ∈ cs → c.pay.length ≤ 1000) (all : Bool) :
    R 25 [.t (.sl 9 [modRow S U]), .t (.str nm), .t (.bool all)] [] = some (.tup [.t (.sl 2 (rows (tys all cs))), .t (.sl 1 (strRows u.ps)), .t (.bool true), .t (.bool true)], []) := by
  have h35 := R35 (s := nm) (by omega)
  have h36 := R36 (l := S) (by omega) own
  have h38 := R38 (l := U) (by omega) own
  have hx : ixI (S.map (·.name)) own = -1 := by unfold ixI; rw [ix_none.2 hs]
  have hy : ixI (U.map (·.name)) own = (i : Int) := by unfold ixI; rw [hi]
  have main := M25 hcl hp all true (K25_0 R) (.int .i64 0) (.bool false) (.bool false) (.str u.name) (.sl 1 (strRows u.ps)) cs.length 0 [] (by omega) (by simp)
  have hlt := (List.getElem?_eq_some_iff.1 hu).1
  rw [hx] at h36
  rw [hy] at h38
  rw [hsp] at h35
  unfold R at *
  rw [call_unfold Try.func25, e25, h35]
  simp only [splitAV, Option.bind_some, AV.tupK, consK, AV.strK, AV.tK, T.strK, AV.boolK, T.boolK, nilK]
  rw [l25_0]
  have c1 : (0 : Int) < (([modRow S U] : List (List T)).length : Int) := by simp
  have c2 : (0 : Int) ≤ (0 : Int) ∧ (0 : Int) < (([modRow S U] : List (List T)).length : Int) := by simp
  rw [decide_eq_true c1, decide_eq_true c2]
  simp only [cond_true, Int.toNat_zero, modRow, nth, T.strK, beq_self_eq_true, Bool.not_true, cond_false, geo, T.intK, IntKind.same]
  have c3 : (([103, 101, 111] : List UInt8) == []) = false := by decide
  have c4 : decide ((0 : Int) ≤ -1) = false := by decide
  have c5 : (0 : Int) ≤ (i : Int) := by omega
  have c6 : (0 : Int) ≤ (i : Int) ∧ (i : Int) < (U.length : Int) := by omega
  rw [c3]
  simp only [cond_false, h36, h38, Option.bind_some, AV.int1K, AV.intK, AV.tK, T.intK, IntKind.same, cond_true, consK, Nat.beq, Ent.boxK, AV.strK, T.strK, nilK, c4, decide_eq_true c5, T.slK, List.length_map, decide_eq_true c6, Int.toNat_natCast, nth_dc hu, dcRow, nth, hcs]
  have c7 : (!((1 : Int) == 3)) = true := by decide
  rw [c7]
  refine (show _ = _ from main).trans ?_
  rw [x25_0_1_x0]
  simp only [cond_true, x25_0_x3, List.drop_zero, List.nil_append]
end Go.AS.G4
