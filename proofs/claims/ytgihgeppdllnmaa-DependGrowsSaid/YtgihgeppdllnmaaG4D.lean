/- AS, the seat of DependGrows: what lies in a type. -/
import Derived.Test.YtgihgeppdllnmaaG4C
namespace Go.AS.G4
open Go.Proofs
set_option linter.all false

/-- The types that come out, each once; the error. -/
def subs (ps : List Str) (ars : List Ty) : List Ty → List Ty → List Ty × Int
  | [], acc => (acc, 0)
  | x :: xs, acc => cond (!((sub x ps ars).2 == 0)) ([], (sub x ps ars).2) (cond (!(acc.any (same (sub x ps ars).1))) (subs ps ars xs (acc ++ [(sub x ps ars).1])) (subs ps ars xs acc))
theorem ok_none : (Ty.mk [] []).Ok := .mk _ _ (by simp) (by simp)
theorem sub_okk (t : Ty) (names : List Str) (by' : List Ty) (hb : ∀ b, b ∈ by' → b.Ok) (ht : t.Ok) : (sub t names by').1.Ok := by
  unfold sub
  split
  · exact ok_none
  · split
    · exact ok_none
    · split
      · exact ok_none
      · exact pt_ok hb t ht
theorem L13 {ps : List Str} {ars l : List Ty} (hps : ps.length ≤ 1000) (has : ars.length ≤ 1000) (hao : ∀ a, a ∈ ars → a.Ok) (hasz : ∀ a, a ∈ ars → size a ≤ 1000000000000) (hl : l.length ≤ 1000) (hlo : ∀ x, x ∈ l → x.Ok ∧ size (pt ps ars x) ≤ 1000000000000) (s2 : Str) :
    ∀ (j k : Nat) (acc : List Ty), j + k = l.length → acc.length ≤ k → L13_0 R (K13_0 R) (strRows ps) (rows l) s2 (rows ars) (rows acc) (k : Int) = some (.tup [.t (.sl 2 (rows (subs ps ars (l.drop k) acc).1)), .t (.int .i64 (subs ps ars (l.drop k) acc).2)], []) := by
  intro j
  induction j with
  | zero =>
    intro k acc hk ha
    have h1 : decide ((k : Int) < (l.length : Int)) = false := decide_eq_false (by omega)
    rw [l13_0, rows_length, h1, cond_false, x13_0_x1, List.drop_eq_nil_of_le (by omega : l.length ≤ k), subs]
  | succ j ihj =>
    intro k acc hk ha
    obtain ⟨x, hx⟩ := at_of (l := l) (k := k) (by omega)
    obtain ⟨xo, xs⟩ := hlo x (List.mem_of_getElem? hx)
    have h24 := R24 (t := x) (names := ps) (by' := ars) hps has hao hasz xo xs
    have hso := sub_okk x ps ars hao xo
    have h1 : (k : Int) < (l.length : Int) := by omega
    have h2 : (0 : Int) ≤ (k : Int) := by omega
    have n1 := fun y => ihj (k + 1) (acc ++ [y]) (by omega) (by simp; omega)
    have n2 := ihj (k + 1) acc (by omega) (by omega)
    have w := wrap_succ (k := k) (by omega)
    rw [drop_of hx, subs]
    have h19 := R19_26 (sub x ps ars).1 hso (l := acc) (by omega)
    generalize (sub x ps ars).2 = e at h24 ⊢
    generalize (sub x ps ars).1 = y at h24 h19 hso n1 ⊢
    obtain ⟨n, a⟩ := x
    obtain ⟨n', a'⟩ := y
    rw [av_mk] at h24
    rw [av_mk] at h24
    simp only [Ty.name, Ty.args] at h19
    have b1 : Nat.ble (acc.length + ([[T.str n', T.sl 2 (rows a')]] : List (List T)).length) (lim 40) = true := by rw [Nat.ble_eq, lim40']; simp; omega
    rw [l13_0]
    simp only [rows_length]
    simp only [h1, h2, decide_true, cond_true, and_self, Int.toNat_natCast, nth_rows hx, nth, h24, Option.bind_some, AV.tupK, consK, AV.aggK, AV.strK, AV.tK, T.strK, AV.sl1K, T.slK, Nat.beq, nilK, AV.int1K, AV.intK, T.intK, IntKind.same, x13_0_x0, h19, AV.boolK, T.boolK, b1]
    cases (e == 0) with
    | false => simp only [Bool.not_false, cond_true]; rfl
    | true =>
      simp only [Bool.not_true, cond_false]
      cases acc.any (same (.mk n' a')) with
      | true =>
        simp only [Bool.not_true, cond_false]
        rw [w]
        exact n2
      | false =>
        simp only [Bool.not_false, cond_true]
        rw [w]
        have := n1 (.mk n' a')
        rw [rows_append, rows_one] at this
        exact this
theorem R13 {W : List (List T)} {t : Ty} (hok : t.Ok) (hc : closed t = true) (hb : builtin t.name = false) {all : Bool} {l : List Ty} {ps : List Str} (h25 : R 25 [.t (.sl 9 W), .t (.str t.name), .t (.bool all)] [] = some (.tup [.t (.sl 2 (rows l)), .t (.sl 1 (strRows ps)), .t (.bool true), .t (.bool true)], []))
    (hlen : ps.length = t.args.length) (has : ∀ a, a ∈ t.args → size a ≤ 1000000000000) (hl : l.length ≤ 1000) (hlo : ∀ x, x ∈ l → x.Ok ∧ size (pt ps t.args x) ≤ 1000000000000) :
    R 13 [.t (.sl 9 W), t.av, .t (.bool all)] [] = some (.tup [.t (.sl 2 (rows (subs ps t.args l []).1)), .t (.int .i64 (subs ps t.args l []).2)], []) := by
  have h22 := R22 t hok
  have h23 := R23 t.name
  obtain ⟨n, ars⟩ := t
  have hp := hok.parts
  simp only [Ty.name, Ty.args] at *
  have main := L13 (ps := ps) (ars := ars) (l := l) (by have := hp.1; omega) hp.1 hp.2 has hl hlo n l.length 0 [] (by omega) (by simp)
  rw [hc] at h22
  rw [hb] at h23
  unfold R at *
  rw [av_mk] at *
  rw [call_unfold Try.func13, e13, h22]
  simp only [Option.bind_some, AV.boolK, AV.tK, T.boolK, nilK, Bool.not_true, cond_false, h23, h25, AV.tupK, consK, AV.sl1K, T.slK, Nat.beq, cond_true, strRows_length, rows_length]
  have h1 : ((ps.length : Int) == (ars.length : Int)) = true := by rw [beq_iff_eq]; omega
  rw [h1]
  exact main
theorem R13b {W : List (List T)} {n : Str} (hb : builtin n = true) (hA : (n == ([65, 114, 114, 97, 121] : List UInt8)) = false) (all : Bool) : R 13 [.t (.sl 9 W), (Ty.mk n []).av, .t (.bool all)] [] = some (.tup [.t (.sl 2 []), .t (.int .i64 0)], []) := by
  have h22 := R22 (.mk n []) (.mk _ _ (by simp) (by simp))
  have h23 := R23 n
  have hcl : closed (.mk n []) = true := by
    rw [closed, closedL]
    unfold isParam
    rw [hb]
    rfl
  rw [hcl] at h22
  rw [hb] at h23
  unfold R at *
  rw [av_mk] at *
  rw [call_unfold Try.func13, e13, h22]
  simp only [Option.bind_some, AV.boolK, AV.tK, T.boolK, nilK, Bool.not_true, cond_false, h23, cond_true, hA]
  rw [j13_0]
  cases all <;> rfl
end Go.AS.G4
