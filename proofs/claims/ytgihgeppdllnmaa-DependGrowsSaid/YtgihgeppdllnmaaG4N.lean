/- AS, the seat of DependGrows: the chain with a ring; the law. -/
import Derived.Test.YtgihgeppdllnmaaG4H
namespace Go.AS.G4
open Go.Proofs
set_option linter.all false

def nUa : Str := [103, 101, 111, 46, 85, 97]
def nUb : Str := [103, 101, 111, 46, 85, 98]
def nBool : Str := [66, 111, 111, 108]
def tA : Ty := .mk nUa []
def tB : Ty := .mk nUb []
def tO : Ty := .mk nBool []
def chU (b : Bool) : List Dc := [⟨[85, 97], [], [csRow ⟨b, [99, 97], [tB, tO]⟩]⟩, ⟨[85, 98], [], [csRow ⟨false, [99, 97], [tA, tO]⟩]⟩]
def chW (b : Bool) : List (List T) := [modRow [] (chU b)]
theorem nil_ok (n : Str) : (Ty.mk n []).Ok := .mk _ _ (by simp) (by simp)
theorem R18_0 : R 18 [.t (.int .i64 0)] [] = some (.t (.str [85, 97]), []) := by unfold R; rw [call_unfold Try.func18, e18]; rfl
theorem R18_1 : R 18 [.t (.int .i64 1)] [] = some (.t (.str [85, 98]), []) := by unfold R; rw [call_unfold Try.func18, e18]; rfl
theorem R18_2 : R 18 [.t (.int .i64 2)] [] = some (.t (.str [85, 99]), []) := by unfold R; rw [call_unfold Try.func18, e18]; rfl
theorem R10 (b : Bool) : R 10 [.t (.int .i64 2), .t (.bool true), .t (.bool b)] [] = some (.t (.sl 9 (chW b)), []) := by
  have h0 := R18_0
  have h1 := R18_1
  have h2 := R18_2
  have w1 : IntKind.wrap .i64 ((0 : Int) + 1) = 1 := by decide
  have w2 : IntKind.wrap .i64 ((1 : Int) + 1) = 2 := by decide
  have w3 : IntKind.wrap .i64 ((2 : Int) - 1) = 1 := by decide
  have w4 : ((0 : Int) == 1) = false := by decide
  have w5 : ((1 : Int) == 1) = true := by decide
  unfold R at *
  rw [call_unfold Try.func10, e10, l10_0, w1, h1, w3, w4]
  refine (show _ = M10_0_0 (call Try.prog cx) (K10_0 (call Try.prog cx)) [103, 101, 111] [] [] [] [] [] [] nUb 2 true b 0 1 1 from rfl).trans ?_
  rw [k10_0_0, h0, w1]
  cases b with
  | false =>
    refine (show _ = L10_0 (call Try.prog cx) (K10_0 (call Try.prog cx)) [103, 101, 111] [] [] [dcRow 3 ⟨[85, 97], [], [csRow ⟨false, [99, 97], [tB, tO]⟩]⟩] [] [] [] 2 true false 1 1 1 from rfl).trans ?_
    rw [l10_0, w2, h2, w3, w5, h0]
    refine (show _ = M10_0_0 (call Try.prog cx) (K10_0 (call Try.prog cx)) [103, 101, 111] [] [] [dcRow 3 ⟨[85, 97], [], [csRow ⟨false, [99, 97], [tB, tO]⟩]⟩] [] [] [] nUa 2 true false 1 1 1 from rfl).trans ?_
    rw [k10_0_0, h1, w2]
    refine (show _ = L10_0 (call Try.prog cx) (K10_0 (call Try.prog cx)) [103, 101, 111] [] [] ((chU false).map (dcRow 3)) [] [] [] 2 true false 2 1 1 from rfl).trans ?_
    rw [l10_0]
    exact x10_0_x0 (call Try.prog cx) [103, 101, 111] [] [] ((chU false).map (dcRow 3)) [] [] [] 2 true false 2 false 1 1
  | true =>
    refine (show _ = L10_0 (call Try.prog cx) (K10_0 (call Try.prog cx)) [103, 101, 111] [] [] [dcRow 3 ⟨[85, 97], [], [csRow ⟨true, [99, 97], [tB, tO]⟩]⟩] [] [] [] 2 true true 1 1 1 from rfl).trans ?_
    rw [l10_0, w2, h2, w3, w5, h0]
    refine (show _ = M10_0_0 (call Try.prog cx) (K10_0 (call Try.prog cx)) [103, 101, 111] [] [] [dcRow 3 ⟨[85, 97], [], [csRow ⟨true, [99, 97], [tB, tO]⟩]⟩] [] [] [] nUa 2 true true 1 1 1 from rfl).trans ?_
    rw [k10_0_0, h1, w2]
    refine (show _ = L10_0 (call Try.prog cx) (K10_0 (call Try.prog cx)) [103, 101, 111] [] [] ((chU true).map (dcRow 3)) [] [] [] 2 true true 2 1 1 from rfl).trans ?_
    rw [l10_0]
    exact x10_0_x0 (call Try.prog cx) [103, 101, 111] [] [] ((chU true).map (dcRow 3)) [] [] [] 2 true true 2 false 1 1
theorem pt_none (n : Str) : pt [] [] (.mk n []) = .mk n [] := by simp [pt, ptL, ix]
theorem pay_ok {l : List Ty} (h : ∀ x, x ∈ l → x = tA ∨ x = tB ∨ x = tO) : ∀ x, x ∈ l → x.Ok ∧ size (pt [] [] x) ≤ 1000000000000 := by
  intro x hx
  rcases h x hx with rfl | rfl | rfl <;> refine ⟨nil_ok _, ?_⟩ <;> (first | rw [tA] | rw [tB] | rw [tO]) <;> rw [pt_none] <;> simp [size, sizeL]
theorem C13a (b : Bool) : R 13 [.t (.sl 9 (chW b)), tA.av, .t (.bool false)] [] = some (.tup [.t (.sl 2 (rows (cond b [] [tB, tO]))), .t (.int .i64 0)], []) := by
  have h25 := R25 (S := []) (U := chU b) (nm := nUa) (own := [85, 97]) (by simp) (by simp [chU]) (by decide) (by decide) (by simp) (i := 0) (by cases b <;> rfl) rfl (cs := [⟨b, [99, 97], [tB, tO]⟩]) rfl (by simp) (by simp) false
  have key := R13 (W := chW b) (t := tA) (nil_ok _) (by rfl) (show builtin nUa = false by decide) (all := false) (ps := []) h25 rfl (by simp [tA, Ty.args]) (by cases b <;> simp [tys]) (pay_ok (by cases b <;> simp [tys]))
  rw [key]
  cases b <;> rfl
theorem C13b (b : Bool) : R 13 [.t (.sl 9 (chW b)), tB.av, .t (.bool false)] [] = some (.tup [.t (.sl 2 (rows [tA, tO])), .t (.int .i64 0)], []) := by
  have h25 := R25 (S := []) (U := chU b) (nm := nUb) (own := [85, 98]) (by simp) (by simp [chU]) (by decide) (by decide) (by simp) (i := 1) (by cases b <;> rfl) rfl (cs := [⟨false, [99, 97], [tA, tO]⟩]) rfl (by simp) (by simp) false
  have key := R13 (W := chW b) (t := tB) (nil_ok _) (by rfl) (show builtin nUb = false by decide) (all := false) (ps := []) h25 rfl (by simp [tB, Ty.args]) (by simp [tys]) (pay_ok (by simp [tys]))
  rw [key]
  rfl
theorem Cyc11 : ∃ m o, R 11 [.ptr 0 0, tA.av] (wh (chW false) [] [] []) = some (.t (.int .i64 18), wh (chW false) m (rows [tA, tB, tA]) o) := by
  have h3 := Ring (W := chW false) (t := tA) (nil_ok _) (m := [nUa, nUb]) (P := [tA, tB]) (o := []) (by simp) (by decide)
  have h2 := Down (W := chW false) (t := tB) (t' := tA) (l := [tO]) (nil_ok _) (by decide) (m := [nUa]) (m' := [nUa, nUb]) (P := [tA]) (o := []) (by simp) (by decide) (by decide) (C13b false) (e := 18) (by decide) h3
  have h1 := Down (W := chW false) (t := tA) (t' := tB) (l := [tO]) (nil_ok _) (by decide) (m := []) (m' := [nUa]) (P := []) (o := []) (by simp) (by decide) (by decide) (C13a false) (e := 18) (by decide) h2
  exact ⟨_, _, h1⟩
theorem R16 (t u : Ty) (ht : t.Ok) : R 16 [t.av, .t (.pt 2 [.str u.name, .sl 2 (rows u.args)])] [] = some (.t (.bool (same t u)), []) := by
  have h17 := R17 t ht u
  obtain ⟨n, l⟩ := t
  obtain ⟨n', l'⟩ := u
  unfold R at *
  rw [av_mk] at *
  rw [av_mk] at h17
  simp only [Ty.name, Ty.args]
  rw [call_unfold Try.func16, e16, h17]
  simp only [Option.bind_some, AV.boolK, AV.tK, T.boolK, nilK]
theorem R15_cyc : R 15 [.t (.sl 2 (rows [tA, tB, tA])), .clo 16 [.t (.pt 2 [.str nUa, .sl 2 []])]] [] = some (.t (.int .i64 0), []) := by
  have h16 : call Try.prog cx 16 [.agg [.t (.str nUa), .t (.sl 2 [])], .t (.pt 2 [.str nUa, .sl 2 []])] [] = some (.t (.bool (same tA tA)), []) := R16 tA tA (nil_ok _)
  rw [show same tA tA = true by decide] at h16
  unfold R
  rw [call_unfold Try.func15, e15, l15_0]
  refine Eq.trans ?_ (x15_0_x0 (call Try.prog cx) (rows [tA, tB, tA]) (.str nUa) (.sl 2 []) [.str nUa, .sl 2 []] (.str nUa) (.sl 2 []) 0 true true)
  have e1 : nth [] (rows [tA, tB, tA]) (Int.toNat 0) = [.str nUa, .sl 2 []] := rfl
  rw [e1]
  simp only [nth]
  rw [h16]
  rfl
theorem L9 {l : List Ty} (hok : ∀ t, t ∈ l → t.Ok) (hl : l.length ≤ 1000) : ∀ (j k : Nat), j + k = l.length → L9_0 R (K9_0 R) (rows l) (rows (l.take k)) (k : Int) = some (.tup [.t (.sl 2 (rows l)), .t (.bool true)], []) := by
  intro j
  induction j with
  | zero =>
    intro k hk
    have h1 : decide ((k : Int) < (l.length : Int)) = false := decide_eq_false (by omega)
    rw [l9_0, rows_length, h1, cond_false, x9_0_x0, List.take_of_length_le (by omega : l.length ≤ k)]
  | succ j ihj =>
    intro k hk
    obtain ⟨t, ht⟩ := at_of (l := l) (k := k) (by omega)
    have h14 := R14 t (hok t (List.mem_of_getElem? ht))
    have hta := take_of ht
    obtain ⟨n, a⟩ := t
    have h1 : (k : Int) < (l.length : Int) := by omega
    have h2 : (0 : Int) ≤ (k : Int) := by omega
    have b1 : Nat.ble ((rows (l.take k)).length + ([[T.str n, T.sl 2 (rows a)]] : List (List T)).length) (lim 40) = true := by rw [Nat.ble_eq, lim40e, rows_length]; simp; omega
    rw [av_mk] at h14
    rw [l9_0]
    simp only [rows_length l]
    simp only [h1, h2, decide_true, cond_true, and_self, Int.toNat_natCast, nth_rows ht, nth, h14, Option.bind_some, AV.aggK, consK, AV.strK, AV.tK, T.strK, AV.sl1K, T.slK, Nat.beq, nilK, b1]
    rw [wrap_succ (by omega)]
    have := ihj (k + 1) (by omega)
    rw [hta, rows_append, rows_one] at this
    exact this
theorem R9_cyc : R 9 [.t (.sl 9 (chW false)), tA.av] [] = some (.tup [.t (.sl 2 (rows [tA, tB, tA])), .t (.bool true)], []) := by
  obtain ⟨m, o, h11⟩ := Cyc11
  have h7 := R7_err (by decide) h11
  have h15 := R15_cyc
  have h9 := L9 (l := [tA, tB, tA]) (by intro t ht; simp at ht; rcases ht with rfl | rfl | rfl <;> exact nil_ok _) (by simp) 3 0 rfl
  unfold R wh at *
  rw [tA, av_mk, call_unfold Try.func9, e9]
  have h7' : call Try.prog cx 7 [.t (.sl 9 (chW false)), .t (.sl 2 [[.str nUa, .sl 2 (rows [])]])] [] = _ := h7
  rw [h7']
  refine (show _ = ((call Try.prog cx 15 [.t (.sl 2 (rows [tA, tB, tA])), .clo 16 [.t (.pt 2 [.str nUa, .sl 2 []])]] []).bind fun p285 => AV.int1K p285.1 .i64 fun n286 => nilK p285.2 (bif (decide (0 ≤ n286 ∧ n286 ≤ ((rows [tA, tB, tA]).length : Int) ∧ ((rows [tA, tB, tA]).length : Int) ≤ ((rows [tA, tB, tA]).length : Int))) then (L9_0 (call Try.prog cx) (K9_0 (call Try.prog cx)) (dropN (Int.toNat n286) (takeN (Int.toNat ((rows [tA, tB, tA]).length : Int)) (rows [tA, tB, tA]))) [] (0 : Int)) else (none))) from rfl).trans ?_
  rw [h15]
  exact h9
theorem Ord_chain : R 4 [.t (.sl 9 (chW true)), .t (.sl 2 (rows [tA]))] [] = some (.tup [.t (.sl 2 [tA.row]), .t (.int .i64 0)], []) :=
  R4_ok (Leaf (P := []) (o := []) (m := []) (t := tA) (m' := [nUa]) (nil_ok _) (by decide) (by simp) (by simp) rfl (by decide) (C13a true))
theorem R6 : R 6 [] [] = some (.t (.bool true), []) := by
  have h1 := R10 false
  have h2 := R10 true
  have h3 := R9_cyc
  have h4 := Ord_chain
  unfold R at *
  rw [call_unfold Try.func6, e6, h1]
  refine (show _ = ((call Try.prog cx 9 [.t (.sl 9 (chW false)), tA.av] []).bind _ : Option Res) from rfl).trans ?_
  rw [h3]
  refine (show _ = ((call Try.prog cx 10 [.t (.int .i64 2), .t (.bool true), .t (.bool true)] []).bind _ : Option Res) from rfl).trans ?_
  rw [h2]
  refine (show _ = ((call Try.prog cx 4 [.t (.sl 9 (chW true)), .t (.sl 2 (rows [tA]))] []).bind _ : Option Res) from rfl).trans ?_
  rw [h4]
  rfl
theorem J3b (C : CallF) (w : Bool) (h6 : C 6 [] [] = some (.t (.bool true), [])) (i : Int) : J3_2 C i 4 i = some (.t (.bool true), []) := by
  rw [j3_2, show (i == i) = true by simp, cond_true, show ((4 : Int) == 4) = true from rfl, cond_true, h6]
  rfl
theorem R3 (w d : Bool) : R 3 [.t (.bool w), .t (.bool d)] [] = some (.t (.bool true), []) := by
  have h5 := Rea w d
  have h6 := R6
  have j1 := J3b (call Try.prog cx) w h6 4
  have j0 := J3b (call Try.prog cx) w h6 0
  cases d with
  | true =>
    have h4 := Ord1 w
    unfold R at *
    rw [call_unfold Try.func3, e3]
    cases w with
    | true =>
      rw [cond_true, j3_0]
      refine (show _ = ((call Try.prog cx 4 [.t (.sl 9 (lawW true true)), .t (.sl 2 (rows [tk true 0]))] []).bind _ : Option Res) from rfl).trans ?_
      rw [h4]
      refine (show _ = ((call Try.prog cx 5 [.t (.sl 9 (lawW true true)), (tk true 0).av] []).bind _ : Option Res) from rfl).trans ?_
      rw [h5]
      exact j1
    | false =>
      rw [cond_false, j3_1]
      refine (show _ = ((call Try.prog cx 4 [.t (.sl 9 (lawW false true)), .t (.sl 2 (rows [tk false 0]))] []).bind _ : Option Res) from rfl).trans ?_
      rw [h4]
      refine (show _ = ((call Try.prog cx 5 [.t (.sl 9 (lawW false true)), (tk false 0).av] []).bind _ : Option Res) from rfl).trans ?_
      rw [h5]
      exact j1
  | false =>
    obtain ⟨o, h4⟩ := Ord0 w
    unfold R at *
    rw [call_unfold Try.func3, e3]
    cases w with
    | true =>
      rw [cond_true, j3_0]
      refine (show _ = ((call Try.prog cx 4 [.t (.sl 9 (lawW true false)), .t (.sl 2 (rows [tk true 0]))] []).bind _ : Option Res) from rfl).trans ?_
      rw [h4]
      refine (show _ = ((call Try.prog cx 5 [.t (.sl 9 (lawW true false)), (tk true 0).av] []).bind _ : Option Res) from rfl).trans ?_
      rw [h5]
      exact j0
    | false =>
      rw [cond_false, j3_1]
      refine (show _ = ((call Try.prog cx 4 [.t (.sl 9 (lawW false false)), .t (.sl 2 (rows [tk false 0]))] []).bind _ : Option Res) from rfl).trans ?_
      rw [h4]
      refine (show _ = ((call Try.prog cx 5 [.t (.sl 9 (lawW false false)), (tk false 0).av] []).bind _ : Option Res) from rfl).trans ?_
      rw [h5]
      exact j0
end Go.AS.G4
