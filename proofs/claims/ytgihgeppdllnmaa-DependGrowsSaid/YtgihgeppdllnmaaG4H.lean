/- AS, the seat of DependGrows: the order, the cycle and the chain. -/
import Derived.Test.YtgihgeppdllnmaaG4G
namespace Go.AS.G4
open Go.Proofs
set_option linter.all false

theorem R7_err {W W' : List (List T)} {t : Ty} {e : Int} (he : (e == 0) = false) {m : List Str} {p o : List (List T)} (hr : R 11 [.ptr 0 0, t.av] (wh W [] [] []) = some (.t (.int .i64 e), wh W' m p o)) :
    R 7 [.t (.sl 9 W), .t (.sl 2 (rows [t]))] [] = some (.tup [.ptr 0 0, .t (.int .i64 e)], wh W' m p o) := by
  obtain ⟨n, a⟩ := t
  unfold R wh at *
  rw [av_mk] at *
  rw [call_unfold Try.func7, e7, l7_0]
  refine Eq.trans ?_ (x7_0_x0 (call Try.prog cx) (rows [.mk n a]) [.str n, .sl 2 (rows a)] (.str n) (.sl 2 (rows a)) m W' p o e 0 true true)
  simp only [rows_one, List.length_cons, List.length_nil, Int.toNat_zero, nth] at hr ⊢
  simp only [hr]
  refine (show _ = (bif !(e == 0) then _ else _ : Option Res) from rfl).trans ?_
  rw [he]
  rfl
theorem R7_ok {W W' : List (List T)} {t : Ty} {m : List Str} {p o : List (List T)} (hr : R 11 [.ptr 0 0, t.av] (wh W [] [] []) = some (.t (.int .i64 0), wh W' m p o)) :
    R 7 [.t (.sl 9 W), .t (.sl 2 (rows [t]))] [] = some (.tup [.ptr 0 0, .t (.int .i64 0)], wh W' m p o) := by
  obtain ⟨n, a⟩ := t
  unfold R wh at *
  rw [av_mk] at *
  rw [call_unfold Try.func7, e7, l7_0]
  simp only [rows_one, List.length_cons, List.length_nil, Int.toNat_zero, nth] at hr ⊢
  simp only [hr]
  refine (show _ = L7_0 (call Try.prog cx) (K7_0 (call Try.prog cx)) [[.str n, .sl 2 (rows a)]] m W' p o 1 from rfl).trans ?_
  rw [l7_0]
  exact x7_0_x1 (call Try.prog cx) [[.str n, .sl 2 (rows a)]] m W' p o 1 false
theorem R4_err {W W' : List (List T)} {t : Ty} {e : Int} (he : (e == 0) = false) {m : List Str} {p o : List (List T)} (hr : R 11 [.ptr 0 0, t.av] (wh W [] [] []) = some (.t (.int .i64 e), wh W' m p o)) :
    R 4 [.t (.sl 9 W), .t (.sl 2 (rows [t]))] [] = some (.tup [.t (.sl 2 []), .t (.int .i64 e)], []) := by
  have h7 := R7_err he hr
  unfold R wh at *
  rw [call_unfold Try.func4, e4, h7]
  refine (show _ = (bif !(e == 0) then _ else _ : Option Res) from rfl).trans ?_
  rw [he]
  rfl
theorem R4_ok {W W' : List (List T)} {t : Ty} {m : List Str} {p o : List (List T)} (hr : R 11 [.ptr 0 0, t.av] (wh W [] [] []) = some (.t (.int .i64 0), wh W' m p o)) :
    R 4 [.t (.sl 9 W), .t (.sl 2 (rows [t]))] [] = some (.tup [.t (.sl 2 o), .t (.int .i64 0)], []) := by
  have h7 := R7_ok hr
  unfold R wh at *
  rw [call_unfold Try.func4, e4, h7]
  rfl
theorem R5_err {W W' : List (List T)} {t : Ty} {e : Int} (he : (e == 0) = false) {m : List Str} {p o : List (List T)} (hr : R 8 [.ptr 0 0, t.av] (wh W [] [] []) = some (.t (.int .i64 e), wh W' m p o)) :
    R 5 [.t (.sl 9 W), t.av] [] = some (.tup [.t (.sl 2 []), .t (.int .i64 e)], []) := by
  obtain ⟨n, a⟩ := t
  unfold R wh at *
  rw [av_mk] at *
  rw [call_unfold Try.func5, e5, hr]
  refine (show _ = (bif !(e == 0) then _ else _ : Option Res) from rfl).trans ?_
  rw [he]
  rfl

/-! ### The law's own types -/
theorem Ord1 (w : Bool) : R 4 [.t (.sl 9 (lawW w true)), .t (.sl 2 (rows [tk w 0]))] [] = some (.tup [.t (.sl 2 []), .t (.int .i64 4)], []) := by
  obtain ⟨m', p', o', h⟩ := E11 w (top w) 0 [] [] [] (by omega) rfl (by simp) (by simp) (by simp)
  exact R4_err (by rfl) h
theorem Ord0 (w : Bool) : ∃ o, R 4 [.t (.sl 9 (lawW w false)), .t (.sl 2 (rows [tk w 0]))] [] = some (.tup [.t (.sl 2 o), .t (.int .i64 0)], []) :=
  ⟨_, R4_ok (Leaf (P := []) (o := []) (m := []) (tk_ok w 0) (by have := text_le w (k := 0) (by omega); omega) (by simp) (by simp) rfl (show vis [] (text (tk w 0)) = (true, 0, [text (tk w 0)]) from rfl) (W13 w false false (k := 0) (by omega)))⟩
theorem Rea (w d : Bool) : R 5 [.t (.sl 9 (lawW w d)), (tk w 0).av] [] = some (.tup [.t (.sl 2 []), .t (.int .i64 4)], []) := by
  obtain ⟨m', p', o', h⟩ := E8 w d (top w) 0 [] [] [] (by omega) rfl (by simp) (by simp)
  exact R5_err (by rfl) h
end Go.AS.G4
