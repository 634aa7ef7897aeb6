/- AS, the seat of DependGrows: the order of the types below a type. -/
import Derived.Test.YtgihgeppdllnmaaG4E
namespace Go.AS.G4
open Go.Proofs
set_option linter.all false

theorem setN_new (r : List (List T)) (x y a b : T) : setN (r ++ [[x, y]]) (Int.toNat (r.length : Int)) (setN (setN (nth [] (r ++ [[x, y]]) (Int.toNat (r.length : Int))) 0 a) 1 b) = r ++ [[a, b]] := by
  have h : nth [] (r ++ [[x, y]]) r.length = [x, y] := by rw [nth_get]; simp
  rw [Int.toNat_natCast, h, setN_set]
  simp [setN]
theorem same_no {t u : Ty} (h : text t ≠ text u) : same t u = false := by
  cases hs : same t u with
  | false => rfl
  | true => exact absurd (congrArg text ((same_eq t u).1 hs)) h
theorem J7 {r0 r1 : List (List T)} {m2 : List Str} {r3 r4 : List (List T)} {s5 : Str} {r6 : List (List T)} (h3 : r3.length ≤ 1000) :
    J11_7 (call Try.prog cx) r0 r1 m2 r3 r4 s5 r6 = L11_0 (call Try.prog cx) (K11_0 (call Try.prog cx)) r0 r1 m2 (r3 ++ [[.str s5, .sl 2 r6]]) r4 s5 r6 0 := by
  have b1 : Nat.ble (r3.length + ([[(T.str []), (T.sl 2 [])]] : List (List T)).length) (lim 40) = true := by rw [Nat.ble_eq, lim40e]; simp; omega
  have b2 : decide (0 ≤ (r3.length : Int) ∧ (r3.length : Int) < ((r3 ++ [[(T.str []), (T.sl 2 [])]]).length : Int)) = true := decide_eq_true (by simp; omega)
  have b3 : Nat.ble (r3.length + ([[(T.str s5), (T.sl 2 r6)]] : List (List T)).length) (lim 40) = true := by rw [Nat.ble_eq, lim40e]; simp; omega
  rw [j11_7, j11_8, j11_8, cond_false, cond_true, b1, b2, b3, setN_new]
  simp only [cond_true]
  rw [coinK_self, j11_9]
theorem P11 {W : List (List T)} {t : Ty} (hok : t.Ok) (htl : (text t).length ≤ 100000000) {m m' : List Str} {P : List Ty} {o : List (List T)} {l : List Ty} {e : Int}
    (hP : P.length ≤ 1000) (ha : P.any (same t) = false) (hv : vis m (text t) = (true, 0, m')) (h13 : R 13 [.t (.sl 9 W), t.av, .t (.bool false)] [] = some (.tup [.t (.sl 2 (rows l)), .t (.int .i64 e)], [])) :
    R 11 [.ptr 0 0, t.av] (wh W m (rows P) o) = bif !(e == 0) then some (.t (.int .i64 e), wh W m' (rows P) o) else L11_0 (call Try.prog cx) (K11_0 (call Try.prog cx)) (rows l) W m' (rows P ++ [[.str t.name, .sl 2 (rows t.args)]]) o t.name (rows t.args) 0 := by
  have h12 := R12 t hok htl W m (rows P) o
  have h19 := R19_20 t hok (l := P) (by omega)
  rw [hv] at h12
  rw [ha] at h19
  have j7 := J7 (r0 := rows l) (r1 := W) (m2 := m') (r3 := rows P) (r4 := o) (s5 := t.name) (r6 := rows t.args) (by rw [rows_length]; exact hP)
  obtain ⟨n, a⟩ := t
  simp only [Ty.name, Ty.args] at *
  unfold R wh at *
  rw [av_mk] at *
  rw [call_unfold Try.func11, e11, j11_0, h19]
  simp only [Option.bind_some, AV.boolK, AV.tK, T.boolK, nilK]
  rw [j11_1, cond_false, j11_3, h12]
  refine (show _ = J11_4 (call Try.prog cx) W m' (rows P) o n (rows a) true 0 from rfl).trans ?_
  rw [j11_4, Bool.not_true, cond_false, j11_5, h13]
  refine (show _ = J11_6 (call Try.prog cx) (rows l) W m' (rows P) o n (rows a) e from rfl).trans ?_
  rw [j11_6, j7]
/-- A type with nothing in it. -/
theorem Leaf {W : List (List T)} {t : Ty} (hok : t.Ok) (htl : (text t).length ≤ 100000000) {m m' : List Str} {P : List Ty} {o : List (List T)}
    (hP : P.length ≤ 1000) (ho : o.length ≤ 1000) (ha : P.any (same t) = false) (hv : vis m (text t) = (true, 0, m')) (h13 : R 13 [.t (.sl 9 W), t.av, .t (.bool false)] [] = some (.tup [.t (.sl 2 []), .t (.int .i64 0)], [])) :
    R 11 [.ptr 0 0, t.av] (wh W m (rows P) o) = some (.t (.int .i64 0), wh W m' (rows P) (o ++ [t.row])) := by
  have h14 := R14 t hok
  rw [P11 (l := []) (e := 0) hok htl hP ha hv h13]
  obtain ⟨n, a⟩ := t
  simp only [Ty.name, Ty.args]
  have b1 : Nat.ble (o.length + ([[(T.str []), (T.sl 2 [])]] : List (List T)).length) (lim 40) = true := by rw [Nat.ble_eq, lim40e]; simp; omega
  have b2 : decide (0 ≤ (o.length : Int) ∧ (o.length : Int) < ((o ++ [[(T.str []), (T.sl 2 [])]]).length : Int)) = true := decide_eq_true (by simp; omega)
  have w : IntKind.wrap .i64 (((rows P ++ ([[T.str n, T.sl 2 (rows a)]] : List (List T))).length : Int) - 1) = ((rows P).length : Int) := by
    rw [wrap_in (by simp [rows_length]; omega)]; simp
  have b3 : decide (0 ≤ ((rows P).length : Int) ∧ ((rows P).length : Int) ≤ ((rows P ++ ([[T.str n, T.sl 2 (rows a)]] : List (List T))).length : Int)) = true := decide_eq_true (by simp; omega)
  have tk : takeN (rows P).length (rows P ++ ([[T.str n, T.sl 2 (rows a)]] : List (List T))) = rows P := by rw [takeN_take]; simp
  unfold R wh at *
  rw [av_mk] at *
  rw [show (!((0 : Int) == 0)) = false from rfl, cond_false, l11_0]
  refine (show _ = X11_0_x1 (K11_0 (call Try.prog cx)) (rows []) W m' (rows P ++ ([[T.str n, T.sl 2 (rows a)]] : List (List T))) o n (rows a) 0 false from rfl).trans ?_
  rw [x11_0_x1, j11_10, w, b3, cond_true, Int.toNat_natCast, tk, j11_11, h14]
  simp only [Option.bind_some, AV.aggK, consK, AV.strK, AV.tK, T.strK, AV.sl1K, T.slK, Nat.beq, cond_true, nilK, b1, b2]
  rw [setN_new, row_mk]
/-- A type in which one type lies that ends with an error. -/
theorem Down {W : List (List T)} {t t' : Ty} {l : List Ty} (hok : t.Ok) (htl : (text t).length ≤ 100000000) {m m' : List Str} {P : List Ty} {o : List (List T)}
    (hP : P.length ≤ 1000) (ha : P.any (same t) = false) (hv : vis m (text t) = (true, 0, m')) (h13 : R 13 [.t (.sl 9 W), t.av, .t (.bool false)] [] = some (.tup [.t (.sl 2 (rows (t' :: l))), .t (.int .i64 0)], []))
    {e : Int} (he : (e == 0) = false) {W' : List (List T)} {m2 : List Str} {p2 o2 : List (List T)} (hr : R 11 [.ptr 0 0, t'.av] (wh W m' (rows (P ++ [t])) o) = some (.t (.int .i64 e), wh W' m2 p2 o2)) :
    R 11 [.ptr 0 0, t.av] (wh W m (rows P) o) = some (.t (.int .i64 e), wh W' m2 p2 o2) := by
  rw [P11 (l := t' :: l) (e := 0) hok htl hP ha hv h13]
  have c1 : decide ((0 : Int) < ((rows (t' :: l)).length : Int)) = true := decide_eq_true (by simp [rows_length])
  have c2 : decide (0 ≤ (0 : Int) ∧ (0 : Int) < ((rows (t' :: l)).length : Int)) = true := decide_eq_true (by simp [rows_length])
  obtain ⟨n, a⟩ := t
  obtain ⟨n', a'⟩ := t'
  have hn : nth [] (rows (.mk n' a' :: l)) 0 = [.str n', .sl 2 (rows a')] := nth_rows rfl
  rw [rows_append, rows_one] at hr
  simp only [Ty.name, Ty.args]
  unfold R wh at *
  rw [av_mk] at *
  rw [show (!((0 : Int) == 0)) = false from rfl, cond_false, l11_0, c1, c2, cond_true, cond_true]
  refine Eq.trans ?_ (x11_0_x0 (call Try.prog cx) (rows (.mk n' a' :: l)) [.str n', .sl 2 (rows a')] (.str n') (.sl 2 (rows a')) W' m2 p2 o2 n (rows a) e 0 true true)
  simp only [Int.toNat_zero, hn, nth, hr]
  refine (show _ = (bif !(e == 0) then _ else _ : Option Res) from rfl).trans ?_
  rw [he]
  rfl
/-- A type that is on the path already. -/
theorem Ring {W : List (List T)} {t : Ty} (hok : t.Ok) {m : List Str} {P : List Ty} {o : List (List T)} (hP : P.length ≤ 1000) (ha : P.any (same t) = true) :
    R 11 [.ptr 0 0, t.av] (wh W m (rows P) o) = some (.t (.int .i64 18), wh W m (rows (P ++ [t])) o) := by
  have h19 := R19_20 t hok (l := P) (by omega)
  rw [ha] at h19
  obtain ⟨n, a⟩ := t
  simp only [Ty.name, Ty.args] at *
  have b1 : Nat.ble ((rows P).length + ([[(T.str []), (T.sl 2 [])]] : List (List T)).length) (lim 40) = true := by rw [Nat.ble_eq, lim40e, rows_length]; simp; omega
  have b2 : decide (0 ≤ ((rows P).length : Int) ∧ ((rows P).length : Int) < ((rows P ++ [[(T.str []), (T.sl 2 [])]]).length : Int)) = true := decide_eq_true (by simp; omega)
  have b3 : Nat.ble ((rows P).length + ([[(T.str n), (T.sl 2 (rows a))]] : List (List T)).length) (lim 40) = true := by rw [Nat.ble_eq, lim40e, rows_length]; simp; omega
  unfold R wh at *
  rw [av_mk] at *
  rw [call_unfold Try.func11, e11, j11_0, h19]
  simp only [Option.bind_some, AV.boolK, AV.tK, T.boolK, nilK]
  rw [j11_1, cond_true, b1, b2, b3, setN_new]
  simp only [cond_true]
  rw [coinK_self, j11_2, rows_append, rows_one]
theorem E11 (w : Bool) : ∀ (j k : Nat) (m : List Str) (P : List Ty) (o : List (List T)), k + j = top w → m.length = k → (∀ s, s ∈ m → s.length < (text (tk w k)).length) → P.length ≤ k → (∀ t, t ∈ P → (text t).length < (text (tk w k)).length) →
    ∃ m' p' o', R 11 [.ptr 0 0, (tk w k).av] (wh (lawW w true) m (rows P) o) = some (.t (.int .i64 4), wh (lawW w true) m' p' o') := by
  intro j
  induction j with
  | zero =>
    intro k m P o hk hm hs hP hPs
    have hk' : k = top w := by omega
    have hP' : P.length ≤ 1000 := by cases w <;> simp [top] at hk' <;> omega
    have h13 := W13 w true false (k := k) (by omega)
    have ha : P.any (same (tk w k)) = false := by
      rw [List.any_eq_false]
      intro t ht
      have := hPs t ht
      rw [same_no (fun h => by rw [h] at this; omega)]
      simp
    have hmem : memS m (text (tk w k)) = false := by
      rw [Bool.eq_false_iff]
      intro h
      have := hs _ ((memS_iff _ _).1 h)
      omega
    cases w with
    | false =>
      have h12 := R12 (tk false k) (tk_ok false k) (by have := text_le false (k := k) (by omega); omega) (lawW false true) m (rows P) o
      have h19 := R19_20 (tk false k) (tk_ok false k) (l := P) (by omega)
      rw [ha] at h19
      have hv : vis m (text (tk false k)) = (false, 4, m) := by
        rw [vis, hmem, cond_false, show ((m.length : Int) == 300) = true by rw [hm, hk']; rfl, cond_true]
      rw [hv] at h12
      refine ⟨m, rows P, o, ?_⟩
      unfold R wh at *
      rw [tk, av_mk] at *
      simp only [Ty.name, Ty.args] at h19
      rw [call_unfold Try.func11, e11, j11_0, h19]
      simp only [Option.bind_some, AV.boolK, AV.tK, T.boolK, nilK]
      rw [j11_1, cond_false, j11_3, h12]
      refine (show _ = J11_4 (call Try.prog cx) (lawW false true) m (rows P) o nG (rows [ch false k]) false 4 from rfl).trans ?_
      rw [j11_4, Bool.not_false, cond_true]
    | true =>
      have hv : vis m (text (tk true k)) = (true, 0, addS m (text (tk true k))) := by
        rw [vis, hmem, cond_false, show ((m.length : Int) == 300) = false by rw [hm, hk']; rfl, cond_false]
      have hsz : 4095 < size (nx true (ch true k)) := by
        have := size_ch1 (k + 1)
        rw [hk'] at this ⊢
        have h3 : (2 : Nat) ^ (top true + 1 + 1) = 8192 := by decide
        rw [ch] at this
        omega
      rw [subs_arg, if_pos hsz] at h13
      refine ⟨addS m (text (tk true k)), rows P, o, (P11 (l := []) (e := 4) (tk_ok true k) (by have := text_le true (k := k) (by omega); omega) hP' ha hv h13).trans ?_⟩
      rfl
  | succ j ih =>
    intro k m P o hk hm hs hP hPs
    have hk2 : k < top w := by omega
    have hk3 : k < 300 := by cases w <;> simp [top] at hk2 <;> omega
    have htl := text_le w (k := k) (by omega)
    have h13 := W13 w true false (k := k) (by omega)
    have ha : P.any (same (tk w k)) = false := by
      rw [List.any_eq_false]
      intro t ht
      have := hPs t ht
      rw [same_no (fun h => by rw [h] at this; omega)]
      simp
    have hmem : memS m (text (tk w k)) = false := by
      rw [Bool.eq_false_iff]
      intro h
      have := hs _ ((memS_iff _ _).1 h)
      omega
    have hv : vis m (text (tk w k)) = (true, 0, m ++ [text (tk w k)]) := by
      rw [vis, hmem, cond_false, show ((m.length : Int) == 300) = false by rw [hm, beq_eq_false_iff_ne]; omega, cond_false, addS, hmem, cond_false]
    have hsz : ¬ 4095 < size (nx w (ch w k)) := by have := size_lt w hk2; rw [ch] at this; omega
    rw [subs_arg, if_neg hsz] at h13
    have hu := text_up w k
    obtain ⟨m', p', o', hr⟩ := ih (k + 1) (m ++ [text (tk w k)]) (P ++ [tk w k]) o (by omega) (by simp; omega) (fun s h => by
      rcases List.mem_append.1 h with h | h
      · have := hs s h; omega
      · simp at h; rw [h]; exact hu) (by simp; omega) (fun t h => by
      rcases List.mem_append.1 h with h | h
      · have := hPs t h; omega
      · simp at h; rw [h]; exact hu)
    exact ⟨m', p', o', Down (tk_ok w k) (by omega) (by omega) ha hv h13 (by rfl) hr⟩
end Go.AS.G4
