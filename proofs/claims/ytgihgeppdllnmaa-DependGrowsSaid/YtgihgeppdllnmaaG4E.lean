/- AS, the seat of DependGrows: the type that grows; reachable types. -/
import Derived.Test.YtgihgeppdllnmaaG4D
namespace Go.AS.G4
open Go.Proofs
set_option linter.all false

/-! ### The type that grows -/
def nG : Str := [103, 101, 111, 46, 71]
def nP : Str := [103, 101, 111, 46, 80]
def nA : Str := [65, 114, 114, 97, 121]
/-- One step: Array[x], or P[x, x]. -/
def nx (w : Bool) (x : Ty) : Ty := cond w (.mk nP [x, x]) (.mk nA [x])
def ch (w : Bool) : Nat → Ty
  | 0 => .mk [73, 110, 116] []
  | k + 1 => nx w (ch w k)
def tk (w : Bool) (k : Nat) : Ty := .mk nG [ch w k]
def argT (w : Bool) : Ty := .mk nG [nx w (.mk [84] [])]
def lawW (w d : Bool) : List (List T) := [modRow [⟨[80], [[65], [66]], []⟩] [⟨[71], [[84]], [csRow ⟨false, [99, 97], []⟩, csRow ⟨!d, [99, 98], [argT w]⟩]⟩]]
theorem pt_arg (w : Bool) (x : Ty) : pt [[84]] [x] (argT w) = .mk nG [nx w x] := by cases w <;> rfl
theorem size_nx (w : Bool) (x : Ty) : size (nx w x) = cond w (1 + 2 * size x) (1 + size x) := by
  cases w
  · simp only [nx, cond_false, size, sizeL]; omega
  · simp only [nx, cond_true, size, sizeL]; omega
theorem nx_ok (w : Bool) {x : Ty} (h : x.Ok) : (nx w x).Ok := by
  cases w
  · exact .mk _ _ (by simp) (fun t ht => by simp at ht; rw [ht]; exact h)
  · exact .mk _ _ (by simp) (fun t ht => by simp at ht; rw [ht]; exact h)
theorem ch_ok (w : Bool) : ∀ k, (ch w k).Ok
  | 0 => .mk _ _ (by simp) (by simp)
  | k + 1 => nx_ok w (ch_ok w k)
theorem one_ok {n : Str} {x : Ty} (h : x.Ok) : (Ty.mk n [x]).Ok := .mk _ _ (by simp) (fun t ht => by simp at ht; rw [ht]; exact h)
theorem tk_ok (w : Bool) (k : Nat) : (tk w k).Ok := one_ok (ch_ok w k)
theorem arg_ok (w : Bool) : (argT w).Ok := one_ok (nx_ok w (.mk _ _ (by simp) (by simp)))
theorem par_nm : isParam nG = false ∧ isParam nP = false ∧ isParam nA = false ∧ isParam [73, 110, 116] = false := by decide
theorem closed_nx (w : Bool) {x : Ty} (h : closed x = true) : closed (nx w x) = true := by
  cases w
  · simp only [nx, cond_false, closed, closedL, par_nm.2.2.1, h, Bool.not_false, cond_true]
  · simp only [nx, cond_true, closed, closedL, par_nm.2.1, h, Bool.not_false]
theorem ch_closed (w : Bool) : ∀ k, closed (ch w k) = true
  | 0 => by simp only [ch, closed, closedL, par_nm.2.2.2, Bool.not_false, cond_true]
  | k + 1 => closed_nx w (ch_closed w k)
theorem tk_closed (w : Bool) (k : Nat) : closed (tk w k) = true := by
  simp only [tk, closed, closedL, par_nm.1, ch_closed w k, Bool.not_false, cond_true]
/-- The limit: the step at which the error comes. -/
def top (w : Bool) : Nat := cond w 11 300
theorem size_ch0 : ∀ k, size (ch false k) = k + 1
  | 0 => rfl
  | k + 1 => by rw [ch, size_nx, size_ch0 k, cond_false]; omega
theorem size_ch1 : ∀ k, size (ch true k) + 1 = 2 ^ (k + 1)
  | 0 => rfl
  | k + 1 => by have := size_ch1 k; rw [ch, size_nx, cond_true, Nat.pow_succ 2 (k + 1)]; omega
theorem size_le (w : Bool) {k : Nat} (h : k ≤ top w + 1) : size (ch w k) ≤ 8191 := by
  cases w
  · rw [size_ch0]; simp only [top, cond_false] at h; omega
  · have := size_ch1 k
    simp only [top, cond_true] at h
    have h2 : 2 ^ (k + 1) ≤ 2 ^ 13 := Nat.pow_le_pow_right (by omega) (by omega)
    omega
theorem size_lt (w : Bool) {k : Nat} (h : k < top w) : size (ch w (k + 1)) ≤ 4095 := by
  cases w
  · rw [size_ch0]; simp only [top, cond_false] at h; omega
  · have := size_ch1 (k + 1)
    simp only [top, cond_true] at h
    have h2 : 2 ^ (k + 1 + 1) ≤ 2 ^ 12 := Nat.pow_le_pow_right (by omega) (by omega)
    omega
theorem text_nx (w : Bool) (x : Ty) : (text x).length < (text (nx w x)).length ∧ (text (nx w x)).length ≤ 2 * (text x).length + 9 := by
  cases w
  · simp only [nx, cond_false, text, textB, textR, nA, List.length_append, List.length_cons, List.length_nil]; omega
  · simp only [nx, cond_true, text, textB, textR, nP, List.length_append, List.length_cons, List.length_nil]; omega
theorem text_ch0 : ∀ k, (text (ch false k)).length ≤ 3 + 7 * k
  | 0 => by decide
  | k + 1 => by
    have := text_ch0 k
    simp only [ch, nx, cond_false, text, textB, textR, nA, List.length_append, List.length_cons, List.length_nil]; omega
theorem text_ch1 : ∀ k, (text (ch true k)).length + 9 ≤ 12 * 2 ^ k
  | 0 => by decide
  | k + 1 => by
    have := text_ch1 k
    have := (text_nx true (ch true k)).2
    rw [ch, Nat.pow_succ]; omega
theorem text_tk (w : Bool) (k : Nat) : (text (tk w k)).length = (text (ch w k)).length + 7 := by
  simp only [tk, text, textB, textR, nG, List.length_append, List.length_cons, List.length_nil]; omega
theorem text_le (w : Bool) {k : Nat} (h : k ≤ top w) : (text (tk w k)).length ≤ 100000 := by
  rw [text_tk]
  cases w
  · have := text_ch0 k; simp only [top, cond_false] at h; omega
  · have := text_ch1 k
    simp only [top, cond_true] at h
    have h2 : 2 ^ k ≤ 2 ^ 11 := Nat.pow_le_pow_right (by omega) (by omega)
    omega
theorem text_up (w : Bool) (k : Nat) : (text (tk w k)).length < (text (tk w (k + 1))).length := by
  rw [text_tk, text_tk, ch]
  have := (text_nx w (ch w k)).1
  omega
theorem sub_arg (w : Bool) (x : Ty) : sub (argT w) [[84]] [x] = if 4095 < size (nx w x) then (.mk [] [], 4) else (.mk nG [nx w x], 0) := by
  have hs : size (.mk nG [nx w x]) = 1 + size (nx w x) := by simp only [size, sizeL]; omega
  have ht : ¬ tw [] [([84] : Str)] = true := by decide
  have e1 : ((4096 < 1 + size (nx w x)) = (4095 < size (nx w x))) := by
    apply propext
    omega
  rw [sub, if_neg (by simp), if_neg ht, pt_arg, hs]
  simp only [e1]
theorem subs_arg (w : Bool) (x : Ty) : subs [[84]] [x] [argT w] [] = if 4095 < size (nx w x) then ([], 4) else ([.mk nG [nx w x]], 0) := by
  rw [subs, sub_arg]
  split <;> rfl
/-- What lies in the type that grows. -/
theorem W13 (w d all : Bool) {k : Nat} (hk : k ≤ top w) : R 13 [.t (.sl 9 (lawW w d)), (tk w k).av, .t (.bool all)] [] =
    cond (all || d) (some (.tup [.t (.sl 2 (rows (subs [[84]] [ch w k] [argT w] []).1)), .t (.int .i64 (subs [[84]] [ch w k] [argT w] []).2)], [])) (some (.tup [.t (.sl 2 []), .t (.int .i64 0)], [])) := by
  have h25 := R25 (S := [⟨[80], [[65], [66]], []⟩]) (U := [⟨[71], [[84]], [csRow ⟨false, [99, 97], []⟩, csRow ⟨!d, [99, 98], [argT w]⟩]⟩]) (nm := nG) (own := [71]) (by simp) (by simp) (by decide) (by decide) (by decide) (i := 0) rfl rfl
    (cs := [⟨false, [99, 97], []⟩, ⟨!d, [99, 98], [argT w]⟩]) rfl (by simp) (by simp) all
  have hsx : size (nx w (ch w k)) ≤ 8191 := size_le w (k := k + 1) (by omega)
  have hx := size_le w (k := k) (by omega)
  have main := fun l h hl hlo => R13 (W := lawW w d) (t := tk w k) (tk_ok w k) (tk_closed w k) (show builtin nG = false by decide) (all := all) (l := l) (ps := [[84]]) h rfl (fun a ha => by simp [tk, Ty.args] at ha; rw [ha]; omega) hl hlo
  have e : tys all [⟨false, [99, 97], []⟩, ⟨!d, [99, 98], [argT w]⟩] = cond (all || d) [argT w] [] := by
    cases all <;> cases d <;> rfl
  rw [e] at h25
  have key := main _ h25
  cases hc : (all || d) with
  | false =>
    rw [hc] at key
    exact key (by simp) (fun x hx => by simp at hx)
  | true =>
    rw [hc] at key
    refine key (by simp) (fun x hx => ?_)
    have : x = argT w := by simpa using hx
    rw [this]
    refine ⟨arg_ok w, ?_⟩
    show size (pt [[84]] [ch w k] (argT w)) ≤ _
    rw [pt_arg]
    simp only [size, sizeL]
    omega
theorem setN_len {α : Type} : ∀ (l : List α) (i : Nat) (x : α), (setN l i x).length = l.length := fun l i x => by rw [setN_set]; simp
theorem lim40e : lim 40 = 3518437208883 := by decide

/-! ### Reachable -/
theorem E8 (w d : Bool) : ∀ (j k : Nat) (m : List Str) (p o : List (List T)), k + j = top w → m.length = k → (∀ s, s ∈ m → s.length < (text (tk w k)).length) → o.length ≤ k →
    ∃ m' p' o', R 8 [.ptr 0 0, (tk w k).av] (wh (lawW w d) m p o) = some (.t (.int .i64 4), wh (lawW w d) m' p' o') := by
  intro j
  induction j with
  | zero =>
    intro k m p o hk hm hs ho
    have h12 := R12 (tk w k) (tk_ok w k) (by have := text_le w (k := k) (by omega); omega) (lawW w d) m p o
    have h13 := W13 w d true (k := k) (by omega)
    have hmem : memS m (text (tk w k)) = false := by
      rw [Bool.eq_false_iff]
      intro h
      have := hs _ ((memS_iff _ _).1 h)
      omega
    have hk' : k = top w := by omega
    cases w with
    | false =>
      have hv : vis m (text (tk false k)) = (false, 4, m) := by
        rw [vis, hmem, cond_false, show ((m.length : Int) == 300) = true by rw [hm, hk']; rfl, cond_true]
      rw [hv] at h12
      refine ⟨m, p, o, ?_⟩
      unfold R wh at *
      rw [tk, av_mk] at *
      rw [call_unfold Try.func8, e8, h12]
      rfl
    | true =>
      have hv : vis m (text (tk true k)) = (true, 0, addS m (text (tk true k))) := by
        rw [vis, hmem, cond_false, show ((m.length : Int) == 300) = false by rw [hm, hk']; rfl, cond_false]
      rw [hv] at h12
      have hsz : 4095 < size (nx true (ch true k)) := by
        have := size_ch1 (k + 1)
        rw [hk'] at this ⊢
        have h3 : (2 : Nat) ^ (top true + 1 + 1) = 8192 := by decide
        rw [ch] at this
        omega
      rw [subs_arg, if_pos hsz] at h13
      refine ⟨addS m (text (tk true k)), p, o, ?_⟩
      unfold R wh at *
      rw [tk, av_mk] at *
      rw [call_unfold Try.func8, e8, h12]
      refine (show _ = J8_0 (call Try.prog cx) (lawW true d) (addS m (text (tk true k))) p o nG (rows [ch true k]) from rfl).trans ?_
      rw [j8_0, h13]
      rfl
  | succ j ih =>
    intro k m p o hk hm hs ho
    have htl := text_le w (k := k) (by omega)
    have h12 := R12 (tk w k) (tk_ok w k) (by omega) (lawW w d) m p o
    have h13 := W13 w d true (k := k) (by omega)
    have h14 := R14 (tk w k) (tk_ok w k)
    have hmem : memS m (text (tk w k)) = false := by
      rw [Bool.eq_false_iff]
      intro h
      have := hs _ ((memS_iff _ _).1 h)
      omega
    have hk2 : k < top w := by omega
    have hk3 : k < 300 := by cases w <;> simp [top] at hk2 <;> omega
    have hv : vis m (text (tk w k)) = (true, 0, m ++ [text (tk w k)]) := by
      rw [vis, hmem, cond_false, show ((m.length : Int) == 300) = false by rw [hm, beq_eq_false_iff_ne]; omega, cond_false, addS, hmem, cond_false]
    rw [hv] at h12
    have hsz : ¬ 4095 < size (nx w (ch w k)) := by have := size_lt w hk2; rw [ch] at this; omega
    rw [subs_arg, if_neg hsz] at h13
    have h8 := fun o' ho' => ih (k + 1) (m ++ [text (tk w k)]) p o' (by omega) (by simp; omega) (fun s h => by
      have hu := text_up w k
      rcases List.mem_append.1 h with h | h
      · have := hs s h; omega
      · simp at h; rw [h]; exact hu) ho'
    have b1 : Nat.ble (o.length + ([[(T.str []), (T.sl 2 [])]] : List (List T)).length) (lim 40) = true := by rw [Nat.ble_eq, lim40e]; simp; omega
    have b2 : decide (0 ≤ (o.length : Int) ∧ (o.length : Int) < ((o ++ [[(T.str []), (T.sl 2 [])]]).length : Int)) = true := decide_eq_true (by simp; omega)
    obtain ⟨m', p', o', hr⟩ := h8 (setN (o ++ [[(T.str []), (T.sl 2 [])]]) (Int.toNat (o.length : Int)) (setN (setN (nth [] (o ++ [[(T.str []), (T.sl 2 [])]]) (Int.toNat (o.length : Int))) 0 (T.str nG)) 1 (T.sl 2 (rows [ch w k])))) (by rw [setN_len]; simp; omega)
    refine ⟨m', p', o', ?_⟩
    unfold R wh at *
    rw [tk, av_mk] at *
    rw [call_unfold Try.func8, e8, h12]
    refine (show _ = J8_0 (call Try.prog cx) (lawW w d) (m ++ [text (tk w k)]) p o nG (rows [ch w k]) from rfl).trans ?_
    rw [j8_0, h13]
    refine (show _ = J8_1 (call Try.prog cx) (rows [.mk nG [nx w (ch w k)]]) (lawW w d) (m ++ [text (tk w k)]) p o nG (rows [ch w k]) from rfl).trans ?_
    rw [j8_1, h14]
    simp only [Option.bind_some, AV.aggK, consK, AV.strK, AV.tK, T.strK, AV.sl1K, T.slK, Nat.beq, cond_true, nilK, b1, b2]
    rw [j8_2, l8_0]
    rw [ch] at hr
    refine Eq.trans ?_ (x8_0_x0 (call Try.prog cx) (rows [.mk nG [nx w (ch w k)]]) (Ty.mk nG [nx w (ch w k)]).row (.str nG) (.sl 2 (rows [nx w (ch w k)])) (lawW w d) m' p' o' 4 0 true true)
    have c1 : decide ((0 : Int) < (([[T.str nG, T.sl 2 [(nx w (ch w k)).row]]] : List (List T)).length : Int)) = true := decide_eq_true (by simp)
    simp only [List.length_cons, List.length_nil, Int.toNat_zero, nth, rows, List.map_cons, List.map_nil, row_mk] at c1 hr ⊢
    simp only [hr]
    rfl
end Go.AS.G4
