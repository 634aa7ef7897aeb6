/- AS, the seat of DependGrows: types as trees, and what the functions over them answer (law 4's proofs under this seat's numbers). Printed by port.py. -/
import Derived.Test.YtgihgeppdllnmaaG4Fb
import Derived.Test.YtgihgeppdllnmaaAs24
namespace Go.AS.G4
open Go.Proofs
set_option linter.all false
noncomputable def R : CallF := call Try.prog cx
theorem wrap_in {n : Int} (h : -9223372036854775808 ≤ n ∧ n ≤ 9223372036854775807) : IntKind.wrap .i64 n = n := IntWalk.i64_in n h
theorem wrap_succ {k : Nat} (h : k < 9223372036854775807) : IntKind.wrap .i64 ((k : Int) + 1) = ((k + 1 : Nat) : Int) := by rw [wrap_in (by omega)]; omega
theorem drop_of {α : Type} {l : List α} {k : Nat} {x : α} (h : l[k]? = some x) : l.drop k = x :: l.drop (k + 1) := by
  obtain ⟨hk, rfl⟩ := List.getElem?_eq_some_iff.1 h
  exact List.drop_eq_getElem_cons hk
theorem take_of {α : Type} {l : List α} {k : Nat} {x : α} (h : l[k]? = some x) : l.take (k + 1) = l.take k ++ [x] := by
  rw [List.take_add_one, h]; rfl
theorem at_of {α : Type} {l : List α} {k : Nat} (h : k < l.length) : ∃ x, l[k]? = some x := ⟨l[k], List.getElem?_eq_getElem h⟩
theorem nth_map {α β : Type} (d : β) (f : α → β) {l : List α} {k : Nat} {x : α} (h : l[k]? = some x) : nth d (l.map f) k = f x := by
  rw [nth_get, List.getElem?_map, h]; rfl
inductive Ty where
  | mk (name : Str) (args : List Ty)
def Ty.name : Ty → Str | .mk n _ => n
def Ty.args : Ty → List Ty | .mk _ l => l
mutual
def Ty.row : Ty → List T
  | .mk n l => [.str n, .sl 2 (rowsR l)]
def rowsR : List Ty → List (List T)
  | [] => []
  | t :: l => t.row :: rowsR l
end
def rows (l : List Ty) : List (List T) := l.map Ty.row
theorem rowsR_eq : ∀ l : List Ty, rowsR l = rows l
  | [] => rfl
  | t :: l => by simp only [rowsR, rowsR_eq l]; rfl
theorem row_mk (n : Str) (l : List Ty) : (Ty.mk n l).row = [.str n, .sl 2 (rows l)] := by simp only [Ty.row, rowsR_eq]
def Ty.av (t : Ty) : AV := .agg [.t (.str t.name), .t (.sl 2 (rows t.args))]
theorem av_mk (n : Str) (l : List Ty) : (Ty.mk n l).av = .agg [.t (.str n), .t (.sl 2 (rows l))] := rfl
theorem nth_rows {l : List Ty} {k : Nat} {n : Str} {a : List Ty} (h : l[k]? = some (.mk n a)) : nth [] (rows l) k = [.str n, .sl 2 (rows a)] := by
  rw [rows, nth_map [] Ty.row h, row_mk]
theorem rows_length (l : List Ty) : (rows l).length = l.length := by simp [rows]
theorem rows_append (l m : List Ty) : rows (l ++ m) = rows l ++ rows m := by simp [rows]
theorem rows_one (n : Str) (a : List Ty) : rows [.mk n a] = [[.str n, .sl 2 (rows a)]] := by simp [rows, row_mk]
theorem Ty.ind {P : Ty → Prop} (h : ∀ n l, (∀ t, t ∈ l → P t) → P (.mk n l)) : ∀ t, P t
  | .mk n l => h n l fun t ht => Ty.ind h t
termination_by t => SizeOf.sizeOf t
decreasing_by
  have := List.sizeOf_lt_of_mem ht
  simp only [Ty.mk.sizeOf_spec]
  omega
/-- No list of arguments is long. -/
inductive Ty.Ok : Ty → Prop
  | mk (n : Str) (l : List Ty) (hl : l.length ≤ 1000) (h : ∀ t, t ∈ l → Ty.Ok t) : Ty.Ok (.mk n l)
def OkL (l : List Ty) : Prop := l.length ≤ 1000 ∧ ∀ t, t ∈ l → t.Ok
theorem Ty.Ok.parts {n : Str} {l : List Ty} (h : (Ty.mk n l).Ok) : OkL l := by cases h with | mk _ _ hl h => exact ⟨hl, h⟩
theorem OkL.at {l : List Ty} (h : OkL l) {k : Nat} {t : Ty} (hk : l[k]? = some t) : t.Ok := h.2 t (List.mem_of_getElem? hk)
mutual
def same : Ty → Ty → Bool
  | .mk n l, .mk n' l' => n == n' && sameL l l'
def sameL : List Ty → List Ty → Bool
  | [], [] => true
  | t :: l, u :: m => same t u && sameL l m
  | _, _ => false
end
theorem sameL_len : ∀ {l m : List Ty}, l.length ≠ m.length → sameL l m = false
  | [], [], h => absurd rfl h
  | [], _ :: _, _ => by simp [sameL]
  | _ :: _, [], _ => by simp [sameL]
  | t :: l, u :: m, h => by
    simp only [sameL]
    rw [sameL_len (by simpa using h), Bool.and_false]
theorem L27 {l m : List Ty} (hl : l.length ≤ 1000) (hm : l.length = m.length) (ih : ∀ t, t ∈ l → ∀ u, R 17 [t.av, u.av] [] = some (.t (.bool (same t u)), [])) :
    ∀ (j k : Nat), j + k = l.length → L27_0 R (K27_0 R) (rows m) (rows l) (k : Int) = some (.t (.bool (sameL (l.drop k) (m.drop k))), []) := by
  intro j
  induction j with
  | zero =>
    intro k hk
    have h1 : ¬ (k : Int) < (l.length : Int) := by omega
    rw [l27_0]
    simp only [rows_length]
    simp only [h1, decide_false, cond_false, x27_0_x1]
    rw [List.drop_eq_nil_of_le (by omega : l.length ≤ k), List.drop_eq_nil_of_le (by omega : m.length ≤ k)]
    simp only [sameL]
  | succ j ihj =>
    intro k hk
    obtain ⟨t, ht⟩ := at_of (l := l) (k := k) (by omega)
    obtain ⟨u, hu⟩ := at_of (l := m) (k := k) (by omega)
    have iht := ih t (List.mem_of_getElem? ht) u
    obtain ⟨n, a⟩ := t
    obtain ⟨n', a'⟩ := u
    have h1 : (k : Int) < (l.length : Int) := by omega
    have h0 : (0 : Int) ≤ (k : Int) := by omega
    have h5 : (k : Int) < (m.length : Int) := by omega
    rw [av_mk, av_mk] at iht
    rw [l27_0]
    simp only [rows_length]
    simp only [h0, h1, h5, decide_true, cond_true, and_self, Int.toNat_natCast, nth_rows ht, nth_rows hu, nth, iht, Option.bind_some, AV.boolK, AV.tK, T.boolK, nilK]
    rw [drop_of ht, drop_of hu]
    simp only [sameL]
    cases hc : same (.mk n a) (.mk n' a') with
    | true =>
      simp only [Bool.not_true, cond_false, Bool.true_and]
      rw [wrap_succ (by omega)]
      exact ihj (k + 1) (by omega)
    | false => simp only [Bool.not_false, cond_true, x27_0_x0, Bool.false_and]
theorem R17 : ∀ t : Ty, t.Ok → ∀ u, R 17 [t.av, u.av] [] = some (.t (.bool (same t u)), []) := by
  refine Ty.ind fun n l ih hok u => ?_
  obtain ⟨n', m⟩ := u
  have hl := hok.parts
  unfold R
  rw [av_mk, av_mk, call_unfold Try.func17, e17]
  simp only [same]
  cases hc : (n == n') with
  | false => simp only [cond_false, Bool.false_and]
  | true =>
    simp only [cond_true, Bool.true_and]
    rw [call_unfold Try.func27, e27]
    simp only [rows_length]
    by_cases hlen : l.length = m.length
    · have h1 : (((l.length : Int) == (m.length : Int))) = true := by rw [beq_iff_eq]; omega
      simp only [h1, Bool.not_true, cond_false]
      have := L27 (m := m) hl.1 hlen (fun t ht u => ih t ht (hl.2 t ht) u) l.length 0 (by omega)
      unfold R at this
      rw [show (0 : Int) = ((0 : Nat) : Int) from rfl, this]
      simp only [Option.bind_some, AV.boolK, AV.tK, T.boolK, nilK, List.drop_zero]
    · have h1 : (((l.length : Int) == (m.length : Int))) = false := by rw [beq_eq_false_iff_ne]; omega
      simp only [h1, Bool.not_false, cond_true, Option.bind_some, AV.boolK, AV.tK, T.boolK, nilK, sameL_len hlen]
def ints (l : List Int) : List (List T) := l.map fun n => [.int .i64 n]
theorem nth_ints {l : List Int} {k : Nat} {n : Int} (h : l[k]? = some n) : nth [] (ints l) k = [.int .i64 n] := by rw [ints, nth_map [] _ h]
mutual
def text : Ty → Str
  | .mk n l => n ++ textB l
def textB : List Ty → Str
  | [] => []
  | t :: l => [91] ++ (text t ++ textR l) ++ [93]
def textR : List Ty → Str
  | [] => []
  | t :: l => [44, 32] ++ text t ++ textR l
end
theorem joinS_texts : ∀ (t : Ty) (l : List Ty), joinS [44, 32] ((t :: l).map text) = text t ++ textR l
  | t, [] => by simp [joinS, textR]
  | t, u :: l => by
    have ih := joinS_texts u l
    simp only [List.map_cons, joinS] at ih ⊢
    rw [ih]
    simp [textR, List.append_assoc]
def strRows (l : List Str) : List (List T) := l.map fun s => [.str s]
theorem strsOf_rows : ∀ l : List Str, strsOf (strRows l) = some l
  | [] => rfl
  | s :: l => by
    have := strsOf_rows l
    unfold strRows at this
    simp only [strRows, List.map_cons, strsOf, T.strOf, this]
theorem textR_mem : ∀ {l : List Ty} {t : Ty}, t ∈ l → (text t).length ≤ (textR l).length
  | u :: l, t, h => by
    simp only [textR, List.length_append, List.length_cons, List.length_nil]
    rcases List.mem_cons.1 h with rfl | h
    · omega
    · have := textR_mem h; omega
theorem text_part {n : Str} {l : List Ty} {t : Ty} (h : t ∈ l) : (text t).length ≤ (text (.mk n l)).length := by
  match l, h with
  | u :: l, h =>
    simp only [text, textB, List.length_append, List.length_cons, List.length_nil]
    rcases List.mem_cons.1 h with rfl | h
    · omega
    · have := textR_mem h; omega
theorem L21 {n : Str} {l : List Ty} (hl : l.length ≤ 1000) (h0 : l ≠ []) (hlen : (text (.mk n l)).length ≤ 100000000) (ih : ∀ t, t ∈ l → R 21 [t.av] [] = some (.t (.str (text t)), [])) :
    ∀ (j k : Nat), j + k = l.length → L21_0 R (K21_0 R) (rows l) n (strRows ((l.take k).map text)) (k : Int) = some (.t (.str (text (.mk n l))), []) := by
  intro j
  induction j with
  | zero =>
    intro k hk
    have h1 : ¬ (k : Int) < (l.length : Int) := by omega
    rw [l21_0]
    simp only [rows_length]
    simp only [h1, decide_false, cond_false, x21_0_x0]
    rw [List.take_of_length_le (by omega : l.length ≤ k)]
    match l, h0 with
    | t :: l, _ =>
      have e := joinS_texts t l
      simp only [text, textB, List.length_append, List.length_cons, List.length_nil] at hlen
      have b1 : Nat.ble (n.length + ([91] : List UInt8).length) 9223372036854775807 = true := by rw [Nat.ble_eq]; simp; omega
      have b2 : Nat.ble (((t :: l).map text).length) 140737488355328 = true := by rw [Nat.ble_eq]; simp at hl ⊢; omega
      have b3 : Nat.ble (joinS [44, 32] ((t :: l).map text)).length 140737488355328 = true := by rw [Nat.ble_eq, e]; simp; omega
      have b4 : Nat.ble ((n ++ ([91] : List UInt8)).length + (joinS [44, 32] ((t :: l).map text)).length) 9223372036854775807 = true := by rw [Nat.ble_eq, e]; simp; omega
      have b5 : Nat.ble (((n ++ ([91] : List UInt8)) ++ joinS [44, 32] ((t :: l).map text)).length + ([93] : List UInt8).length) 9223372036854775807 = true := by rw [Nat.ble_eq, e]; simp; omega
      simp only [joinK, strsOf_rows, b1, b2, b3, b4, b5, cond_true]
      rw [e]
      simp [text, textB, List.append_assoc]
  | succ j ihj =>
    intro k hk
    obtain ⟨t, ht⟩ := at_of (l := l) (k := k) (by omega)
    have iht := ih t (List.mem_of_getElem? ht)
    have hta := take_of ht
    obtain ⟨n', a⟩ := t
    have h1 : (k : Int) < (l.length : Int) := by omega
    have h2 : (0 : Int) ≤ (k : Int) := by omega
    have hlim : lim 16 = 8796093022208 := by decide
    have b1 : Nat.ble ((strRows ((l.take k).map text)).length + 1) (lim 16) = true := by rw [Nat.ble_eq, hlim]; simp [strRows]; omega
    rw [l21_0]
    simp only [rows_length]
    rw [av_mk] at iht
    simp only [h1, h2, decide_true, cond_true, and_self, Int.toNat_natCast, nth_rows ht, nth, iht, Option.bind_some, AV.strK, AV.tK, T.strK, nilK, List.length_cons, List.length_nil, Nat.zero_add, b1]
    rw [wrap_succ (by omega)]
    have := ihj (k + 1) (by omega)
    rw [hta] at this
    simpa [strRows] using this
theorem R21 : ∀ t : Ty, t.Ok → (text t).length ≤ 100000000 → R 21 [t.av] [] = some (.t (.str (text t)), []) := by
  refine Ty.ind fun n l ih hok hlen => ?_
  have hl := hok.parts
  have parts := fun t (ht : t ∈ l) => ih t ht (hl.2 t ht) (Nat.le_trans (text_part (n := n) ht) hlen)
  unfold R at *
  rw [av_mk, call_unfold Try.func21, e21]
  simp only [rows_length]
  by_cases h : l = []
  · subst h
    simp [text, textB]
  · have h1 : ((l.length : Int) == 0) = false := by
      rw [beq_eq_false_iff_ne]
      have := List.length_pos_iff.2 h
      omega
    simp only [h1, cond_false]
    have := L21 (n := n) hl.1 h hlen (by unfold R; exact parts) l.length 0 (by omega)
    unfold R at this
    exact this
theorem same_eq : ∀ t u, same t u = true ↔ t = u := by
  refine Ty.ind fun n l ih u => ?_
  obtain ⟨n', m⟩ := u
  have hL : ∀ (l m : List Ty), (∀ t, t ∈ l → ∀ u, same t u = true ↔ t = u) → (sameL l m = true ↔ l = m) := by
    intro l
    induction l with
    | nil => intro m _; cases m <;> simp [sameL]
    | cons t l ihl =>
      intro m h
      cases m with
      | nil => simp [sameL]
      | cons u m =>
        simp only [sameL, Bool.and_eq_true, List.cons.injEq]
        rw [h t (by simp) u, ihl m fun t ht => h t (by simp [ht])]
  simp only [same, Bool.and_eq_true, beq_iff_eq, Ty.mk.injEq]
  rw [hL l m ih]
def ix : List Str → Str → Option Nat
  | [], _ => none
  | x :: l, s => cond (s == x) (some 0) ((ix l s).map (· + 1))
def ixI (l : List Str) (s : Str) : Int := match ix l s with
  | some k => k
  | none => -1
theorem ix_lt : ∀ {l : List Str} {s : Str} {k : Nat}, ix l s = some k → l[k]? = some s
  | x :: l, s, k, h => by
    simp only [ix] at h
    cases hb : (s == x) with
    | true =>
      rw [hb] at h
      injection h with h
      subst h
      rw [beq_iff_eq] at hb
      subst hb
      rfl
    | false =>
      rw [hb] at h
      cases hr : ix l s with
      | none => rw [hr] at h; cases h
      | some k' =>
        rw [hr] at h
        injection h with h
        subst h
        simpa using ix_lt hr
theorem ix_none : ∀ {l : List Str} {s : Str}, ix l s = none ↔ s ∉ l
  | [], s => by simp [ix]
  | x :: l, s => by
    simp only [ix, List.mem_cons, not_or]
    cases hb : (s == x) with
    | true =>
      rw [beq_iff_eq] at hb
      simp [hb]
    | false =>
      rw [beq_eq_false_iff_ne] at hb
      have := ix_none (l := l) (s := s)
      cases hr : ix l s with
      | none => simp [hb, this.1 hr]
      | some k' =>
        have : ¬ s ∉ l := fun h => by rw [this.2 h] at hr; cases hr
        simp [hb]
        exact Decidable.not_not.1 this
theorem ixI_ge (l : List Str) (s : Str) : decide ((0 : Int) ≤ ixI l s) = decide (s ∈ l) := by
  unfold ixI
  cases h : ix l s with
  | none => have := ix_none.1 h; simp [this]
  | some k =>
    have : s ∈ l := List.mem_of_getElem? (ix_lt h)
    simp [this]
theorem strRows_length (l : List Str) : (strRows l).length = l.length := by simp [strRows]
theorem nth_strRows {l : List Str} {k : Nat} {s : Str} (h : l[k]? = some s) : nth [] (strRows l) k = [.str s] := by rw [strRows, nth_map [] _ h]
theorem L51 {l : List Str} {s : Str} (hl : l.length ≤ 100000) : ∀ (j k : Nat), j + k = l.length → L51_0 R (K51_0 R) (strRows l) s (k : Int) = some (.t (.int .i64 (match ix (l.drop k) s with | some i => ((k + i : Nat) : Int) | none => -1)), []) := by
  intro j
  induction j with
  | zero =>
    intro k hk
    have h1 : ¬ (k : Int) < (l.length : Int) := by omega
    rw [l51_0]
    simp only [strRows_length]
    simp only [h1, decide_false, cond_false, x51_0_x1]
    rw [List.drop_eq_nil_of_le (by omega : l.length ≤ k)]
    rfl
  | succ j ihj =>
    intro k hk
    obtain ⟨x, hx⟩ := at_of (l := l) (k := k) (by omega)
    have h1 : (k : Int) < (l.length : Int) := by omega
    have h2 : (0 : Int) ≤ (k : Int) := by omega
    rw [l51_0]
    simp only [strRows_length]
    simp only [h1, h2, decide_true, cond_true, and_self, Int.toNat_natCast, nth_strRows hx, nth, T.strK]
    rw [drop_of hx]
    simp only [ix]
    cases hb : (s == x) with
    | true =>
      simp only [cond_true, x51_0_x0]
      rfl
    | false =>
      simp only [cond_false]
      rw [wrap_succ (by omega), ihj (k + 1) (by omega)]
      cases ix (l.drop (k + 1)) s with
      | none => rfl
      | some i => simp only [Option.map_some]; rw [show k + 1 + i = k + (i + 1) by omega]
theorem R51 {l : List Str} (hl : l.length ≤ 100000) (s : Str) : R 51 [.t (.sl 1 (strRows l)), .t (.str s)] [] = some (.t (.int .i64 (ixI l s)), []) := by
  have := L51 (s := s) hl l.length 0 (by omega)
  unfold R at *
  rw [call_unfold Try.func51, e51, show (0 : Int) = ((0 : Nat) : Int) from rfl, this]
  simp only [List.drop_zero, Nat.zero_add]
  rfl
theorem R44 {l : List Str} (hl : l.length ≤ 100000) (s : Str) : R 44 [.t (.sl 1 (strRows l)), .t (.str s)] [] = some (.t (.bool (decide (s ∈ l))), []) := by
  have := R51 hl s
  unfold R at *
  rw [call_unfold Try.func44, e44, this]
  simp only [Option.bind_some, AV.int1K, AV.intK, AV.tK, T.intK, IntKind.same, cond_true, nilK, ixI_ge]
/-- The place of the name that a type is. -/
def rp (t : Ty) (names : List Str) : Option Nat := match t.args with
  | [] => ix names t.name
  | _ :: _ => none
def rpI (t : Ty) (names : List Str) : Int := match rp t names with
  | some k => k
  | none => -1
theorem R45 (t : Ty) {l : List Str} (hl : l.length ≤ 100000) : R 45 [t.av, .t (.sl 1 (strRows l))] [] = some (.t (.int .i64 (rpI t l)), []) := by
  obtain ⟨n, a⟩ := t
  have := R51 hl n
  unfold R at *
  rw [av_mk, call_unfold Try.func45, e45, rows_length]
  cases a with
  | nil =>
    simp only [List.length_nil, show ¬ (0 : Int) < ((0 : Nat) : Int) by omega, decide_false, cond_false, this, Option.bind_some, AV.int1K, AV.intK, AV.tK, T.intK, IntKind.same, cond_true, nilK]
    rfl
  | cons x a =>
    have h : (0 : Int) < (((x :: a).length : Nat) : Int) := by simp
    simp only [h, decide_true, cond_true]
    rfl
/-- Whether a name stands twice. -/
def tw (seen : List Str) : List Str → Bool
  | [] => false
  | x :: l => cond (decide (x ∈ seen)) true (tw (seen ++ [x]) l)
theorem L31 {l : List Str} (hl : l.length ≤ 100000) : ∀ (j k : Nat), j + k = l.length → L31_0 R (K31_0 R) (strRows l) (k : Int) = some (.t (.bool (tw (l.take k) (l.drop k))), []) := by
  intro j
  induction j with
  | zero =>
    intro k hk
    have h1 : ¬ (k : Int) < (l.length : Int) := by omega
    rw [l31_0]
    simp only [strRows_length]
    simp only [h1, decide_false, cond_false, x31_0_x1]
    rw [List.drop_eq_nil_of_le (by omega : l.length ≤ k)]
    rfl
  | succ j ihj =>
    intro k hk
    obtain ⟨x, hx⟩ := at_of (l := l) (k := k) (by omega)
    have h1 : (k : Int) < (l.length : Int) := by omega
    have h2 : (0 : Int) ≤ (k : Int) := by omega
    have h3 : (k : Int) ≤ (l.length : Int) := by omega
    have h70 := R44 (l := l.take k) (by simp; omega) x
    have e : dropN 0 (takeN k (strRows l)) = strRows (l.take k) := by rw [takeN_take]; simp [strRows, dropN]
    rw [l31_0]
    simp only [strRows_length]
    simp only [h1, h2, h3, decide_true, cond_true, and_self, Int.toNat_natCast, nth_strRows hx, nth, e, h70, Option.bind_some, AV.boolK, AV.tK, T.boolK, nilK, Int.le_refl]
    rw [drop_of hx]
    simp only [tw]
    cases hb : decide (x ∈ l.take k) with
    | true => simp only [cond_true, x31_0_x0]
    | false =>
      simp only [cond_false]
      rw [wrap_succ (by omega), ihj (k + 1) (by omega), take_of hx]
theorem R31 {l : List Str} (hl : l.length ≤ 100000) : R 31 [.t (.sl 1 (strRows l))] [] = some (.t (.bool (tw [] l)), []) := by
  have := L31 hl l.length 0 (by omega)
  unfold R at *
  rw [call_unfold Try.func31, e31, show (0 : Int) = ((0 : Nat) : Int) from rfl, this]
  simp
theorem lim40 : lim 40 = 3518437208883 := by decide
theorem L46 {n : Str} {l : List Ty} (hl : l.length ≤ 1000) (ih : ∀ t, t ∈ l → R 46 [t.av] [] = some (t.av, [])) : ∀ (j k : Nat), j + k = l.length → L46_0 R (K46_0 R) (rows l) n (rows (l.take k)) (k : Int) = some ((Ty.mk n l).av, []) := by
  intro j
  induction j with
  | zero =>
    intro k hk
    have h1 : ¬ (k : Int) < (l.length : Int) := by omega
    rw [l46_0]
    simp only [rows_length]
    simp only [h1, decide_false, cond_false, x46_0_x0]
    rw [List.take_of_length_le (by omega : l.length ≤ k)]
    rfl
  | succ j ihj =>
    intro k hk
    obtain ⟨t, ht⟩ := at_of (l := l) (k := k) (by omega)
    have iht := ih t (List.mem_of_getElem? ht)
    have hta := take_of ht
    obtain ⟨n', a⟩ := t
    have h1 : (k : Int) < (l.length : Int) := by omega
    have h2 : (0 : Int) ≤ (k : Int) := by omega
    have b1 : Nat.ble ((l.take k).length + 1) (lim 40) = true := by rw [Nat.ble_eq, lim40]; simp; omega
    rw [l46_0]
    simp only [rows_length]
    rw [av_mk] at iht
    simp only [h1, h2, decide_true, cond_true, and_self, Int.toNat_natCast, nth_rows ht, nth, iht, Option.bind_some, AV.aggK, consK, AV.strK, AV.tK, T.strK, AV.sl1K, T.slK, Nat.beq, nilK, List.length_cons, List.length_nil, Nat.zero_add, b1]
    rw [wrap_succ (by omega)]
    have := ihj (k + 1) (by omega)
    rw [hta, rows_append, rows_one] at this
    exact this
theorem R46 : ∀ t : Ty, t.Ok → R 46 [t.av] [] = some (t.av, []) := by
  refine Ty.ind fun n l ih hok => ?_
  have hl := hok.parts
  have := L46 (n := n) hl.1 (fun t ht => ih t ht (hl.2 t ht)) l.length 0 (by omega)
  unfold R at *
  rw [av_mk, call_unfold Try.func46, e46]
  exact this
theorem rp_some {t : Ty} {names : List Str} {k : Nat} (h : rp t names = some k) : t.args = [] ∧ names[k]? = some t.name := by
  unfold rp at h
  split at h
  · rename_i h0; exact ⟨h0, ix_lt h⟩
  · cases h
theorem lim8 : lim 8 = 17592186044416 := by decide
mutual
def size : Ty → Nat
  | .mk _ l => 1 + sizeL l
def sizeL : List Ty → Nat
  | [] => 0
  | t :: l => size t + sizeL l
end
theorem size_pos : ∀ t, 1 ≤ size t
  | .mk _ l => by simp only [size]; omega
theorem size_mem : ∀ {l : List Ty} {t : Ty}, t ∈ l → size t ≤ sizeL l
  | u :: l, t, h => by
    simp only [sizeL]
    rcases List.mem_cons.1 h with rfl | h
    · omega
    · have := size_mem h; omega
theorem L32 {n : Str} {l : List Ty} (hl : l.length ≤ 1000) (hs : 1 + sizeL l ≤ 1000000000000) (ih : ∀ t, t ∈ l → R 32 [t.av] [] = some (.t (.int .i64 (size t)), [])) : ∀ (j k m : Nat), j + k = l.length → m + sizeL (l.drop k) = 1 + sizeL l →
    L32_0 R (K32_0 R) (rows l) (m : Int) (k : Int) = some (.t (.int .i64 ((1 + sizeL l : Nat) : Int)), []) := by
  intro j
  induction j with
  | zero =>
    intro k m hk hm
    have h1 : ¬ (k : Int) < (l.length : Int) := by omega
    rw [List.drop_eq_nil_of_le (by omega : l.length ≤ k)] at hm
    simp only [sizeL] at hm
    rw [l32_0]
    simp only [rows_length]
    simp only [h1, decide_false, cond_false, x32_0_x0]
    rw [← hm, Nat.add_zero]
  | succ j ihj =>
    intro k m hk hm
    obtain ⟨t, ht⟩ := at_of (l := l) (k := k) (by omega)
    have iht := ih t (List.mem_of_getElem? ht)
    rw [drop_of ht] at hm
    simp only [sizeL] at hm
    obtain ⟨n', a⟩ := t
    have h1 : (k : Int) < (l.length : Int) := by omega
    have h2 : (0 : Int) ≤ (k : Int) := by omega
    rw [l32_0]
    simp only [rows_length]
    rw [av_mk] at iht
    simp only [h1, h2, decide_true, cond_true, and_self, Int.toNat_natCast, nth_rows ht, nth, iht, Option.bind_some, AV.int1K, AV.intK, AV.tK, T.intK, IntKind.same, nilK]
    rw [wrap_succ (by omega), wrap_in (by omega), ← Int.natCast_add]
    exact ihj (k + 1) _ (by omega) (by omega)
theorem R32 : ∀ t : Ty, t.Ok → size t ≤ 1000000000000 → R 32 [t.av] [] = some (.t (.int .i64 (size t)), []) := by
  refine Ty.ind fun n l ih hok hs => ?_
  have hl := hok.parts
  simp only [size] at hs
  have := L32 (n := n) hl.1 hs (fun t ht => ih t ht (hl.2 t ht) (by have := size_mem ht; omega)) l.length 0 1 (by omega) (by simp)
  unfold R at *
  rw [av_mk, call_unfold Try.func32, e32]
  simp only [size]
  exact this
mutual
def pt (names : List Str) (by' : List Ty) : Ty → Ty
  | .mk n l => match (match l with | [] => ix names n | _ :: _ => none) with
    | some k => nth (.mk [] []) by' k
    | none => .mk n (ptL names by' l)
def ptL (names : List Str) (by' : List Ty) : List Ty → List Ty
  | [] => []
  | t :: l => pt names by' t :: ptL names by' l
end
theorem pt_mk (names : List Str) (by' : List Ty) (n : Str) (l : List Ty) : pt names by' (.mk n l) = match rp (.mk n l) names with
    | some k => nth (.mk [] []) by' k
    | none => .mk n (ptL names by' l) := by
  simp only [pt]; rfl
theorem ptL_map (names : List Str) (by' : List Ty) : ∀ l, ptL names by' l = l.map (pt names by')
  | [] => rfl
  | t :: l => by simp only [ptL, ptL_map names by' l, List.map_cons]
theorem pt_ok {names : List Str} {by' : List Ty} (hb : ∀ t, t ∈ by' → t.Ok) : ∀ t : Ty, t.Ok → (pt names by' t).Ok := by
  refine Ty.ind fun n l ih hok => ?_
  have hl := hok.parts
  rw [pt_mk]
  split
  · rename_i k hk
    rw [nth_get]
    cases hx : by'[k]? with
    | none => exact .mk [] [] (by simp) fun t ht => by simp at ht
    | some t => exact hb t (List.mem_of_getElem? hx)
  · rw [ptL_map]
    refine .mk n _ (by simpa using hl.1) fun t ht => ?_
    obtain ⟨u, hu, rfl⟩ := List.mem_map.1 ht
    exact ih u hu (hl.2 u hu)
def szRows (l : List Ty) : List (List T) := ints (l.map fun t => (size t : Int))
theorem nth_sz {l : List Ty} {k : Nat} {t : Ty} (h : l[k]? = some t) : nth [] (szRows l) k = [.int .i64 (size t)] := by
  rw [szRows]
  exact nth_ints (by rw [List.getElem?_map, h]; rfl)
theorem szRows_length (l : List Ty) : (szRows l).length = l.length := by simp [szRows, ints]
section
variable {names : List Str} {by' : List Ty} (hlen : names.length = by'.length) (hn : names.length ≤ 1000)
include hlen hn
/-- What is grown, up to the limit. -/
def Grows (names : List Str) (by' : List Ty) (t : Ty) : Prop := ∃ g : Int, (g ≤ 4096 → g = size (pt names by' t)) ∧ (4096 < g → 4096 < size (pt names by' t)) ∧ 0 ≤ g ∧ g ≤ size (pt names by' t) ∧
  R 33 [t.av, .t (.sl 1 (strRows names)), .t (.sl 1 (szRows by'))] [] = some (.t (.int .i64 g), [])
theorem L33 {n : Str} {l : List Ty} (hl : l.length ≤ 1000) (hs : 1 + sizeL (ptL names by' l) ≤ 1000000000000) (ih : ∀ t, t ∈ l → Grows names by' t) : ∀ (j k m : Nat), j + k = l.length → m + sizeL (ptL names by' (l.drop k)) = 1 + sizeL (ptL names by' l) → m ≤ 4096 →
    ∃ g : Int, (g ≤ 4096 → g = ((1 + sizeL (ptL names by' l) : Nat) : Int)) ∧ (4096 < g → 4096 < 1 + sizeL (ptL names by' l)) ∧ 0 ≤ g ∧ g ≤ ((1 + sizeL (ptL names by' l) : Nat) : Int) ∧
    L33_0 R (K33_0 R) (strRows names) (szRows by') (rows l) (m : Int) (k : Int) = some (.t (.int .i64 g), []) := by
  intro j
  induction j with
  | zero =>
    intro k m hk hm hle
    have h1 : ¬ (k : Int) < (l.length : Int) := by omega
    rw [List.drop_eq_nil_of_le (by omega : l.length ≤ k)] at hm
    simp only [ptL, sizeL] at hm
    refine ⟨(m : Int), by omega, by omega, by omega, by omega, ?_⟩
    rw [l33_0]
    simp only [rows_length]
    simp only [h1, decide_false, cond_false, x33_0_x1]
  | succ j ihj =>
    intro k m hk hm hle
    obtain ⟨t, ht⟩ := at_of (l := l) (k := k) (by omega)
    obtain ⟨g, g1, g2, g3, g4, g5⟩ := ih t (List.mem_of_getElem? ht)
    rw [drop_of ht] at hm
    simp only [ptL, sizeL] at hm
    have next := fun (m' : Nat) hm' hle' => ihj (k + 1) m' (by omega) hm' hle'
    have h1 : (k : Int) < (l.length : Int) := by omega
    have h2 : (0 : Int) ≤ (k : Int) := by omega
    have hw : IntKind.wrap .i64 ((m : Int) + g) = (m : Int) + g := wrap_in (by omega)
    by_cases hg : (4096 : Int) < (m : Int) + g
    · refine ⟨(m : Int) + g, by omega, by omega, by omega, by omega, ?_⟩
      obtain ⟨n', a⟩ := t
      rw [l33_0]
      simp only [rows_length]
      rw [av_mk] at g5
      simp only [h1, h2, decide_true, cond_true, and_self, Int.toNat_natCast, nth_rows ht, nth, g5, Option.bind_some, AV.int1K, AV.intK, AV.tK, T.intK, IntKind.same, nilK, hw, hg, x33_0_x0]
    · have e := g1 (by omega)
      obtain ⟨g', q1, q2, q3, q4, q5⟩ := next (m + size (pt names by' t)) (by omega) (by omega)
      refine ⟨g', q1, q2, q3, q4, ?_⟩
      obtain ⟨n', a⟩ := t
      rw [l33_0]
      simp only [rows_length]
      rw [av_mk] at g5
      simp only [h1, h2, decide_true, decide_false, cond_true, cond_false, and_self, Int.toNat_natCast, nth_rows ht, nth, g5, Option.bind_some, AV.int1K, AV.intK, AV.tK, T.intK, IntKind.same, nilK, hw, hg]
      rw [wrap_succ (by omega)]
      rw [Int.natCast_add, ← e] at q5
      exact q5
theorem R33 : ∀ t : Ty, t.Ok → size (pt names by' t) ≤ 1000000000000 → Grows names by' t := by
  refine Ty.ind fun n l ih hok hs => ?_
  have hl := hok.parts
  have h71 := R45 (.mk n l) (l := names) (by omega)
  unfold Grows
  rw [pt_mk] at hs ⊢
  cases hr : rp (.mk n l) names with
  | some k =>
    obtain ⟨_, hk⟩ := rp_some hr
    have hkf : k < by'.length := by
      have := (List.getElem?_eq_some_iff.1 hk).1
      omega
    obtain ⟨x, hx⟩ := at_of hkf
    have hnx : nth (.mk [] []) by' k = x := by rw [nth_get, hx]; rfl
    simp only [hnx]
    rw [hr] at hs
    simp only [hnx] at hs
    refine ⟨size x, fun _ => rfl, by omega, by omega, by omega, ?_⟩
    have h1 : (0 : Int) ≤ (k : Int) := by omega
    have h2 : (k : Int) < (by'.length : Int) := by omega
    unfold R at *
    rw [av_mk] at *
    rw [call_unfold Try.func33, e33, h71]
    simp only [rpI, hr, Option.bind_some, AV.int1K, AV.intK, AV.tK, T.intK, IntKind.same, cond_true, nilK, szRows_length, h1, h2, and_self, decide_true, Int.toNat_natCast, nth_sz hx, nth]
  | none =>
    rw [hr] at hs
    simp only [size] at hs
    obtain ⟨g, q1, q2, q3, q4, q5⟩ := L33 (n := n) hlen hn hl.1 hs (fun t ht => ih t ht (hl.2 t ht) (by
      have : pt names by' t ∈ ptL names by' l := by rw [ptL_map]; exact List.mem_map.2 ⟨t, ht, rfl⟩
      have := size_mem this
      omega)) l.length 0 1 (by omega) (by simp) (by omega)
    simp only [size]
    refine ⟨g, q1, q2, q3, q4, ?_⟩
    unfold R at *
    rw [av_mk] at *
    rw [call_unfold Try.func33, e33, h71]
    simp only [rpI, hr, Option.bind_some, AV.int1K, AV.intK, AV.tK, T.intK, IntKind.same, cond_true, nilK, show ¬ (0 : Int) ≤ -1 by omega, decide_false, cond_false]
    exact q5
theorem L34 {n : Str} {l : List Ty} (hl : l.length ≤ 1000) (ih : ∀ t, t ∈ l → R 34 [t.av, .t (.sl 1 (strRows names)), .t (.sl 2 (rows by'))] [] = some ((pt names by' t).av, [])) : ∀ (j k : Nat), j + k = l.length →
    L34_0 R (K34_0 R) (strRows names) (rows by') (rows l) n (rows (ptL names by' (l.take k))) (k : Int) = some ((Ty.mk n (ptL names by' l)).av, []) := by
  intro j
  induction j with
  | zero =>
    intro k hk
    have h1 : ¬ (k : Int) < (l.length : Int) := by omega
    rw [l34_0]
    simp only [rows_length]
    simp only [h1, decide_false, cond_false, x34_0_x0]
    rw [List.take_of_length_le (by omega : l.length ≤ k)]
    rfl
  | succ j ihj =>
    intro k hk
    obtain ⟨t, ht⟩ := at_of (l := l) (k := k) (by omega)
    have iht := ih t (List.mem_of_getElem? ht)
    have hta := take_of ht
    have next := ihj (k + 1) (by omega)
    rw [hta, ptL_map, List.map_append, List.map_cons, List.map_nil, rows_append] at next
    have h1 : (k : Int) < (l.length : Int) := by omega
    have h2 : (0 : Int) ≤ (k : Int) := by omega
    have b1 : Nat.ble ((ptL names by' (l.take k)).length + 1) (lim 40) = true := by rw [Nat.ble_eq, lim40, ptL_map]; simp; omega
    obtain ⟨n', a⟩ := t
    generalize pt names by' (.mk n' a) = u at iht next
    obtain ⟨nu, lu⟩ := u
    rw [l34_0]
    simp only [rows_length]
    rw [av_mk, av_mk] at iht
    simp only [h1, h2, decide_true, cond_true, and_self, Int.toNat_natCast, nth_rows ht, nth, iht, Option.bind_some, AV.aggK, consK, AV.strK, AV.tK, T.strK, AV.sl1K, T.slK, Nat.beq, nilK, List.length_cons, List.length_nil, Nat.zero_add, b1]
    rw [wrap_succ (by omega)]
    rw [rows_one, ← ptL_map] at next
    exact next
theorem R34 (hb : ∀ t, t ∈ by' → t.Ok) : ∀ t : Ty, t.Ok → R 34 [t.av, .t (.sl 1 (strRows names)), .t (.sl 2 (rows by'))] [] = some ((pt names by' t).av, []) := by
  refine Ty.ind fun n l ih hok => ?_
  have hl := hok.parts
  have h71 := R45 (.mk n l) (l := names) (by omega)
  rw [pt_mk]
  cases hr : rp (.mk n l) names with
  | some k =>
    obtain ⟨_, hk⟩ := rp_some hr
    have hkf : k < by'.length := by
      have := (List.getElem?_eq_some_iff.1 hk).1
      omega
    obtain ⟨x, hx⟩ := at_of hkf
    have hnx : nth (.mk [] []) by' k = x := by rw [nth_get, hx]; rfl
    simp only [hnx]
    have h55 := R46 x (hb x (List.mem_of_getElem? hx))
    have h1 : (0 : Int) ≤ (k : Int) := by omega
    have h2 : (k : Int) < (by'.length : Int) := by omega
    obtain ⟨nx, lx⟩ := x
    unfold R at *
    rw [av_mk] at *
    rw [call_unfold Try.func34, e34, h71]
    simp only [rpI, hr, Option.bind_some, AV.int1K, AV.intK, AV.tK, T.intK, IntKind.same, cond_true, nilK, rows_length, h1, h2, and_self, decide_true, Int.toNat_natCast, nth_rows hx, nth, h55, AV.aggK, consK, AV.strK, T.strK, AV.sl1K, T.slK, Nat.beq]
    rfl
  | none =>
    have q5 := L34 (n := n) hlen hn hl.1 (fun t ht => ih t ht (hl.2 t ht)) l.length 0 (by omega)
    unfold R at *
    rw [av_mk] at *
    rw [call_unfold Try.func34, e34, h71]
    simp only [rpI, hr, Option.bind_some, AV.int1K, AV.intK, AV.tK, T.intK, IntKind.same, cond_true, nilK, show ¬ (0 : Int) ≤ -1 by omega, decide_false, cond_false]
    exact q5
end
/-- What Substitute answers. -/
def sub (t : Ty) (names : List Str) (by' : List Ty) : Ty × Int :=
  if names.length ≠ by'.length then (.mk [] [], 9) else if tw [] names = true then (.mk [] [], 5) else if 4096 < size (pt names by' t) then (.mk [] [], 4) else (pt names by' t, 0)
theorem L24 {t : Ty} {names : List Str} {by' : List Ty} (hlen : names.length = by'.length) (hn : names.length ≤ 1000) (hb : ∀ t, t ∈ by' → t.Ok) (hbs : ∀ t, t ∈ by' → size t ≤ 1000000000000) (ht : t.Ok) (hs : size (pt names by' t) ≤ 1000000000000) (htw : tw [] names = false) :
    ∀ (j k : Nat), j + k = by'.length → L24_0 R (K24_0 R) (strRows names) (rows by') t.name (rows t.args) (szRows (by'.take k) ++ rep [(T.int .i64 (0 : Int))] j) (k : Int) = some (.tup [(sub t names by').1.av, .t (.int .i64 (sub t names by').2)], []) := by
  intro j
  induction j with
  | zero =>
    intro k hk
    have h1 : ¬ (k : Int) < (by'.length : Int) := by omega
    rw [l24_0]
    simp only [rows_length]
    simp only [h1, decide_false, cond_false, x24_0_x0]
    rw [List.take_of_length_le (by omega : by'.length ≤ k), show rep [(T.int .i64 (0 : Int))] 0 = [] from rfl, List.append_nil]
    obtain ⟨g, g1, g2, g3, g4, g5⟩ := R33 hlen hn t ht hs
    have h47 := R34 hlen hn hb t ht
    obtain ⟨n, l⟩ := t
    have hsub : sub (.mk n l) names by' = if 4096 < size (pt names by' (.mk n l)) then (.mk [] [], 4) else (pt names by' (.mk n l), 0) := by
      unfold sub
      rw [if_neg (by omega), if_neg (by rw [htw]; simp)]
    rw [hsub]
    rw [av_mk] at g5 h47
    show ((R 33 [.agg [.t (.str n), .t (.sl 2 (rows l))], _, _] []).bind _) = _
    rw [g5]
    simp only [Option.bind_some, AV.int1K, AV.intK, AV.tK, T.intK, IntKind.same, cond_true, nilK]
    by_cases hg : (4096 : Int) < g
    · simp only [hg, decide_true, cond_true]
      rw [if_pos (g2 hg)]
      rfl
    · have e := g1 (by omega)
      simp only [hg, decide_false, cond_false]
      rw [if_neg (by omega)]
      show ((R 34 [.agg [.t (.str n), .t (.sl 2 (rows l))], _, _] []).bind _) = _
      rw [h47]
      generalize pt names by' (.mk n l) = u
      obtain ⟨nu, lu⟩ := u
      rfl
  | succ j ihj =>
    intro k hk
    obtain ⟨u, hu⟩ := at_of (l := by') (k := k) (by omega)
    have h25 := R32 u (hb u (List.mem_of_getElem? hu)) (hbs u (List.mem_of_getElem? hu))
    have next := ihj (k + 1) (by omega)
    rw [take_of hu] at next
    have h1 : (k : Int) < (by'.length : Int) := by omega
    have h2 : (0 : Int) ≤ (k : Int) := by omega
    have hlk : (szRows (by'.take k)).length = k := by rw [szRows_length]; simp; omega
    have h3 : (k : Int) < ((szRows (by'.take k) ++ rep [(T.int .i64 (0 : Int))] (j + 1)).length : Int) := by rw [List.length_append, hlk, rep_replicate, List.length_replicate]; omega
    have e1 : nth [] (szRows (by'.take k) ++ rep [(T.int .i64 (0 : Int))] (j + 1)) k = [T.int .i64 0] := by
      rw [nth_get, List.getElem?_append_right (by omega), hlk, Nat.sub_self]
      rfl
    have e2 : setN (szRows (by'.take k) ++ rep [(T.int .i64 (0 : Int))] (j + 1)) k [T.int .i64 (size u)] = szRows (by'.take k ++ [u]) ++ rep [(T.int .i64 (0 : Int))] j := by
      rw [setN_set, List.set_append_right _ _ (by omega), hlk, Nat.sub_self]
      simp [szRows, ints, rep]
    obtain ⟨nu, lu⟩ := u
    rw [l24_0]
    simp only [rows_length]
    rw [av_mk] at h25
    simp only [h1, h2, h3, decide_true, cond_true, and_self, Int.toNat_natCast, nth_rows hu, nth, h25, Option.bind_some, AV.int1K, AV.intK, AV.tK, T.intK, IntKind.same, nilK, e1, setN, e2]
    rw [wrap_succ (by omega)]
    exact next
theorem R24 {t : Ty} {names : List Str} {by' : List Ty} (hn : names.length ≤ 1000) (hbl : by'.length ≤ 1000) (hb : ∀ t, t ∈ by' → t.Ok) (hbs : ∀ t, t ∈ by' → size t ≤ 1000000000000) (ht : t.Ok) (hs : size (pt names by' t) ≤ 1000000000000) :
    R 24 [t.av, .t (.sl 1 (strRows names)), .t (.sl 2 (rows by'))] [] = some (.tup [(sub t names by').1.av, .t (.int .i64 (sub t names by').2)], []) := by
  have h45 := R31 (l := names) (by omega)
  have main := L24 (t := t) (names := names) (by' := by')
  obtain ⟨n, l⟩ := t
  unfold R at *
  rw [av_mk, call_unfold Try.func24, e24]
  simp only [strRows_length, rows_length]
  by_cases hlen : names.length = by'.length
  · have h1 : ((names.length : Int) == (by'.length : Int)) = true := by rw [beq_iff_eq]; omega
    have c1 : (0 : Int) ≤ (by'.length : Int) := by omega
    have c2 : (by'.length : Int) ≤ ((lim 8 : Nat) : Int) := by rw [lim8]; omega
    simp only [h1, h45, Bool.not_true, cond_false, Option.bind_some, AV.boolK, AV.tK, T.boolK, nilK]
    cases htw : tw [] names with
    | true =>
      simp only [cond_true]
      have : sub (.mk n l) names by' = (.mk [] [], 5) := by
        unfold sub
        rw [if_neg (by omega), if_pos htw]
      rw [this]
      rfl
    | false =>
      simp only [cond_false, c1, c2, Int.le_refl, and_self, decide_true, cond_true, Int.toNat_natCast]
      exact main hlen hn hb hbs ht hs htw by'.length 0 (by omega)
  · have h1 : ((names.length : Int) == (by'.length : Int)) = false := by rw [beq_eq_false_iff_ne]; omega
    simp only [h1, Bool.not_false, cond_true]
    have : sub (.mk n l) names by' = (.mk [] [], 9) := by
      unfold sub
      rw [if_pos hlen]
    rw [this]
    rfl
def builtin (s : Str) : Bool := cond (s == [73, 110, 116]) true (cond (s == [66, 121, 116, 101]) true (cond (s == [66, 111, 111, 108]) true (s == [65, 114, 114, 97, 121])))
def isParam (s : Str) : Bool := cond (!builtin s) (!containsS s [46]) false
theorem R23 (s : Str) : R 23 [.t (.str s)] [] = some (.t (.bool (builtin s)), []) := by
  unfold R builtin
  rw [call_unfold Try.func23, e23]
  cases (s == [73, 110, 116]) <;> cases (s == [66, 121, 116, 101]) <;> cases (s == [66, 111, 111, 108]) <;> rfl
theorem R29 (s : Str) : R 29 [.t (.str s)] [] = some (.t (.bool (isParam s)), []) := by
  have h := R23 s
  unfold R isParam at *
  rw [call_unfold Try.func29, e29, h]
  simp only [Option.bind_some, AV.boolK, AV.tK, T.boolK, nilK]
  cases builtin s <;> rfl
mutual
def closed : Ty → Bool
  | .mk n l => cond (!isParam n) (closedL l) false
def closedL : List Ty → Bool
  | [] => true
  | t :: l => cond (closed t) (closedL l) false
end
theorem closedL_iff : ∀ {l : List Ty}, closedL l = true ↔ ∀ t, t ∈ l → closed t = true
  | [] => by simp [closedL]
  | t :: l => by
    have ih := closedL_iff (l := l)
    simp only [closedL, List.mem_cons, forall_eq_or_imp]
    cases h : closed t <;> simp [ih]
theorem R30 {t : Ty} (h : R 22 [t.av] [] = some (.t (.bool (closed t)), [])) : R 30 [t.av] [] = some (.t (.bool (!closed t)), []) := by
  obtain ⟨n, l⟩ := t
  unfold R at *
  rw [av_mk] at *
  rw [call_unfold Try.func30, e30, h]
  simp only [Option.bind_some, AV.boolK, AV.tK, T.boolK, nilK]
theorem L15 {l : List Ty} (hl : l.length ≤ 1000) (ih : ∀ t, t ∈ l → R 22 [t.av] [] = some (.t (.bool (closed t)), [])) : ∀ (j k : Nat), j + k = l.length →
    ∃ i : Int, decide ((0 : Int) ≤ i) = !closedL (l.drop k) ∧ L15_3_0 R (K15_3_0 R) (rows l) (k : Int) = some (.t (.int .i64 i), []) := by
  intro j
  induction j with
  | zero =>
    intro k hk
    have h1 : ¬ (k : Int) < (l.length : Int) := by omega
    refine ⟨-1, ?_, ?_⟩
    · rw [List.drop_eq_nil_of_le (by omega : l.length ≤ k)]; rfl
    · rw [l15_3_0]
      simp only [rows_length]
      simp only [h1, decide_false, cond_false, x15_3_0_x1]
  | succ j ihj =>
    intro k hk
    obtain ⟨t, ht⟩ := at_of (l := l) (k := k) (by omega)
    have h60 := R30 (ih t (List.mem_of_getElem? ht))
    have h1 : (k : Int) < (l.length : Int) := by omega
    have h2 : (0 : Int) ≤ (k : Int) := by omega
    rw [drop_of ht]
    simp only [closedL]
    cases hc : closed t with
    | false =>
      rw [hc] at h60
      obtain ⟨n, a⟩ := t
      rw [av_mk] at h60
      refine ⟨k, by simp, ?_⟩
      rw [l15_3_0]
      simp only [rows_length]
      simp only [h1, h2, decide_true, cond_true, and_self, Int.toNat_natCast, nth_rows ht, nth, h60, Option.bind_some, AV.boolK, AV.tK, T.boolK, nilK, Bool.not_false, x15_3_0_x0]
    | true =>
      rw [hc] at h60
      obtain ⟨i, q1, q2⟩ := ihj (k + 1) (by omega)
      obtain ⟨n, a⟩ := t
      rw [av_mk] at h60
      refine ⟨i, q1, ?_⟩
      rw [l15_3_0]
      simp only [rows_length]
      simp only [h1, h2, decide_true, cond_true, and_self, Int.toNat_natCast, nth_rows ht, nth, h60, Option.bind_some, AV.boolK, AV.tK, T.boolK, nilK, Bool.not_true, cond_false]
      rw [wrap_succ (by omega)]
      exact q2
theorem R22 : ∀ t : Ty, t.Ok → R 22 [t.av] [] = some (.t (.bool (closed t)), []) := by
  refine Ty.ind fun n l ih hok => ?_
  have hl := hok.parts
  have h58 := R29 n
  obtain ⟨i, q1, q2⟩ := L15 hl.1 (fun t ht => ih t ht (hl.2 t ht)) l.length 0 (by omega)
  unfold R at *
  rw [av_mk, call_unfold Try.func22, e22, h58]
  simp only [Option.bind_some, AV.boolK, AV.tK, T.boolK, nilK, closed]
  cases isParam n with
  | true => rfl
  | false =>
    simp only [Bool.not_false, cond_true]
    rw [call_unfold Try.func19, e19_2, call_unfold Try.func15, e15_3, show (0 : Int) = ((0 : Nat) : Int) from rfl, q2]
    simp only [Option.bind_some, AV.int1K, AV.intK, AV.tK, T.intK, IntKind.same, cond_true, nilK, AV.boolK, T.boolK]
    rw [List.drop_zero] at q1
    rw [show decide (((0 : Nat) : Int) ≤ i) = !closedL l from q1, Bool.not_not]
/-- In a type without parameters nothing is replaced. -/
theorem pt_closed {names : List Str} {by' : List Ty} (hn : ∀ n, n ∈ names → isParam n = true) : ∀ t : Ty, closed t = true → pt names by' t = t := by
  refine Ty.ind fun n l ih h => ?_
  simp only [closed] at h
  cases hp : isParam n with
  | true => rw [hp] at h; cases h
  | false =>
    rw [hp] at h
    simp only [Bool.not_false, cond_true] at h
    rw [pt_mk]
    have hr : rp (.mk n l) names = none := by
      cases hr : rp (.mk n l) names with
      | none => rfl
      | some k =>
        obtain ⟨_, h2⟩ := rp_some hr
        have := hn n (List.mem_of_getElem? h2)
        rw [hp] at this
        cases this
    rw [hr]
    simp only
    rw [ptL_map, List.map_congr_left (g := id) fun t ht => ih t ht (closedL_iff.1 h t ht), List.map_id]
theorem cut_spec : ∀ s : Str, ((46 : UInt8) ∉ s ∧ cutS s [46] = (s, [], false)) ∨ ∃ a b, s = a ++ 46 :: b ∧ (46 : UInt8) ∉ a ∧ cutS s [46] = (a, b, true)
  | [] => .inl ⟨by simp, rfl⟩
  | c :: s => by
    by_cases h : c = 46
    · subst h
      refine .inr ⟨[], s, rfl, by simp, ?_⟩
      simp [cutS, prefixB, dropN]
    · have hb : ((46 : UInt8) == c) = false := by rw [beq_eq_false_iff_ne]; exact Ne.symm h
      rcases cut_spec s with ⟨h1, h2⟩ | ⟨a, b, rfl, h2, h3⟩
      · refine .inl ⟨by simp only [List.mem_cons, not_or]; exact ⟨Ne.symm h, h1⟩, ?_⟩
        simp [cutS, prefixB, hb, h2]
      · refine .inr ⟨c :: a, b, rfl, by simp only [List.mem_cons, not_or]; exact ⟨Ne.symm h, h2⟩, ?_⟩
        simp [cutS, prefixB, hb, h3]
/-- The parts of a name, as both find them. -/
def splitS (s : Str) : Str × Str × Bool := cond (!(cutS s [46]).2.2) ([], [], false) (cond ((cutS s [46]).1 == []) ([], [], false) (cond ((cutS s [46]).2.1 == []) ([], [], false) (cond (containsS (cutS s [46]).2.1 [46]) ([], [], false) ((cutS s [46]).1, (cutS s [46]).2.1, true))))
def splitAV (p : Str × Str × Bool) : AV := .tup [.t (.str p.1), .t (.str p.2.1), .t (.bool p.2.2)]
theorem R35 {s : Str} (hs : s.length ≤ 9223372036854775807) : R 35 [.t (.str s)] [] = some (splitAV (splitS s), []) := by
  have b1 : Nat.ble (List.length s) 9223372036854775807 = true := by rw [Nat.ble_eq]; exact hs
  unfold R splitS
  rw [call_unfold Try.func35, e35]
  simp only [b1, cond_true]
  cases (cutS s [46]).2.2
  · rfl
  · cases ((cutS s [46]).1 == [])
    · cases ((cutS s [46]).2.1 == [])
      · cases (containsS (cutS s [46]).2.1 [46]) <;> rfl
      · rfl
    · rfl
end Go.AS.G4
