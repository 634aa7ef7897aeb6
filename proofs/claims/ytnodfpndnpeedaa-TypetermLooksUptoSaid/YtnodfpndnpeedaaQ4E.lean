/- AS, the seat of law 4: sizes, depths; replacing. -/
import Derived.Test.YtnodfpndnpeedaaQ4D
namespace Go.AS.Q4
open Go.Proofs
set_option linter.all false

/-! ### Sizes and depths -/
mutual
def size : Ty → Nat
  | .mk _ l => 1 + sizeL l
def sizeL : List Ty → Nat
  | [] => 0
  | t :: l => size t + sizeL l
end
mutual
def depth : Ty → Nat
  | .mk _ l => 1 + depthL l
def depthL : List Ty → Nat
  | [] => 0
  | t :: l => max (depth t) (depthL l)
end
theorem size_pos : ∀ t, 1 ≤ size t
  | .mk _ l => by simp only [size]; omega
theorem size_mem : ∀ {l : List Ty} {t : Ty}, t ∈ l → size t ≤ sizeL l
  | u :: l, t, h => by
    simp only [sizeL]
    rcases List.mem_cons.1 h with rfl | h
    · omega
    · have := size_mem h; omega
theorem depth_mem : ∀ {l : List Ty} {t : Ty}, t ∈ l → depth t ≤ depthL l
  | u :: l, t, h => by
    simp only [depthL]
    rcases List.mem_cons.1 h with rfl | h
    · omega
    · have := depth_mem h; omega
theorem depth_le : ∀ t, depth t ≤ size t := by
  refine Ty.ind fun n l ih => ?_
  simp only [size, depth]
  have hL : ∀ l : List Ty, (∀ t, t ∈ l → depth t ≤ size t) → depthL l ≤ sizeL l := by
    intro l
    induction l with
    | nil => intro _; simp [depthL, sizeL]
    | cons t l ihl =>
      intro h
      have h1 := h t (by simp)
      have h2 := ihl fun t ht => h t (by simp [ht])
      simp only [depthL, sizeL]
      omega
  have := hL l ih
  omega
theorem L25 {n : Str} {l : List Ty} (hl : l.length ≤ 1000) (hs : 1 + sizeL l ≤ 1000000000000) (ih : ∀ t, t ∈ l → R 25 [t.av] [] = some (.t (.int .i64 (size t)), [])) : ∀ (j k m : Nat), j + k = l.length → m + sizeL (l.drop k) = 1 + sizeL l →
    L25_0 R (K25_0 R) (rows l) n (m : Int) (k : Int) = some (.t (.int .i64 ((1 + sizeL l : Nat) : Int)), []) := by
  intro j
  induction j with
  | zero =>
    intro k m hk hm
    have h1 : ¬ (k : Int) < (l.length : Int) := by omega
    rw [List.drop_eq_nil_of_le (by omega : l.length ≤ k)] at hm
    simp only [sizeL] at hm
    rw [l25_0]
    simp only [rows_length]
    simp only [h1, decide_false, cond_false, x25_0_x0]
    rw [← hm, Nat.add_zero]
  | succ j ihj =>
    intro k m hk hm
    obtain ⟨t, ht⟩ := at_of (l := l) (k := k) (by omega)
    have iht := ih t (List.mem_of_getElem? ht)
    rw [drop_of ht] at hm
    simp only [sizeL] at hm
    obtain ⟨n', a⟩ := t
    have h1 : (k : Int) < (l.length : Int) := by omega
    have h2 : (0 : Int) ≤ (k : Int) := by omega
    rw [l25_0]
    simp only [rows_length]
    rw [av_mk] at iht
    simp only [h1, h2, decide_true, cond_true, and_self, Int.toNat_natCast, nth_rows ht, nth, iht, Option.bind_some, AV.int1K, AV.intK, AV.tK, T.intK, IntKind.same, nilK]
    rw [wrap_succ (by omega), wrap_in (by omega), ← Int.natCast_add]
    exact ihj (k + 1) _ (by omega) (by omega)
theorem R25 : ∀ t : Ty, t.Ok → size t ≤ 1000000000000 → R 25 [t.av] [] = some (.t (.int .i64 (size t)), []) := by
  refine Ty.ind fun n l ih hok hs => ?_
  have hl := hok.parts
  simp only [size] at hs
  have := L25 (n := n) hl.1 hs (fun t ht => ih t ht (hl.2 t ht) (by have := size_mem ht; omega)) l.length 0 1 (by omega) (by simp)
  unfold R at *
  rw [av_mk, call_unfold Try.func25, e25]
  simp only [size]
  exact this
theorem L24 {n : Str} {l : List Ty} (hl : l.length ≤ 1000) (hs : depthL l ≤ 1000000000000) (ih : ∀ t, t ∈ l → R 24 [t.av] [] = some (.t (.int .i64 (depth t)), [])) : ∀ (j k m : Nat), j + k = l.length → max m (depthL (l.drop k)) = depthL l →
    L24_0 R (K24_0 R) (rows l) n (m : Int) (k : Int) = some (.t (.int .i64 ((1 + depthL l : Nat) : Int)), []) := by
  intro j
  induction j with
  | zero =>
    intro k m hk hm
    have h1 : ¬ (k : Int) < (l.length : Int) := by omega
    rw [List.drop_eq_nil_of_le (by omega : l.length ≤ k)] at hm
    simp only [depthL] at hm
    rw [l24_0]
    simp only [rows_length]
    simp only [h1, decide_false, cond_false, x24_0_x0]
    rw [wrap_in (by omega)]
    congr 5
    omega
  | succ j ihj =>
    intro k m hk hm
    obtain ⟨t, ht⟩ := at_of (l := l) (k := k) (by omega)
    have iht := ih t (List.mem_of_getElem? ht)
    rw [drop_of ht] at hm
    simp only [depthL] at hm
    obtain ⟨n', a⟩ := t
    have h1 : (k : Int) < (l.length : Int) := by omega
    have h2 : (0 : Int) ≤ (k : Int) := by omega
    rw [l24_0]
    simp only [rows_length]
    rw [av_mk] at iht
    simp only [h1, h2, decide_true, cond_true, and_self, Int.toNat_natCast, nth_rows ht, nth, iht, Option.bind_some, AV.int1K, AV.intK, AV.tK, T.intK, IntKind.same, nilK]
    have e : (bif decide ((m : Int) < (depth (.mk n' a) : Int)) then (depth (.mk n' a) : Int) else (m : Int)) = ((max m (depth (.mk n' a)) : Nat) : Int) := by
      by_cases h : m < depth (.mk n' a)
      · have : (m : Int) < (depth (.mk n' a) : Int) := by omega
        simp only [this, decide_true, cond_true]
        omega
      · have : ¬ (m : Int) < (depth (.mk n' a) : Int) := by omega
        simp only [this, decide_false, cond_false]
        omega
    rw [wrap_succ (by omega), e]
    exact ihj (k + 1) _ (by omega) (by omega)
theorem R24 : ∀ t : Ty, t.Ok → depth t ≤ 1000000000000 → R 24 [t.av] [] = some (.t (.int .i64 (depth t)), []) := by
  refine Ty.ind fun n l ih hok hs => ?_
  have hl := hok.parts
  simp only [depth] at hs
  have := L24 (n := n) hl.1 (by omega) (fun t ht => ih t ht (hl.2 t ht) (by have := depth_mem ht; omega)) l.length 0 0 (by omega) (by simp)
  unfold R at *
  rw [av_mk, call_unfold Try.func24, e24]
  simp only [depth]
  exact this

/-! ### Replacing -/
mutual
def pt (names : List Str) (by' : List Ty) : Ty → Ty
  | .mk n l => match (match l with | [] => ix names n | _ :: _ => none) with
    | some k => nth (.mk [] []) by' k
    | none => .mk n (ptL names by' l)
def ptL (names : List Str) (by' : List Ty) : List Ty → List Ty
  | [] => []
  | t :: l => pt names by' t :: ptL names by' l
end
theorem pt_mk (names : List Str) (by' : List Ty) (n : Str) (l : List Ty) : pt names by' (.mk n l) = match rp (.mk n l) names with
    | some k => nth (.mk [] []) by' k
    | none => .mk n (ptL names by' l) := by
  simp only [pt]; rfl
theorem ptL_map (names : List Str) (by' : List Ty) : ∀ l, ptL names by' l = l.map (pt names by')
  | [] => rfl
  | t :: l => by simp only [ptL, ptL_map names by' l, List.map_cons]
theorem sizeL_sum : ∀ l : List Ty, sizeL l = (l.map size).sum
  | [] => rfl
  | t :: l => by simp only [sizeL, sizeL_sum l, List.map_cons, List.sum_cons]
theorem pt_ok {names : List Str} {by' : List Ty} (hb : ∀ t, t ∈ by' → t.Ok) : ∀ t : Ty, t.Ok → (pt names by' t).Ok := by
  refine Ty.ind fun n l ih hok => ?_
  have hl := hok.parts
  rw [pt_mk]
  split
  · rename_i k hk
    rw [nth_get]
    cases hx : by'[k]? with
    | none => exact .mk [] [] (by simp) fun t ht => by simp at ht
    | some t => exact hb t (List.mem_of_getElem? hx)
  · rw [ptL_map]
    refine .mk n _ (by simpa using hl.1) fun t ht => ?_
    obtain ⟨u, hu, rfl⟩ := List.mem_map.1 ht
    exact ih u hu (hl.2 u hu)
def szRows (l : List Ty) : List (List T) := ints (l.map fun t => (size t : Int))
theorem nth_sz {l : List Ty} {k : Nat} {t : Ty} (h : l[k]? = some t) : nth [] (szRows l) k = [.int .i64 (size t)] := by
  rw [szRows]
  exact nth_ints (by rw [List.getElem?_map, h]; rfl)
theorem szRows_length (l : List Ty) : (szRows l).length = l.length := by simp [szRows, ints]
section
variable {names : List Str} {by' : List Ty} (hlen : names.length = by'.length) (hn : names.length ≤ 1000)
include hlen hn
/-- What is grown, up to the limit. -/
def Grows (names : List Str) (by' : List Ty) (t : Ty) : Prop := ∃ g : Int, (g ≤ 4096 → g = size (pt names by' t)) ∧ (4096 < g → 4096 < size (pt names by' t)) ∧ 0 ≤ g ∧ g ≤ size (pt names by' t) ∧
  R 46 [t.av, .t (.sl 1 (strRows names)), .t (.sl 1 (szRows by'))] [] = some (.t (.int .i64 g), [])
theorem L46 {n : Str} {l : List Ty} (hl : l.length ≤ 1000) (hs : 1 + sizeL (ptL names by' l) ≤ 1000000000000) (ih : ∀ t, t ∈ l → Grows names by' t) : ∀ (j k m : Nat), j + k = l.length → m + sizeL (ptL names by' (l.drop k)) = 1 + sizeL (ptL names by' l) → m ≤ 4096 →
    ∃ g : Int, (g ≤ 4096 → g = ((1 + sizeL (ptL names by' l) : Nat) : Int)) ∧ (4096 < g → 4096 < 1 + sizeL (ptL names by' l)) ∧ 0 ≤ g ∧ g ≤ ((1 + sizeL (ptL names by' l) : Nat) : Int) ∧
    L46_0 R (K46_0 R) (strRows names) (szRows by') (rows l) n (m : Int) (k : Int) = some (.t (.int .i64 g), []) := by
  intro j
  induction j with
  | zero =>
    intro k m hk hm hle
    have h1 : ¬ (k : Int) < (l.length : Int) := by omega
    rw [List.drop_eq_nil_of_le (by omega : l.length ≤ k)] at hm
    simp only [ptL, sizeL] at hm
    refine ⟨(m : Int), by omega, by omega, by omega, by omega, ?_⟩
    rw [l46_0]
    simp only [rows_length]
    simp only [h1, decide_false, cond_false, x46_0_x1]
  | succ j ihj =>
    intro k m hk hm hle
    obtain ⟨t, ht⟩ := at_of (l := l) (k := k) (by omega)
    obtain ⟨g, g1, g2, g3, g4, g5⟩ := ih t (List.mem_of_getElem? ht)
    rw [drop_of ht] at hm
    simp only [ptL, sizeL] at hm
    have next := fun (m' : Nat) hm' hle' => ihj (k + 1) m' (by omega) hm' hle'
    have h1 : (k : Int) < (l.length : Int) := by omega
    have h2 : (0 : Int) ≤ (k : Int) := by omega
    have hw : IntKind.wrap .i64 ((m : Int) + g) = (m : Int) + g := wrap_in (by omega)
    by_cases hg : (4096 : Int) < (m : Int) + g
    · refine ⟨(m : Int) + g, by omega, by omega, by omega, by omega, ?_⟩
      obtain ⟨n', a⟩ := t
      rw [l46_0]
      simp only [rows_length]
      rw [av_mk] at g5
      simp only [h1, h2, decide_true, cond_true, and_self, Int.toNat_natCast, nth_rows ht, nth, g5, Option.bind_some, AV.int1K, AV.intK, AV.tK, T.intK, IntKind.same, nilK, hw, hg, x46_0_x0]
    · have e := g1 (by omega)
      obtain ⟨g', q1, q2, q3, q4, q5⟩ := next (m + size (pt names by' t)) (by omega) (by omega)
      refine ⟨g', q1, q2, q3, q4, ?_⟩
      obtain ⟨n', a⟩ := t
      rw [l46_0]
      simp only [rows_length]
      rw [av_mk] at g5
      simp only [h1, h2, decide_true, decide_false, cond_true, cond_false, and_self, Int.toNat_natCast, nth_rows ht, nth, g5, Option.bind_some, AV.int1K, AV.intK, AV.tK, T.intK, IntKind.same, nilK, hw, hg]
      rw [wrap_succ (by omega)]
      rw [Int.natCast_add, ← e] at q5
      exact q5
theorem R46 : ∀ t : Ty, t.Ok → size (pt names by' t) ≤ 1000000000000 → Grows names by' t := by
  refine Ty.ind fun n l ih hok hs => ?_
  have hl := hok.parts
  have h71 := R71 (.mk n l) (l := names) (by omega)
  unfold Grows
  rw [pt_mk] at hs ⊢
  cases hr : rp (.mk n l) names with
  | some k =>
    obtain ⟨_, hk⟩ := rp_some hr
    have hkf : k < by'.length := by
      have := (List.getElem?_eq_some_iff.1 hk).1
      omega
    obtain ⟨x, hx⟩ := at_of hkf
    have hnx : nth (.mk [] []) by' k = x := by rw [nth_get, hx]; rfl
    simp only [hnx]
    rw [hr] at hs
    simp only [hnx] at hs
    refine ⟨size x, fun _ => rfl, by omega, by omega, by omega, ?_⟩
    have h1 : (0 : Int) ≤ (k : Int) := by omega
    have h2 : (k : Int) < (by'.length : Int) := by omega
    unfold R at *
    rw [av_mk] at *
    rw [call_unfold Try.func46, e46, h71]
    simp only [rpI, hr, Option.bind_some, AV.int1K, AV.intK, AV.tK, T.intK, IntKind.same, cond_true, nilK, szRows_length, h1, h2, and_self, decide_true, Int.toNat_natCast, nth_sz hx, nth]
  | none =>
    rw [hr] at hs
    simp only [size] at hs
    obtain ⟨g, q1, q2, q3, q4, q5⟩ := L46 (n := n) hlen hn hl.1 hs (fun t ht => ih t ht (hl.2 t ht) (by
      have : pt names by' t ∈ ptL names by' l := by rw [ptL_map]; exact List.mem_map.2 ⟨t, ht, rfl⟩
      have := size_mem this
      omega)) l.length 0 1 (by omega) (by simp) (by omega)
    simp only [size]
    refine ⟨g, q1, q2, q3, q4, ?_⟩
    unfold R at *
    rw [av_mk] at *
    rw [call_unfold Try.func46, e46, h71]
    simp only [rpI, hr, Option.bind_some, AV.int1K, AV.intK, AV.tK, T.intK, IntKind.same, cond_true, nilK, show ¬ (0 : Int) ≤ -1 by omega, decide_false, cond_false]
    exact q5
theorem L47 {n : Str} {l : List Ty} (hl : l.length ≤ 1000) (ih : ∀ t, t ∈ l → R 47 [t.av, .t (.sl 1 (strRows names)), .t (.sl 2 (rows by'))] [] = some ((pt names by' t).av, [])) : ∀ (j k : Nat), j + k = l.length →
    L47_0 R (K47_0 R) (strRows names) (rows by') (rows l) n (rows (ptL names by' (l.take k))) (k : Int) = some ((Ty.mk n (ptL names by' l)).av, []) := by
  intro j
  induction j with
  | zero =>
    intro k hk
    have h1 : ¬ (k : Int) < (l.length : Int) := by omega
    rw [l47_0]
    simp only [rows_length]
    simp only [h1, decide_false, cond_false, x47_0_x0]
    rw [List.take_of_length_le (by omega : l.length ≤ k)]
    rfl
  | succ j ihj =>
    intro k hk
    obtain ⟨t, ht⟩ := at_of (l := l) (k := k) (by omega)
    have iht := ih t (List.mem_of_getElem? ht)
    have hta := take_of ht
    have next := ihj (k + 1) (by omega)
    rw [hta, ptL_map, List.map_append, List.map_cons, List.map_nil, rows_append] at next
    have h1 : (k : Int) < (l.length : Int) := by omega
    have h2 : (0 : Int) ≤ (k : Int) := by omega
    have b1 : Nat.ble ((ptL names by' (l.take k)).length + 1) (lim 40) = true := by rw [Nat.ble_eq, lim40, ptL_map]; simp; omega
    obtain ⟨n', a⟩ := t
    generalize pt names by' (.mk n' a) = u at iht next
    obtain ⟨nu, lu⟩ := u
    rw [l47_0]
    simp only [rows_length]
    rw [av_mk, av_mk] at iht
    simp only [h1, h2, decide_true, cond_true, and_self, Int.toNat_natCast, nth_rows ht, nth, iht, Option.bind_some, AV.aggK, consK, AV.strK, AV.tK, T.strK, AV.sl1K, T.slK, Nat.beq, nilK, List.length_cons, List.length_nil, Nat.zero_add, b1]
    rw [wrap_succ (by omega)]
    rw [rows_one, ← ptL_map] at next
    exact next
theorem R47 (hb : ∀ t, t ∈ by' → t.Ok) : ∀ t : Ty, t.Ok → R 47 [t.av, .t (.sl 1 (strRows names)), .t (.sl 2 (rows by'))] [] = some ((pt names by' t).av, []) := by
  refine Ty.ind fun n l ih hok => ?_
  have hl := hok.parts
  have h71 := R71 (.mk n l) (l := names) (by omega)
  rw [pt_mk]
  cases hr : rp (.mk n l) names with
  | some k =>
    obtain ⟨_, hk⟩ := rp_some hr
    have hkf : k < by'.length := by
      have := (List.getElem?_eq_some_iff.1 hk).1
      omega
    obtain ⟨x, hx⟩ := at_of hkf
    have hnx : nth (.mk [] []) by' k = x := by rw [nth_get, hx]; rfl
    simp only [hnx]
    have h55 := R55 x (hb x (List.mem_of_getElem? hx))
    have h1 : (0 : Int) ≤ (k : Int) := by omega
    have h2 : (k : Int) < (by'.length : Int) := by omega
    obtain ⟨nx, lx⟩ := x
    unfold R at *
    rw [av_mk] at *
    rw [call_unfold Try.func47, e47, h71]
    simp only [rpI, hr, Option.bind_some, AV.int1K, AV.intK, AV.tK, T.intK, IntKind.same, cond_true, nilK, rows_length, h1, h2, and_self, decide_true, Int.toNat_natCast, nth_rows hx, nth, h55, AV.aggK, consK, AV.strK, T.strK, AV.sl1K, T.slK, Nat.beq]
    rfl
  | none =>
    have q5 := L47 (n := n) hlen hn hl.1 (fun t ht => ih t ht (hl.2 t ht)) l.length 0 (by omega)
    unfold R at *
    rw [av_mk] at *
    rw [call_unfold Try.func47, e47, h71]
    simp only [rpI, hr, Option.bind_some, AV.int1K, AV.intK, AV.tK, T.intK, IntKind.same, cond_true, nilK, show ¬ (0 : Int) ≤ -1 by omega, decide_false, cond_false]
    exact q5
end
/-- What Substitute answers. -/
def sub (t : Ty) (names : List Str) (by' : List Ty) : Ty × Int :=
  if names.length ≠ by'.length then (.mk [] [], 9) else if tw [] names = true then (.mk [] [], 5) else if 4096 < size (pt names by' t) then (.mk [] [], 4) else (pt names by' t, 0)
theorem L18 {t : Ty} {names : List Str} {by' : List Ty} (hlen : names.length = by'.length) (hn : names.length ≤ 1000) (hb : ∀ t, t ∈ by' → t.Ok) (hbs : ∀ t, t ∈ by' → size t ≤ 1000000000000) (ht : t.Ok) (hs : size (pt names by' t) ≤ 1000000000000) (htw : tw [] names = false) :
    ∀ (j k : Nat), j + k = by'.length → L18_0 R (K18_0 R) (strRows names) (rows by') t.name (rows t.args) (szRows (by'.take k) ++ rep [(T.int .i64 (0 : Int))] j) (k : Int) = some (.tup [(sub t names by').1.av, .t (.int .i64 (sub t names by').2)], []) := by
  intro j
  induction j with
  | zero =>
    intro k hk
    have h1 : ¬ (k : Int) < (by'.length : Int) := by omega
    rw [l18_0]
    simp only [rows_length]
    simp only [h1, decide_false, cond_false, x18_0_x0]
    rw [List.take_of_length_le (by omega : by'.length ≤ k), show rep [(T.int .i64 (0 : Int))] 0 = [] from rfl, List.append_nil]
    obtain ⟨g, g1, g2, g3, g4, g5⟩ := R46 hlen hn t ht hs
    have h47 := R47 hlen hn hb t ht
    obtain ⟨n, l⟩ := t
    have hsub : sub (.mk n l) names by' = if 4096 < size (pt names by' (.mk n l)) then (.mk [] [], 4) else (pt names by' (.mk n l), 0) := by
      unfold sub
      rw [if_neg (by omega), if_neg (by rw [htw]; simp)]
    rw [hsub]
    rw [av_mk] at g5 h47
    show ((R 46 [.agg [.t (.str n), .t (.sl 2 (rows l))], _, _] []).bind _) = _
    rw [g5]
    simp only [Option.bind_some, AV.int1K, AV.intK, AV.tK, T.intK, IntKind.same, cond_true, nilK]
    by_cases hg : (4096 : Int) < g
    · simp only [hg, decide_true, cond_true]
      rw [if_pos (g2 hg)]
      rfl
    · have e := g1 (by omega)
      simp only [hg, decide_false, cond_false]
      rw [if_neg (by omega)]
      show ((R 47 [.agg [.t (.str n), .t (.sl 2 (rows l))], _, _] []).bind _) = _
      rw [h47]
      generalize pt names by' (.mk n l) = u
      obtain ⟨nu, lu⟩ := u
      rfl
  | succ j ihj =>
    intro k hk
    obtain ⟨u, hu⟩ := at_of (l := by') (k := k) (by omega)
    have h25 := R25 u (hb u (List.mem_of_getElem? hu)) (hbs u (List.mem_of_getElem? hu))
    have next := ihj (k + 1) (by omega)
    rw [take_of hu] at next
    have h1 : (k : Int) < (by'.length : Int) := by omega
    have h2 : (0 : Int) ≤ (k : Int) := by omega
    have hlk : (szRows (by'.take k)).length = k := by rw [szRows_length]; simp; omega
    have h3 : (k : Int) < ((szRows (by'.take k) ++ rep [(T.int .i64 (0 : Int))] (j + 1)).length : Int) := by rw [List.length_append, hlk, rep_replicate, List.length_replicate]; omega
    have e1 : nth [] (szRows (by'.take k) ++ rep [(T.int .i64 (0 : Int))] (j + 1)) k = [T.int .i64 0] := by
      rw [nth_get, List.getElem?_append_right (by omega), hlk, Nat.sub_self]
      rfl
    have e2 : setN (szRows (by'.take k) ++ rep [(T.int .i64 (0 : Int))] (j + 1)) k [T.int .i64 (size u)] = szRows (by'.take k ++ [u]) ++ rep [(T.int .i64 (0 : Int))] j := by
      rw [setN_set, List.set_append_right _ _ (by omega), hlk, Nat.sub_self]
      simp [szRows, ints, rep]
    obtain ⟨nu, lu⟩ := u
    rw [l18_0]
    simp only [rows_length]
    rw [av_mk] at h25
    simp only [h1, h2, h3, decide_true, cond_true, and_self, Int.toNat_natCast, nth_rows hu, nth, h25, Option.bind_some, AV.int1K, AV.intK, AV.tK, T.intK, IntKind.same, nilK, e1, setN, e2]
    rw [wrap_succ (by omega)]
    exact next
theorem R18 {t : Ty} {names : List Str} {by' : List Ty} (hn : names.length ≤ 1000) (hbl : by'.length ≤ 1000) (hb : ∀ t, t ∈ by' → t.Ok) (hbs : ∀ t, t ∈ by' → size t ≤ 1000000000000) (ht : t.Ok) (hs : size (pt names by' t) ≤ 1000000000000) :
    R 18 [t.av, .t (.sl 1 (strRows names)), .t (.sl 2 (rows by'))] [] = some (.tup [(sub t names by').1.av, .t (.int .i64 (sub t names by').2)], []) := by
  have h45 := R45 (l := names) (by omega)
  have main := L18 (t := t) (names := names) (by' := by')
  obtain ⟨n, l⟩ := t
  unfold R at *
  rw [av_mk, call_unfold Try.func18, e18]
  simp only [strRows_length, rows_length]
  by_cases hlen : names.length = by'.length
  · have h1 : ((names.length : Int) == (by'.length : Int)) = true := by rw [beq_iff_eq]; omega
    have c1 : (0 : Int) ≤ (by'.length : Int) := by omega
    have c2 : (by'.length : Int) ≤ ((lim 8 : Nat) : Int) := by rw [lim8]; omega
    simp only [h1, h45, Bool.not_true, cond_false, Option.bind_some, AV.boolK, AV.tK, T.boolK, nilK]
    cases htw : tw [] names with
    | true =>
      simp only [cond_true]
      have : sub (.mk n l) names by' = (.mk [] [], 5) := by
        unfold sub
        rw [if_neg (by omega), if_pos htw]
      rw [this]
      rfl
    | false =>
      simp only [cond_false, c1, c2, Int.le_refl, and_self, decide_true, cond_true, Int.toNat_natCast]
      exact main hlen hn hb hbs ht hs htw by'.length 0 (by omega)
  · have h1 : ((names.length : Int) == (by'.length : Int)) = false := by rw [beq_eq_false_iff_ne]; omega
    simp only [h1, Bool.not_false, cond_true]
    have : sub (.mk n l) names by' = (.mk [] [], 9) := by
      unfold sub
      rw [if_pos hlen]
    rw [this]
    rfl
end Go.AS.Q4
