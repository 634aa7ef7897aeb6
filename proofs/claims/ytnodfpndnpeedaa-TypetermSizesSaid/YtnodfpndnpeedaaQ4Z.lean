/- AS, the seat of law 4: the law of the sizes. -/
import Derived.Test.YtnodfpndnpeedaaQ4E
import Derived.Test.YtnodfpndnpeedaaQ4L5
namespace Go.AS.Q4
open Go.Proofs
set_option linter.all false

def tT : Ty := .mk [84] []
/-- The type whose every place has so many arguments, so deep. -/
def full (w : Nat) : Nat → Ty
  | 0 => tT
  | i + 1 => .mk [109, 46, 80] (List.replicate w (full w i))
theorem sizeL_rep (t : Ty) : ∀ w, sizeL (List.replicate w t) = w * size t
  | 0 => by simp [sizeL]
  | w + 1 => by rw [List.replicate_succ, sizeL, sizeL_rep t w, Nat.succ_mul]; omega
theorem size_full (w : Nat) : ∀ i, size (full w (i + 1)) = size (full w i) + w ^ (i + 1)
  | 0 => by simp [full, size, sizeL_rep, tT, sizeL]
  | i + 1 => by
    have ih := size_full w i
    have h : ∀ i, size (full w (i + 1)) = 1 + w * size (full w i) := fun i => by simp [full, size, sizeL_rep]
    have h1 := h i
    rw [ih] at h1
    rw [h (i + 1), ih, Nat.mul_add, Nat.pow_succ w (i + 1), Nat.mul_comm (w ^ (i + 1)) w]
    omega
theorem depth_full {w : Nat} (hw : 1 ≤ w) : ∀ i, depth (full w i) = i + 1
  | 0 => by simp [full, tT, depth, depthL]
  | i + 1 => by
    have h : ∀ w t, 1 ≤ w → depthL (List.replicate w t) = depth t := by
      intro w t hw
      induction w with
      | zero => omega
      | succ w ih =>
        rw [List.replicate_succ, depthL]
        cases w with
        | zero => simp [depthL]
        | succ w => rw [ih (by omega)]; omega
    rw [full, depth, h w _ hw, depth_full hw i]
    omega
theorem full_ok {w : Nat} (hw : w ≤ 1000) : ∀ i, (full w i).Ok
  | 0 => .mk _ _ (by simp) fun t ht => by simp at ht
  | i + 1 => .mk _ _ (by simpa using hw) fun t ht => by rw [List.eq_of_mem_replicate ht]; exact full_ok hw i
theorem pt_full {w : Nat} (hw : 1 ≤ w) : ∀ i, pt [[84]] [full w 1] (full w i) = full w (i + 1)
  | 0 => rfl
  | i + 1 => by
    show pt [[84]] [full w 1] (.mk [109, 46, 80] (List.replicate w (full w i))) = _
    rw [pt_mk]
    have : rp (.mk [109, 46, 80] (List.replicate w (full w i))) [[84]] = none := by
      cases w with
      | zero => omega
      | succ w => rfl
    rw [this]
    simp only
    rw [ptL_map, List.map_replicate, pt_full hw i]
    rfl
theorem sub_full {w : Nat} (hw : 1 ≤ w) (i : Nat) : sub (full w i) [[84]] [full w 1] = if 4096 < size (full w (i + 1)) then (.mk [] [], 4) else (full w (i + 1), 0) := by
  unfold sub
  rw [if_neg (by simp), if_neg (by decide), pt_full hw i]
section
variable {w : Nat} (hw : 1 ≤ w ∧ w ≤ 5)
include hw
theorem L500 (ks : Ks Res) (s0 : Str) (r1 : List (List T)) (deep sz i : Int) : ∀ (j k : Nat), k + j = w →
    L5_0_0 R (K5_0_0 R ks) s0 r1 (rows (List.replicate k tT)) deep (w : Int) sz i (k : Int) = X5_0_0_x0 (K5_0_0 R ks) s0 r1 [109, 46, 80] (rows (List.replicate w tT)) deep (w : Int) sz i (w : Int) false := by
  intro j
  induction j with
  | zero =>
    intro k hk
    obtain rfl : k = w := by omega
    have h1 : ¬ (k : Int) < (k : Int) := by omega
    rw [l5_0_0]
    simp only [h1, decide_false, cond_false]
  | succ j ihj =>
    intro k hk
    have h1 : (k : Int) < (w : Int) := by omega
    have b1 : Nat.ble ((rows (List.replicate k tT)).length + 1) (lim 40) = true := by rw [Nat.ble_eq, lim40, rows_length]; simp; omega
    have e : rows (List.replicate k tT) ++ [[(T.str ([84] : List UInt8)), (T.sl 2 [])]] = rows (List.replicate (k + 1) tT) := by
      rw [List.replicate_succ', rows_append]; rfl
    rw [l5_0_0]
    simp only [h1, decide_true, cond_true, List.length_cons, List.length_nil, Nat.zero_add, b1, e]
    rw [wrap_succ (by omega)]
    exact ihj (k + 1) (by omega)
theorem L501 (ks : Ks Res) (s0 : Str) (r1 : List (List T)) (s2 : Str) (r3 r4 r5 : List (List T)) (s6 : Str) (r7 : List (List T)) (deep sz e : Int) (i : Nat) (hi : w ^ i ≤ 100000) (hi' : i ≤ 100) : ∀ (j k : Nat), k + j = i →
    L5_0_1 R (K5_0_1 R ks) s0 r1 s2 r3 r4 r5 s6 r7 deep (w : Int) sz (i : Int) e ((w ^ k : Nat) : Int) (k : Int) = X5_0_1_x0 (K5_0_1 R ks) s0 r1 s2 r3 r4 r5 s6 r7 deep (w : Int) sz (i : Int) e ((w ^ i : Nat) : Int) (i : Int) false := by
  intro j
  induction j with
  | zero =>
    intro k hk
    obtain rfl : k = i := by omega
    have h1 : decide ((k : Int) < (k : Int)) = false := decide_eq_false (by omega)
    rw [l5_0_1, h1, cond_false]
  | succ j ihj =>
    intro k hk
    have h1 : (k : Int) < (i : Int) := by omega
    have hle : w ^ (k + 1) ≤ w ^ i := Nat.pow_le_pow_right (by omega) (by omega)
    rw [l5_0_1]
    simp only [h1, decide_true, cond_true]
    have e : ((w ^ k : Nat) : Int) * (w : Int) = ((w ^ (k + 1) : Nat) : Int) := by rw [Nat.pow_succ, Int.natCast_mul]
    rw [wrap_succ (by omega), e, wrap_in (by omega)]
    exact ihj (k + 1) (by omega)
set_option maxRecDepth 100000 in
theorem L50 (deep : Nat) (hd : deep ≤ 7) : ∀ (j i : Nat), i + j = deep → size (full w i) ≤ 4096 →
    L5_0 R (K5_0 R) (full w i).name (rows (full w i).args) (deep : Int) (w : Int) ((size (full w i) : Nat) : Int) (i : Int) = some (.t (.bool true), []) := by
  have aw := awake
  intro j
  induction j with
  | zero =>
    intro i hi hs
    have h1 : ¬ (i : Int) < (deep : Int) := by omega
    rw [l5_0]
    simp only [h1, decide_false, cond_false, x5_0_x0, aw, Option.bind_some, AV.boolK, AV.tK, T.boolK, nilK]
  | succ j ihj =>
    intro i hi hs
    have h1 : (i : Int) < (deep : Int) := by omega
    have a1 := L500 hw (K5_0 R) (full w i).name (rows (full w i).args) (deep : Int) ((size (full w i) : Nat) : Int) (i : Int) w 0 (by omega)
    have hsz := size_full w i
    have hw0 : w ^ (i + 1) = w ^ i * w := Nat.pow_succ w i
    have hpos : 1 ≤ w ^ i := Nat.pow_pos (by omega)
    have hwi : w ^ i ≤ 4096 := by
      cases i with
      | zero => simp
      | succ i => have := size_full w i; omega
    have hwn : w ^ i * w ≤ 4096 * 5 := Nat.mul_le_mul hwi hw.2
    have ok := full_ok (w := w) (by omega)
    have hszx : size (full w 1) ≤ 100 := by rw [size_full w 0]; simp [full, tT, size, sizeL]; omega
    have r18 := R18 (t := full w i) (names := [[84]]) (by' := [full w 1]) (by simp) (by simp) (fun t ht => by simp at ht; rw [ht]; exact ok 1) (fun t ht => by simp at ht; rw [ht]; omega) (ok i) (by rw [pt_full hw.1]; omega)
    rw [sub_full hw.1] at r18
    have er : rows [full w 1] = [[.str [109, 46, 80], .sl 2 (rows (List.replicate w tT))]] := by
      rw [show full w 1 = .mk [109, 46, 80] (List.replicate w tT) from rfl, rows_one]
    have en : strRows [[84]] = [[.str [84]]] := rfl
    rw [l5_0]
    simp only [h1, decide_true, cond_true]
    rw [show ([] : List (List T)) = rows (List.replicate 0 tT) from rfl, show (0 : Int) = ((0 : Nat) : Int) from rfl, a1, x5_0_0_x0]
    have av_full : (full w i).av = .agg [.t (.str (full w i).name), .t (.sl 2 (rows (full w i).args))] := rfl
    rw [er, en, av_full] at r18
    rw [r18]
    have s1 : IntKind.wrap .i64 (((size (full w i) : Nat) : Int) + IntKind.wrap .i64 (((w ^ i : Nat) : Int) * (w : Int))) = ((size (full w (i + 1)) : Nat) : Int) := by
      rw [← Int.natCast_mul, wrap_in (n := ((w ^ i * w : Nat) : Int)) (by omega), wrap_in (by omega)]
      omega
    by_cases hbig : 4096 < size (full w (i + 1))
    · simp only [if_pos hbig, Option.bind_some, AV.tupK, consK, av_mk, AV.aggK, AV.strK, AV.tK, T.strK, AV.sl1K, T.slK, Nat.beq, cond_true, nilK, AV.int1K, AV.intK, T.intK, IntKind.same]
      have a2 := L501 hw (K5_0 R) (full w i).name (rows (full w i).args) [109, 46, 80] (rows (List.replicate w tT)) [[.str [84]]] [[.str [109, 46, 80], .sl 2 (rows (List.replicate w tT))]] [] (rows []) (deep : Int) ((size (full w i) : Nat) : Int) 4 i (by omega) (by omega) i 0 (by omega)
      simp only [Nat.pow_zero] at a2
      rw [show (1 : Int) = ((1 : Nat) : Int) from rfl, show (0 : Int) = ((0 : Nat) : Int) from rfl, a2, x5_0_1_x0]
      have h2 : ¬ ((size (full w (i + 1)) : Nat) : Int) ≤ 4096 := by omega
      have h3 : ((4 : Int) == ((0 : Nat) : Int)) = false := by decide
      have h3' : ((4 : Int) == 0) = false := by decide
      have h4 : ((4 : Int) == 4) = true := by decide
      simp only [s1, h2, h3, h3', h4, decide_false, beq_self_eq_true, Bool.not_true, Bool.not_false, cond_true, cond_false, aw, Option.bind_some, AV.boolK, AV.tK, T.boolK, nilK, x5_0_x3]
    · have r24 := R24 (full w (i + 1)) (ok _) (by have := depth_le (full w (i + 1)); omega)
      have r25 := R25 (full w (i + 1)) (ok _) (by omega)
      rw [depth_full hw.1] at r24
      have next := ihj (i + 1) (by omega) (by omega)
      have av_full' : (full w (i + 1)).av = .agg [.t (.str (full w (i + 1)).name), .t (.sl 2 (rows (full w (i + 1)).args))] := rfl
      rw [av_full'] at r24 r25
      simp only [if_neg hbig, Option.bind_some, AV.tupK, consK, av_full', AV.aggK, AV.strK, AV.tK, T.strK, AV.sl1K, T.slK, Nat.beq, cond_true, nilK, AV.int1K, AV.intK, T.intK, IntKind.same]
      have a2 := L501 hw (K5_0 R) (full w i).name (rows (full w i).args) [109, 46, 80] (rows (List.replicate w tT)) [[.str [84]]] [[.str [109, 46, 80], .sl 2 (rows (List.replicate w tT))]] (full w (i + 1)).name (rows (full w (i + 1)).args) (deep : Int) ((size (full w i) : Nat) : Int) 0 i (by omega) (by omega) i 0 (by omega)
      simp only [Nat.pow_zero] at a2
      rw [show (1 : Int) = ((1 : Nat) : Int) from rfl]
      rw [show L5_0_1 R (K5_0_1 R (K5_0 R)) (full w i).name (rows (full w i).args) [109, 46, 80] (rows (List.replicate w tT)) [[.str [84]]] [[.str [109, 46, 80], .sl 2 (rows (List.replicate w tT))]] (full w (i + 1)).name (rows (full w (i + 1)).args) (deep : Int) (w : Int) ((size (full w i) : Nat) : Int) (i : Int) 0 ((1 : Nat) : Int) 0 = _ from a2, x5_0_1_x0]
      have h2 : ((size (full w (i + 1)) : Nat) : Int) ≤ 4096 := by omega
      have w2 : IntKind.wrap .i64 ((i : Int) + 2) = ((i + 1 + 1 : Nat) : Int) := by rw [wrap_in (by omega)]; omega
      have w1 : IntKind.wrap .i64 ((i : Int) + 1) = ((i + 1 : Nat) : Int) := by rw [wrap_in (by omega)]; omega
      simp only [s1, h2, w1, w2, decide_true, beq_self_eq_true, Bool.not_true, Bool.not_false, cond_true, cond_false, r24, r25, Option.bind_some, AV.int1K, AV.intK, AV.tK, T.intK, IntKind.same, nilK]
      exact next
end
theorem R5 (n k : Int) (hn : 0 ≤ n ∧ n ≤ 255) (hk : 0 ≤ k ∧ k ≤ 255) : R 5 [.t (.int .u8 n), .t (.int .u8 k)] [] = some (.t (.bool true), []) := by
  obtain ⟨n, rfl⟩ : ∃ m : Nat, n = m := ⟨n.toNat, by omega⟩
  obtain ⟨k, rfl⟩ : ∃ m : Nat, k = m := ⟨k.toNat, by omega⟩
  have e1 : Int.tmod (n : Int) 7 = ((n % 7 : Nat) : Int) := by rw [Int.tmod_eq_emod_of_nonneg (by omega)]; omega
  have e2 : Int.tmod (k : Int) 5 = ((k % 5 : Nat) : Int) := by rw [Int.tmod_eq_emod_of_nonneg (by omega)]; omega
  have w1 : IntKind.wrap .i64 ((n % 7 : Nat) : Int) = ((n % 7 : Nat) : Int) := wrap_in (by omega)
  have w2 : IntKind.wrap .i64 ((k % 5 : Nat) : Int) = ((k % 5 : Nat) : Int) := wrap_in (by omega)
  have w3 : IntKind.wrap .i64 (1 + ((n % 7 : Nat) : Int)) = ((1 + n % 7 : Nat) : Int) := by rw [wrap_in (by omega)]; omega
  have w4 : IntKind.wrap .i64 (1 + ((k % 5 : Nat) : Int)) = ((1 + k % 5 : Nat) : Int) := by rw [wrap_in (by omega)]; omega
  have h7 : ((7 : Int) == 0) = false := by decide
  have h5 : ((5 : Int) == 0) = false := by decide
  have main := L50 (w := 1 + k % 5) (by omega) (1 + n % 7) (by omega) (1 + n % 7) 0 (by omega) (by simp [full, tT, size, sizeL])
  unfold R at main ⊢
  rw [call_unfold Try.func5, e5]
  simp only [h7, h5, cond_false, e1, e2, w1, w2, w3, w4]
  exact main
end Go.AS.Q4
