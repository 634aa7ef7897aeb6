/- AS, the seat of law 4: the law of replacing twice. -/
import Derived.Test.YtnodfpndnpeedaaQ4H
import Derived.Test.YtnodfpndnpeedaaQ4L7
namespace Go.AS.Q4
open Go.Proofs
set_option linter.all false

theorem L70 {c : Ty} {S : List Ty} (hc : c.Ok) (hS : S.length ≤ 1000) (hok : ∀ t, t ∈ S → t.Ok) (hcs : size c ≤ 4096) (hsz : ∀ t, t ∈ S → size (pt [[84]] [c] t) ≤ 4096) (r0 : List (List T)) (s1 : Str) (r2 : List (List T)) (s3 : Str) (r4 : List (List T)) (s5 : Str) (r6 r9 : List (List T)) (s11 : Str) (r12 r13 r14 : List (List T)) (s15 : Str) (r16 : List (List T)) (e f i : Int) :
    ∀ (j k : Nat), j + k = S.length → L7_0 R (K7_0 R) r0 s1 r2 s3 r4 s5 r6 c.name (rows c.args) r9 (rows S) s11 r12 r13 r14 s15 r16 (rows ((S.take k).map (pt [[84]] [c]))) e f (k : Int) i =
      X7_0_x1 (K7_0 R) r0 s1 r2 s3 r4 s5 r6 c.name (rows c.args) r9 (rows S) s11 r12 r13 r14 s15 r16 (rows (S.map (pt [[84]] [c]))) e f (S.length : Int) false i := by
  intro j
  induction j with
  | zero =>
    intro k hk
    have h1 : decide ((k : Int) < (S.length : Int)) = false := decide_eq_false (by omega)
    rw [l7_0, rows_length, h1, cond_false, List.take_of_length_le (by omega : S.length ≤ k), show k = S.length by omega]
  | succ j ihj =>
    intro k hk
    obtain ⟨t, ht⟩ := at_of (l := S) (k := k) (by omega)
    have htm := List.mem_of_getElem? ht
    have h18 := R18 (t := t) (names := [[84]]) (by' := [c]) (by simp) (by simp) (fun u hu => by simp at hu; exact hu ▸ hc) (fun u hu => by simp at hu; rw [hu]; omega) (hok t htm) (by have := hsz t htm; omega)
    rw [sub_ok rfl (by decide) (hsz t htm)] at h18
    have next := ihj (k + 1) (by omega)
    rw [take_of ht, List.map_append, List.map_cons, List.map_nil] at next
    generalize pt [[84]] [c] t = u at h18 next
    obtain ⟨n, a⟩ := t
    obtain ⟨nu, au⟩ := u
    obtain ⟨nc, ac⟩ := c
    have h1 : (k : Int) < (S.length : Int) := by omega
    have h2 : (0 : Int) ≤ (k : Int) := by omega
    have b1 : Nat.ble (((S.take k).map (pt [[84]] [.mk nc ac])).length + 1) (lim 40) = true := by rw [Nat.ble_eq, lim40]; simp; omega
    rw [av_mk, av_mk, rows_one, show strRows [[84]] = [[.str [84]]] from rfl] at h18
    rw [rows_append, rows_one] at next
    rw [l7_0]
    simp only [rows_length, h1, h2, decide_true, cond_true, and_self, Int.toNat_natCast, nth_rows ht, nth, Ty.name, Ty.args, h18, Option.bind_some, AV.tupK, consK, AV.aggK, AV.strK, AV.tK, T.strK, AV.sl1K, T.slK, Nat.beq, nilK, AV.int1K, AV.intK, T.intK, IntKind.same, beq_self_eq_true, Bool.not_true, cond_false, List.length_cons, List.length_nil, Nat.zero_add, b1]
    rw [wrap_succ (by omega)]
    exact next
def nTUS : List Str := [[84], [85], [83, 101, 108, 102]]
theorem rho_nums2 : rho 1 2 = 7 ∧ rho 7 4 = 229 ∧ rho 7 2 = 25 ∧ rho 25 4 = 715 := by decide
set_option maxRecDepth 100000 in
theorem R7 (l : List Int) : R 7 [.t (.sl 1 (ints l))] [] = some (.t (.bool true), []) := by
  have aw := awake
  have l9 := R9 l
  by_cases hl : l.length ≤ 700
  rotate_left
  · have : ¬ ((l.length : Int) ≤ 700) := by omega
    unfold R at *
    rw [call_unfold Try.func7, e7, l9]
    simp only [this, decide_false, Bool.not_false, cond_true, aw, Option.bind_some, AV.boolK, AV.tK, T.boolK, nilK]
  have h1 : ((l.length : Int) ≤ 700) := by omega
  obtain ⟨t, i1, gt, hi1, ot⟩ := R11 hl 4 (by omega) 0 (by omega)
  obtain ⟨a, i2, ga, hi2, oa⟩ := R11 hl 2 (by omega) i1 hi1
  obtain ⟨b, i3, gb, hi3, ob⟩ := R11 hl 2 (by omega) i2 hi2
  obtain ⟨c, i4, gc, hi4, oc⟩ := R11 hl 2 (by omega) i3 hi3
  have okt := (good_ok 4 t gt).1
  have oka := (good_ok 2 a ga).1
  have okb := (good_ok 2 b gb).1
  have okc := (good_ok 2 c gc).1
  have dl := R12 l
  obtain ⟨n1, n2, n3, n4⟩ := rho_nums2
  have szt := size_good gt
  have sza := size_good ga
  have szb := size_good gb
  have szc := size_good gc
  have hmem : ∀ u, u ∈ [a, b, c] → u.Ok ∧ good 2 u ∧ size u ≤ 7 := by
    intro u hu
    simp at hu
    rcases hu with rfl | rfl | rfl
    · exact ⟨oka, ga, by omega⟩
    · exact ⟨okb, gb, by omega⟩
    · exact ⟨okc, gc, by omega⟩
  have hc1 : ∀ u, u ∈ [c] → u.Ok ∧ size u ≤ 7 := fun u hu => by simp at hu; exact hu ▸ ⟨okc, by omega⟩
  have htw : tw [] nTUS = false := by decide
  -- the first type in which is replaced
  have sx := size_pt (names := nTUS) (by' := [a, b, c]) (r := 7) (by omega) (fun u hu => (hmem u hu).2.2) 4 t gt
  have okx := pt_ok (names := nTUS) (by' := [a, b, c]) (fun u hu => (hmem u hu).1) t okt
  have hx := R18 (t := t) (names := nTUS) (by' := [a, b, c]) (by decide) (by simp) (fun u hu => (hmem u hu).1) (fun u hu => by have := (hmem u hu).2.2; omega) okt (by omega)
  rw [sub_ok rfl htw (by omega)] at hx
  -- what was replaced in its parts
  have sS : ∀ u, u ∈ [a, b, c] → size (pt [[84]] [c] u) ≤ 25 := fun u hu => by
    have := size_pt (names := [[84]]) (by' := [c]) (r := 7) (by omega) (fun v hv => (hc1 v hv).2) 2 u (hmem u hu).2.1
    omega
  have hB : ∀ u, u ∈ [a, b, c].map (pt [[84]] [c]) → u.Ok ∧ size u ≤ 25 := by
    intro u hu
    obtain ⟨v, hv, rfl⟩ := List.mem_map.1 hu
    exact ⟨pt_ok (fun w hw => (hc1 w hw).1) v (hmem v hv).1, sS v hv⟩
  have hpp := pt_pt (N := nTUS) (M := [[84]]) (A := [a, b, c]) (C := [c]) rfl (fun m hm => by simp at hm; rw [hm]; decide) t
  have sw := size_pt (names := nTUS) (by' := [a, b, c].map (pt [[84]] [c])) (r := 25) (by omega) (fun u hu => (hB u hu).2) 4 t gt
  have hy := R18 (t := pt nTUS [a, b, c] t) (names := [[84]]) (by' := [c]) (by simp) (by simp) (fun u hu => (hc1 u hu).1) (fun u hu => by have := (hc1 u hu).2; omega) okx (by rw [hpp]; omega)
  rw [sub_ok rfl (by decide) (by rw [hpp]; omega), hpp] at hy
  have okw := pt_ok (names := nTUS) (by' := [a, b, c].map (pt [[84]] [c])) (fun u hu => (hB u hu).1) t okt
  have hw := R18 (t := t) (names := nTUS) (by' := [a, b, c].map (pt [[84]] [c])) (by decide) (by simp) (fun u hu => (hB u hu).1) (fun u hu => by have := (hB u hu).2; omega) okt (by omega)
  rw [sub_ok (by simp [nTUS]) htw (by omega)] at hw
  have hyw := R14 _ okw (pt nTUS ([a, b, c].map (pt [[84]] [c])) t)
  rw [(same_eq _ _).2 rfl] at hyw
  have h27 := R27 t okt
  have hxt := R14 _ okx t
  have hcl : closed t = true → same (pt nTUS [a, b, c] t) t = true := fun h => (same_eq _ _).2 (pt_closed (by decide) t h)
  have loop := fun r0 s1 r2 s3 r4 s5 r6 r9 s11 r12 r13 r14 s15 r16 e f i => L70 (c := c) (S := [a, b, c]) okc (by simp) (fun u hu => (hmem u hu).1) (by omega) (fun u hu => by have := sS u hu; omega) r0 s1 r2 s3 r4 s5 r6 r9 s11 r12 r13 r14 s15 r16 e f i 3 0 (by simp)
  clear hpp hmem hc1 hB sS okx okw
  generalize pt nTUS [a, b, c] t = x at hx hy hxt hcl sx
  generalize hbS : [a, b, c].map (pt [[84]] [c]) = B at hy hw hyw loop sw
  generalize pt nTUS B t = w at hy hw hyw sw
  generalize closed t = cl at h27 hcl
  generalize same x t = sxt at hxt hcl
  obtain ⟨nt, lt⟩ := t
  obtain ⟨na, la⟩ := a
  obtain ⟨nb, lb⟩ := b
  obtain ⟨nc, lc⟩ := c
  obtain ⟨nx, lx⟩ := x
  obtain ⟨nw, lw⟩ := w
  have eN : strRows nTUS = [[(T.str ([84] : List UInt8))], [(T.str ([85] : List UInt8))], [(T.str ([83, 101, 108, 102] : List UInt8))]] := rfl
  have eT : strRows [[84]] = [[(T.str ([84] : List UInt8))]] := rfl
  have eS : rows [.mk na la, .mk nb lb, .mk nc lc] = [[(T.str na), (T.sl 2 (rows la))], [(T.str nb), (T.sl 2 (rows lb))], [(T.str nc), (T.sl 2 (rows lc))]] := by simp [rows, row_mk]
  rw [eS] at loop
  simp only [List.take_zero, List.map_nil, show rows [] = [] from rfl, Ty.name, Ty.args] at loop
  unfold R dh at *
  rw [eN, eS] at hx
  rw [eT, rows_one] at hy
  rw [eN] at hw
  simp only [av_mk] at *
  simp only [Int.cast_ofNat_Int, Int.reduceSub] at ot oa ob oc dl
  rw [call_unfold Try.func7, e7]
  simp only [l9, h1, decide_true, dl, ot, oa, ob, oc, hx, hy, Option.bind_some, AV.ptrK, AV.boolK, AV.tK, T.boolK, consK, Nat.beq, cond_true, cond_false, Ent.boxK, AV.sl1K, T.slK, AV.int1K, AV.intK, T.intK, IntKind.same, nilK, AV.aggK, AV.strK, T.strK, AV.tupK, Bool.not_true]
  refine (loop ..).trans ?_
  rw [x7_0_x1, hw]
  simp only [Option.bind_some, AV.tupK, consK, AV.aggK, AV.strK, AV.tK, T.strK, AV.sl1K, T.slK, Nat.beq, cond_true, nilK, AV.int1K, AV.intK, T.intK, IntKind.same, beq_self_eq_true, hyw, h27, hxt, AV.boolK, T.boolK, aw]
  cases cl with
  | false => rfl
  | true => rw [hcl rfl]; rfl
end Go.AS.Q4
