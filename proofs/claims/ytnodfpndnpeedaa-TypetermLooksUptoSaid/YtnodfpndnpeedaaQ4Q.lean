/- AS, the seat of law 4: what is said about any two types, and made ones. -/
import Derived.Test.YtnodfpndnpeedaaQ4S2
import Derived.Test.YtnodfpndnpeedaaQ4Y
import Derived.Test.YtnodfpndnpeedaaQ4L8
namespace Go.AS.Q4
open Go.Proofs
set_option linter.all false

theorem M8_0_0 {P : List Str} (hP : P.length ≤ 100000) (ks : Ks Res) (s0 : Str) (s3 : Str) (r4 : List (List T)) (s5 : Str) (r6 : List (List T)) (r7 : List (List T)) (s8 : Str) (r9 : List (List T)) (s10 : Str) (r11 : List (List T)) (r12 : List (List T)) (x13 x14 x15 x16 : T) (i17 i19 : Int) : ∀ (j k : Nat), j + k = P.length →
    L8_0_0 R (K8_0_0 R ks) s0 (strRows P) (strRows P) s3 r4 s5 r6 r7 s8 r9 s10 r11 r12 x13 x14 x15 x16 i17 (k : Int) i19 = X8_0_0_x1 (K8_0_0 R ks) s0 (strRows P) (strRows P) s3 r4 s5 r6 r7 s8 r9 s10 r11 r12 x13 x14 x15 x16 i17 (P.length : Int) false i19 := by
  intro j
  induction j with
  | zero =>
    intro k hk
    have h1 : decide ((k : Int) < (P.length : Int)) = false := decide_eq_false (by omega)
    rw [l8_0_0, strRows_length, h1, cond_false, show k = P.length by omega]
  | succ j ihj =>
    intro k hk
    obtain ⟨s, hs⟩ := at_of (l := P) (k := k) (by omega)
    have h1 : (k : Int) < (P.length : Int) := by omega
    have h2 : (0 : Int) ≤ (k : Int) := by omega
    rw [l8_0_0]
    simp only [strRows_length, h1, h2, decide_true, cond_true, and_self, Int.toNat_natCast, nth_strRows hs, nth, T.strK, beq_self_eq_true, Bool.not_true, cond_false]
    rw [wrap_succ (by omega)]
    exact ihj (k + 1) (by omega)
def Fit (t : Ty) : Prop := t.Ok ∧ Nm t ∧ size t ≤ 10000 ∧ (text t).length ≤ 100000000
theorem M8_0 {PL : List (Ty × Ty)} (hPL : PL.length ≤ 1000) (hp : ∀ p, p ∈ PL → Fit p.1 ∧ p.2.Ok) (ks : Ks Res) (s0 : Str) (s1 : Str) (r2 : List (List T)) (s3 : Str) (r4 : List (List T)) (r5 : List (List T)) (s6 : Str) (r7 : List (List T)) (s8 : Str) (r9 : List (List T)) (i12 : Int) : ∀ (j k : Nat), j + k = PL.length →
    L8_0 R ks s0 s1 r2 s3 r4 r5 s6 r7 s8 r9 (plRows PL) (k : Int) i12 = X8_0_x1 ks s0 s1 r2 s3 r4 r5 s6 r7 s8 r9 (plRows PL) (PL.length : Int) false i12 := by
  intro j
  induction j with
  | zero =>
    intro k hk
    have h1 : decide ((k : Int) < (PL.length : Int)) = false := decide_eq_false (by omega)
    rw [l8_0, plRows_length, h1, cond_false, show k = PL.length by omega]
  | succ j ihj =>
    intro k hk
    obtain ⟨p, hpk⟩ := at_of (l := PL) (k := k) (by omega)
    obtain ⟨⟨a1, a2, a3, a4⟩, b1⟩ := hp p (List.mem_of_getElem? hpk)
    have h26 := R26 p.1 a1 (by omega)
    have h21 := R21 p.1 a1 a2 (by omega)
    have h28 := R28 p.1 a1 a2
    have h29 := R29 p.1 a1 a2
    have h14 := R14 p.1 a1 p.2
    have h20 := R20 p.1 a1 p.2
    have h13 := R13 p.1 a1 p.2
    have h30 := R30 p.1 a1 p.2
    have hd := depth_le p.1
    have h24 := R24 p.1 a1 (by omega)
    have h31 := R31 p.1 a1 (by omega)
    have h25 := R25 p.1 a1 (by omega)
    have h32 := R32 p.1 a1 (by omega)
    have h27 := R27 p.1 a1
    have h33 := R33 p.1 a1 a2 a3
    have h15 := R15 p.1 a1 a4
    have h34 := R34 p.1 a1 a4
    have hpl := prm_len p.1 []
    generalize prm p.1 [] = P at h26 h21 hpl
    have hP : P.length ≤ 100000 := by simp only [List.length_nil] at hpl; omega
    have next := ihj (k + 1) (by omega)
    have h1 : (k : Int) < (PL.length : Int) := by omega
    have h2 : (0 : Int) ≤ (k : Int) := by omega
    have main := M8_0_0 hP ks s0 s1 r2 s3 r4 r5 s6 r7 s8 r9 (plRows PL) (.str p.1.name) (.sl 2 (rows p.1.args)) (.str p.2.name) (.sl 2 (rows p.2.args)) (k : Int) i12 P.length 0 (by omega)
    have chain := x8_0_0_x1 R ks s0 (strRows P) (strRows P) s1 r2 s3 r4 r5 s6 r7 s8 r9 (plRows PL) (.str p.1.name) (.sl 2 (rows p.1.args)) (.str p.2.name) (.sl 2 (rows p.2.args)) (k : Int) (P.length : Int) false i12
    simp only [av_eta, h28, h29, h14, h20, h13, h30, h24, h31, h25, h32, h27, h33, h15, h34, Option.bind_some, AV.boolK, AV.tK, T.boolK, AV.int1K, AV.intK, T.intK, IntKind.same, AV.strK, T.strK, nilK, beq_self_eq_true, Bool.not_true, cond_false, cond_true] at chain
    rw [wrap_succ (by omega), next] at chain
    rw [l8_0]
    simp only [plRows_length, h1, h2, decide_true, cond_true, and_self, Int.toNat_natCast, nth_plRows hpk, nth, av_eta, h26, h21, Option.bind_some, AV.sl1K, AV.tK, T.slK, Nat.beq, nilK, beq_self_eq_true, Bool.not_true, cond_false]
    exact (show _ = _ from main).trans chain
theorem M8_1 {S : List Str} (hS : S.length ≤ 1000) (hs : ∀ s, s ∈ S → s.length ≤ 9223372036854775807) (s0 : Str) (r1 : List (List T)) (s2 : Str) (r3 : List (List T)) (r4 : List (List T)) (s5 : Str) (r6 : List (List T)) (s7 : Str) (r8 : List (List T)) (r9 : List (List T)) (i12 : Int) : ∀ (j k : Nat), j + k = S.length →
    L8_1 R (K8_1 R) s0 r1 s2 r3 r4 s5 r6 s7 r8 r9 (strRows S) (k : Int) i12 = some (.t (.bool true), []) := by
  have aw := awake
  intro j
  induction j with
  | zero =>
    intro k hk
    have h1 : decide ((k : Int) < (S.length : Int)) = false := decide_eq_false (by omega)
    rw [l8_1, strRows_length, h1, cond_false, x8_1_x4, aw]
    rfl
  | succ j ihj =>
    intro k hk
    obtain ⟨s, hsk⟩ := at_of (l := S) (k := k) (by omega)
    have hsl := hs s (List.mem_of_getElem? hsk)
    have h35 := R35 hsl
    have h36 := R36 hsl
    have h37 := R37 s
    have h38 := R38 s
    generalize splitS s = q at h35 h36
    obtain ⟨q1, q2, q3⟩ := q
    have next := ihj (k + 1) (by omega)
    have h1 : (k : Int) < (S.length : Int) := by omega
    have h2 : (0 : Int) ≤ (k : Int) := by omega
    rw [l8_1]
    simp only [strRows_length, h1, h2, decide_true, cond_true, and_self, Int.toNat_natCast, nth_strRows hsk, nth, h35, h36, h37, h38, splitAV, Option.bind_some, AV.tupK, consK, AV.strK, AV.tK, T.strK, AV.boolK, T.boolK, nilK, beq_self_eq_true, Bool.not_true, cond_false]
    rw [wrap_succ (by omega)]
    exact next
theorem str_len {a : ByteArray} (h : a.size ≤ maxLen) : a.data.toList.length ≤ 9223372036854775807 := by
  have e : a.data.toList.length = a.size := by rw [Array.length_toList]; rfl
  rw [e]
  unfold maxLen at h
  omega
theorem szl6 : szl 6 = 9331 := by decide
theorem R8 (t u : Ty) (ht : Nm t) (hx : (text t).length ≤ 100000000) (s : Str) (hs : s.length ≤ 9223372036854775807) (l : List Int) : R 8 [t.av, u.av, .t (.str s), .t (.sl 1 (ints l))] [] = some (.t (.bool true), []) := by
  have aw := awake
  have l9 := R9 l
  have h16 := R16 6 (by omega) t
  have hu := R16 6 (by omega) u
  have e2 := szl6
  have okt := light_ok 6 t
  have oku := light_ok 6 u
  have dl := R12 l
  have main : light 6 t = true → light 6 u = true → l.length ≤ 700 → ∃ (x y : Ty) (i1 i2 : Nat), R 11 [.ptr 0 0, .t (.int .i64 (3 : Int))] (dh l 0) = some (x.av, dh l i1) ∧ R 11 [.ptr 0 0, .t (.int .i64 (3 : Int))] (dh l i1) = some (y.av, dh l i2) ∧
      ∀ r i12, L8_0 R (K8_0 R) s t.name (rows t.args) u.name (rows u.args) r x.name (rows x.args) y.name (rows y.args) (plRows [(t, u), (x, y), (x, t), (x, x)]) (0 : Int) i12 = some (.t (.bool true), []) := by
    intro h1 h2 hl
    obtain ⟨x, i1, gx, hi1, ox⟩ := R11 hl 4 (by omega) 0 (by omega)
    obtain ⟨y, i2, gy, hi2, oy⟩ := R11 hl 4 (by omega) i1 hi1
    simp only [Int.cast_ofNat_Int, Int.reduceSub] at ox oy
    refine ⟨x, y, i1, i2, ox, oy, fun r i12 => ?_⟩
    obtain ⟨t1, t2⟩ := okt h1
    obtain ⟨u1, u2⟩ := oku h2
    obtain ⟨x1, _, x3⟩ := good_ok 4 x gx
    have y1 := (good_ok 4 y gy).1
    have xs := size_good gx
    have hr : rho 1 4 = 67 := rho_nums.2.1
    have nx := good_nm 4 x gx
    have fx : Fit x := ⟨x1, nx, by omega, by have : 4 ^ (4 + 2) = 4096 := by decide
                                             omega⟩
    have ft : Fit t := ⟨t1, ht, by omega, hx⟩
    have m0 := M8_0 (PL := [(t, u), (x, y), (x, t), (x, x)]) (by simp) (fun p hp => by
      simp at hp
      rcases hp with rfl | rfl | rfl | rfl
      · exact ⟨ft, u1⟩
      · exact ⟨fx, y1⟩
      · exact ⟨fx, t1⟩
      · exact ⟨fx, x1⟩) (K8_0 R) s t.name (rows t.args) u.name (rows u.args) r x.name (rows x.args) y.name (rows y.args) i12 4 0 (by simp)
    refine (show _ = _ from m0).trans ?_
    rw [x8_0_x1]
    have htn : t.name.length ≤ 9223372036854775807 := by obtain ⟨n, a⟩ := t; exact ht.parts.1
    have hxn : x.name.length ≤ 9223372036854775807 := by obtain ⟨n, a⟩ := x; exact nx.parts.1
    exact M8_1 (S := [s, t.name, x.name, [97, 46, 98, 46, 99], [46, 97], [97, 46]]) (by simp) (fun z hz => by
      simp only [List.mem_cons, List.not_mem_nil, or_false] at hz
      rcases hz with rfl | rfl | rfl | rfl | rfl | rfl
      · exact hs
      · exact htn
      · exact hxn
      · simp
      · simp
      · simp) t.name (rows t.args) u.name (rows u.args) r x.name (rows x.args) y.name (rows y.args) _ i12 6 0 (by simp)
  clear okt oku hx
  generalize light 6 t = bt at h16 main
  generalize light 6 u = bu at hu main
  obtain ⟨nt, lt⟩ := t
  obtain ⟨nu, lu⟩ := u
  unfold R at *
  simp only [av_mk, Int.cast_ofNat_Int] at *
  rw [call_unfold Try.func8, e8, h16]
  simp only [Option.bind_some, AV.boolK, AV.tK, T.boolK, nilK]
  cases bt with
  | false => simp only [Bool.not_false, cond_true, aw, Option.bind_some]
  | true =>
    simp only [Bool.not_true, cond_false, hu, Option.bind_some]
    cases bu with
    | false => simp only [Bool.not_false, cond_true, aw, Option.bind_some]
    | true =>
      simp only [Bool.not_true, cond_false, l9, Option.bind_some]
      by_cases hl : l.length ≤ 700
      rotate_left
      · have : ¬ ((l.length : Int) ≤ 700) := by omega
        simp only [this, decide_false, Bool.not_false, cond_true, aw, Option.bind_some]
      have hl' : ((l.length : Int) ≤ 700) := by omega
      obtain ⟨x, y, i1, i2, ox, oy, go⟩ := main rfl rfl hl
      obtain ⟨nx, lx⟩ := x
      obtain ⟨ny, ly⟩ := y
      unfold dh at *
      simp only [av_mk] at ox oy
      simp only [plRows, List.map_cons, List.map_nil, Ty.name, Ty.args] at go
      simp only [hl', decide_true, Bool.not_true, cond_false, dl, ox, oy, Option.bind_some, AV.ptrK, AV.tK, consK, Nat.beq, cond_true, Ent.boxK, AV.sl1K, T.slK, AV.int1K, AV.intK, T.intK, IntKind.same, nilK, AV.aggK, AV.strK, T.strK]
      exact go _ _
end Go.AS.Q4
