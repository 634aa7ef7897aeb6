/- AS, the seat of law 4: the law of replacing. -/
import Derived.Test.YtnodfpndnpeedaaQ4V
namespace Go.AS.Q4
open Go.Proofs
set_option linter.all false

theorem good_nm : ∀ (D : Nat) (t : Ty), good D t → Nm t
  | 0, .mk n l, h => by
    obtain ⟨h1, rfl⟩ := h
    obtain ⟨_, f2⟩ := free_names (n := n) (by rcases h1 with h | h <;> simp [h])
    exact .mk n [] (by omega) fun t ht => by simp at ht
  | D + 1, .mk n l, h => by
    rcases h with ⟨h1, rfl⟩ | ⟨h1, a, rfl, h2⟩ | ⟨h1, h2, _, h3⟩
    · obtain ⟨_, f2⟩ := free_names (n := n) (.inl h1)
      exact .mk n [] (by omega) fun t ht => by simp at ht
    · obtain ⟨_, f2⟩ := free_names (n := n) (.inr (.inr h1))
      exact .mk n [a] (by omega) fun t ht => by simp at ht; exact ht ▸ good_nm D a h2
    · obtain ⟨_, f2⟩ := free_names (n := n) (.inr (.inl h1))
      exact .mk n l (by omega) fun t ht => good_nm D t (h3 t ht)
theorem szl_nums : szl 4 = 259 ∧ szl 5 = 1555 := by decide
/-- The pairs that are matched. -/
theorem pairs_ok {t u x y z : Ty} (ht : t.Ok ∧ Nm t ∧ size t ≤ 10000) (hu : u.Ok) (hx : x.Ok ∧ Nm x ∧ size x ≤ 10000) (hy : y.Ok) (hz : z.Ok) : ∀ p, p ∈ [(t, u), (x, y), (x, z)] → p.1.Ok ∧ Nm p.1 ∧ size p.1 ≤ 10000 ∧ p.2.Ok := by
  intro p hp
  simp at hp
  rcases hp with rfl | rfl | rfl
  · exact ⟨ht.1, ht.2.1, ht.2.2, hu⟩
  · exact ⟨hx.1, hx.2.1, hx.2.2, hy⟩
  · exact ⟨hx.1, hx.2.1, hx.2.2, hz⟩
section
variable {t u x y : Ty} (ht : t.Ok ∧ Nm t ∧ size t ≤ 10000) (hu : u.Ok ∧ size u ≤ 10000) (hx : x.Ok ∧ Nm x ∧ size x ≤ 10000) (hy : y.Ok ∧ size y ≤ 10000) {made : List Str} (hmade : made.length ≤ 1000) {by' : List Ty} (hbl : by'.length ≤ 1000) (hb : ∀ t, t ∈ by' → t.Ok ∧ size t ≤ 10000)
include ht hu hx hy hmade hbl hb
theorem zsub : (sub x [[84], [85]] [y, u]).1.Ok ∧ R 19 [x.av, .t (.sl 1 (strRows [[84], [85]])), .t (.sl 2 (rows [y, u]))] [] = some (.tup [(sub x [[84], [85]] [y, u]).1.av, .t (.int .i64 (sub x [[84], [85]] [y, u]).2)], []) := by
  have hyu : ∀ b, b ∈ [y, u] → b.Ok ∧ size b ≤ 10000 := by
    intro b hb
    simp at hb
    rcases hb with rfl | rfl
    · exact hy
    · exact hu
  have hsz := size_mul (names := [[84], [85]]) (by' := [y, u]) (r := 10000) (by omega) (fun b h => (hyu b h).2) x
  have hsz2 : size x * 10000 ≤ 10000 * 10000 := Nat.mul_le_mul_right _ hx.2.2
  exact ⟨sub_eq x _ _ (fun b h => (hyu b h).1) hx.1, R19 (by simp) (by simp) (fun b h => (hyu b h).1) (fun b h => by have := (hyu b h).2; omega) hx.1 (by omega)⟩
theorem J40 : J4_0 R (.sl 1 (strRows made)) t.name (rows t.args) u.name (rows u.args) x.name (rows x.args) y.name (rows y.args) (rows by') = some (.t (.bool true), []) := by
  obtain ⟨z1, z2⟩ := zsub ht hu hx hy hmade hbl hb
  have m1 := M4_1 (S := [t, x]) (by simp) (fun s hs => by
    simp at hs
    rcases hs with rfl | rfl
    · exact ⟨ht.1, ht.2.2⟩
    · exact ⟨hx.1, hx.2.2⟩) hmade hbl hb t.name (rows t.args) u.name (rows u.args) x.name (rows x.args) y.name (rows y.args) 2 0 (by simp)
  have er : ∀ a b : Ty, rows [a, b] = [[(T.str a.name), (T.sl 2 (rows a.args))], [(T.str b.name), (T.sl 2 (rows b.args))]] := by
    intro a b
    obtain ⟨na, la⟩ := a
    obtain ⟨nb, lb⟩ := b
    simp [rows, row_mk, Ty.name, Ty.args]
  rw [j4_0, ← er, show (0 : Int) = ((0 : Nat) : Int) from rfl, m1, x4_1_x2]
  generalize (sub x [[84], [85]] [y, u]).2 = e at z2
  generalize (sub x [[84], [85]] [y, u]).1 = z at z1 z2
  have m3 := M4_3 (PL := [(t, u), (x, y), (x, z)]) (by simp) (pairs_ok ht hu.1 hx hy.1 z1) hmade t.name (rows t.args) u.name (rows u.args) x.name (rows x.args) y.name (rows y.args) (rows by') (rows [t, x]) [[(T.str ([84] : List UInt8))], [(T.str ([85] : List UInt8))]] (rows [y, u]) z.name (rows z.args) 3 0 (by simp)
  rw [← er, av_eta, show ([[(T.str ([84] : List UInt8))], [(T.str ([85] : List UInt8))]] : List (List T)) = strRows [[84], [85]] from rfl, z2]
  obtain ⟨nz, lz⟩ := z
  simp only [av_mk, Option.bind_some, AV.tupK, consK, AV.aggK, AV.strK, AV.tK, T.strK, AV.sl1K, T.slK, Nat.beq, cond_true, nilK, AV.int1K, AV.intK, T.intK, IntKind.same]
  exact m3
theorem J41 : J4_1 R (.sl 1 (strRows made)) (rows by') t.name (rows t.args) u.name (rows u.args) x.name (rows x.args) y.name (rows y.args) = some (.t (.bool true), []) := by
  obtain ⟨z1, z2⟩ := zsub ht hu hx hy hmade hbl hb
  have m1 := M4_2 (S := [t, x]) (by simp) (fun s hs => by
    simp at hs
    rcases hs with rfl | rfl
    · exact ⟨ht.1, ht.2.2⟩
    · exact ⟨hx.1, hx.2.2⟩) hmade hbl hb t.name (rows t.args) u.name (rows u.args) x.name (rows x.args) y.name (rows y.args) 2 0 (by simp)
  have er : ∀ a b : Ty, rows [a, b] = [[(T.str a.name), (T.sl 2 (rows a.args))], [(T.str b.name), (T.sl 2 (rows b.args))]] := by
    intro a b
    obtain ⟨na, la⟩ := a
    obtain ⟨nb, lb⟩ := b
    simp [rows, row_mk, Ty.name, Ty.args]
  rw [j4_1, ← er, show (0 : Int) = ((0 : Nat) : Int) from rfl, m1, x4_2_x2]
  generalize (sub x [[84], [85]] [y, u]).2 = e at z2
  generalize (sub x [[84], [85]] [y, u]).1 = z at z1 z2
  have m3 := M4_4 (PL := [(t, u), (x, y), (x, z)]) (by simp) (pairs_ok ht hu.1 hx hy.1 z1) hmade t.name (rows t.args) u.name (rows u.args) x.name (rows x.args) y.name (rows y.args) (rows [t, x]) [[(T.str ([84] : List UInt8))], [(T.str ([85] : List UInt8))]] (rows [y, u]) z.name (rows z.args) 3 0 (by simp)
  rw [← er, av_eta, show ([[(T.str ([84] : List UInt8))], [(T.str ([85] : List UInt8))]] : List (List T)) = strRows [[84], [85]] from rfl, z2]
  obtain ⟨nz, lz⟩ := z
  simp only [av_mk, Option.bind_some, AV.tupK, consK, AV.aggK, AV.strK, AV.tK, T.strK, AV.sl1K, T.slK, Nat.beq, cond_true, nilK, AV.int1K, AV.intK, T.intK, IntKind.same]
  exact m3
end
theorem made5 {names : List Str} (hn : names.length ≤ 8) {m : Int} (h : 0 ≤ m ∧ m < 5) : ∃ made : List Str, made.length ≤ 1000 ∧
    nth T.pnil (nth [] [[(T.sl 1 (strRows names))], [(T.sl 1 [[(T.str ([84] : List UInt8))], [(T.str ([85] : List UInt8))]])], [(T.sl 1 [[(T.str ([84] : List UInt8))]])], [(T.sl 1 [[(T.str ([84] : List UInt8))], [(T.str ([84] : List UInt8))]])], [(T.sl 1 [])]] (Int.toNat m)) 0 = .sl 1 (strRows made) := by
  have hm : m = 0 ∨ m = 1 ∨ m = 2 ∨ m = 3 ∨ m = 4 := by omega
  rcases hm with rfl | rfl | rfl | rfl | rfl
  · exact ⟨names, by omega, rfl⟩
  · exact ⟨[[84], [85]], by simp, rfl⟩
  · exact ⟨[[84]], by simp, rfl⟩
  · exact ⟨[[84], [84]], by simp, rfl⟩
  · exact ⟨[], by simp, rfl⟩
set_option maxRecDepth 100000 in
theorem X401 {t u : Ty} (ht : t.Ok ∧ Nm t ∧ size t ≤ 10000) (hu : u.Ok ∧ size u ≤ 10000) {names : List Str} (hn : names.length ≤ 8) {by' : List Ty} (hbl : by'.length ≤ 1000) (hb : ∀ t, t ∈ by' → t.Ok ∧ size t ≤ 10000) {l : List Int} (hl : l.length ≤ 700) (i : Int) (b : Bool) :
    X4_0_x1 (K4_0 R) (strRows names) (rows by') (ints l) t.name (rows t.args) u.name (rows u.args) i b = some (.t (.bool true), []) := by
  obtain ⟨x, i1, gx, hi1, ox⟩ := R11 hl 4 (by omega) 0 (by omega)
  obtain ⟨y, i2, gy, hi2, oy⟩ := R11 hl 4 (by omega) i1 hi1
  obtain ⟨m5, i3, m51, m52, hi3, om5⟩ := R17 hl hi2 5 (by omega)
  obtain ⟨m4, i4, m41, m42, hi4, om4⟩ := R17 hl hi3 4 (by omega)
  obtain ⟨c, i5, gc, hi5, oc⟩ := R11 hl 3 (by omega) i4 hi4
  obtain ⟨d, i6, gd, hi6, od⟩ := R11 hl 3 (by omega) i5 hi5
  obtain ⟨made, hmade, emade⟩ := made5 hn ⟨m51, m52⟩
  obtain ⟨r1, r2, _⟩ := rho_nums
  have hx : x.Ok ∧ Nm x ∧ size x ≤ 10000 := ⟨(good_ok 4 x gx).1, good_nm 4 x gx, by have := size_good gx; omega⟩
  have hy : y.Ok ∧ size y ≤ 10000 := ⟨(good_ok 4 y gy).1, by have := size_good gy; omega⟩
  have hcd : ∀ s, s ∈ [c, d] → s.Ok ∧ size s ≤ 10000 := by
    intro s hs
    simp at hs
    rcases hs with rfl | rfl
    · exact ⟨(good_ok 3 s gc).1, by have := size_good gc; omega⟩
    · exact ⟨(good_ok 3 s gd).1, by have := size_good gd; omega⟩
  have j0 := J40 ht hu hx hy hmade (by' := [c, d]) (by simp) hcd
  have j1 := J41 ht hu hx hy hmade hbl hb
  have dl := R12 l
  have h5 : (0 : Int) ≤ m5 ∧ m5 < 5 := ⟨m51, m52⟩
  clear hcd hx hy hb ht hu gx gy gc gd
  obtain ⟨nx, lx⟩ := x
  obtain ⟨ny, ly⟩ := y
  obtain ⟨nc, lc⟩ := c
  obtain ⟨nd, ld⟩ := d
  have er : rows [.mk nc lc, .mk nd ld] = [[(T.str nc), (T.sl 2 (rows lc))], [(T.str nd), (T.sl 2 (rows ld))]] := by simp [rows, row_mk]
  rw [er] at j0
  simp only [Ty.name, Ty.args] at j0 j1
  unfold dh at *
  simp only [av_mk, Int.cast_ofNat_Int, Int.reduceSub] at dl ox oy oc od om5 om4
  rw [x4_0_x1]
  by_cases h4 : 0 < m4
  · simp only [dl, ox, oy, om5, om4, oc, od, h4, h5, and_self, decide_true, emade, List.length_cons, List.length_nil, show (((0 + 1 + 1 + 1 + 1 + 1 : Nat) : Int)) = 5 from rfl, Option.bind_some, AV.ptrK, AV.tK, consK, Nat.beq, cond_true, cond_false, Ent.boxK, AV.sl1K, T.slK, AV.int1K, AV.intK, T.intK, IntKind.same, nilK, AV.aggK, AV.strK, T.strK]
    exact j0
  · simp only [dl, ox, oy, om5, om4, h4, h5, and_self, decide_true, decide_false, emade, List.length_cons, List.length_nil, show (((0 + 1 + 1 + 1 + 1 + 1 : Nat) : Int)) = 5 from rfl, Option.bind_some, AV.ptrK, AV.tK, consK, Nat.beq, cond_true, cond_false, Ent.boxK, AV.sl1K, T.slK, AV.int1K, AV.intK, T.intK, IntKind.same, nilK, AV.aggK, AV.strK, T.strK]
    exact j1
theorem L400 {t u : Ty} (ht : t.Ok ∧ Nm t ∧ size t ≤ 10000) (hu : u.Ok ∧ size u ≤ 10000) {names : List Str} (hn : names.length ≤ 8) {by' : List Ty} (hbl : by'.length ≤ 8) {l : List Int} (hl : l.length ≤ 700) : ∀ (j k : Nat), j + k = by'.length → (∀ (i : Nat) t, by'[i]? = some t → i < k → t.Ok ∧ size t ≤ 10000) →
    L4_0 R (K4_0 R) (strRows names) (rows by') (ints l) t.name (rows t.args) u.name (rows u.args) (k : Int) = some (.t (.bool true), []) := by
  have aw := awake
  intro j
  induction j with
  | zero =>
    intro k hk hb
    have h1 : decide ((k : Int) < (by'.length : Int)) = false := decide_eq_false (by omega)
    rw [l4_0, rows_length, h1, cond_false]
    exact X401 ht hu hn (by omega) (fun s hs => by
      obtain ⟨i, hi⟩ := List.mem_iff_getElem?.1 hs
      exact hb i s hi (by have := (List.getElem?_eq_some_iff.1 hi).1; omega)) hl _ _
  | succ j ihj =>
    intro k hk hb
    obtain ⟨s, hs⟩ := at_of (l := by') (k := k) (by omega)
    have h16 := R16 4 (by omega) s
    have h1 : (k : Int) < (by'.length : Int) := by omega
    have h2 : (0 : Int) ≤ (k : Int) := by omega
    rw [l4_0]
    simp only [Int.cast_ofNat_Int] at h16
    simp only [rows_length, h1, h2, decide_true, cond_true, and_self, Int.toNat_natCast, nth_rows' hs, nth, av_eta, h16, Option.bind_some, AV.boolK, AV.tK, T.boolK, nilK]
    cases hc : light 4 s with
    | false => simp only [Bool.not_false, cond_true, aw, Option.bind_some, x4_0_x0]
    | true =>
      simp only [Bool.not_true, cond_false]
      rw [wrap_succ (by omega)]
      refine ihj (k + 1) (by omega) fun i r hi hik => ?_
      by_cases hie : i = k
      · subst hie
        rw [hs] at hi
        injection hi with hi
        subst hi
        obtain ⟨a1, a2⟩ := light_ok 4 s hc
        have := szl_nums.1
        exact ⟨a1, by omega⟩
      · exact hb i r hi (by omega)
theorem R4 (t u : Ty) (hnm : Nm t) (names : List Str) (by' : List Ty) (l : List Int) : R 4 [t.av, u.av, .t (.sl 1 (strRows names)), .t (.sl 2 (rows by')), .t (.sl 1 (ints l))] [] = some (.t (.bool true), []) := by
  have aw := awake
  have l9 := R9 l
  have ht := R16 5 (by omega) t
  have hu := R16 5 (by omega) u
  have e2 := szl_nums.2
  have main := L400 (t := t) (u := u) (names := names) (by' := by') (l := l)
  have okt := light_ok 5 t
  have oku := light_ok 5 u
  generalize light 5 t = bt at ht okt
  generalize light 5 u = bu at hu oku
  obtain ⟨nt, lt⟩ := t
  obtain ⟨nu, lu⟩ := u
  unfold R at *
  simp only [av_mk, Int.cast_ofNat_Int] at *
  simp only [Ty.name, Ty.args] at main
  rw [call_unfold Try.func4, e4, ht]
  simp only [Option.bind_some, AV.boolK, AV.tK, T.boolK, nilK]
  cases bt with
  | false => simp only [Bool.not_false, cond_true, aw, Option.bind_some]
  | true =>
    simp only [Bool.not_true, cond_false, hu, Option.bind_some]
    cases bu with
    | false => simp only [Bool.not_false, cond_true, aw, Option.bind_some]
    | true =>
      obtain ⟨a1, a2⟩ := okt rfl
      obtain ⟨b1, b2⟩ := oku rfl
      simp only [Bool.not_true, cond_false, strRows_length, rows_length]
      by_cases h8 : names.length ≤ 8
      rotate_left
      · have : (8 : Int) < (names.length : Int) := by omega
        simp only [this, decide_true, cond_true, aw, Option.bind_some]
      have h8' : ¬ (8 : Int) < (names.length : Int) := by omega
      simp only [h8', decide_false, cond_false]
      by_cases hb8 : by'.length ≤ 8
      rotate_left
      · have : (8 : Int) < (by'.length : Int) := by omega
        simp only [this, decide_true, cond_true, aw, Option.bind_some]
      have hb8' : ¬ (8 : Int) < (by'.length : Int) := by omega
      simp only [hb8', decide_false, cond_false, l9, Option.bind_some]
      by_cases hl : l.length ≤ 700
      rotate_left
      · have : ¬ ((l.length : Int) ≤ 700) := by omega
        simp only [this, decide_false, Bool.not_false, cond_true, aw, Option.bind_some]
      have hl' : ((l.length : Int) ≤ 700) := by omega
      simp only [hl', decide_true, Bool.not_true, cond_false]
      exact main ⟨a1, hnm, by omega⟩ ⟨b1, by omega⟩ h8 hb8 hl by'.length 0 (by omega) (fun i s hi hik => by omega)
end Go.AS.Q4
