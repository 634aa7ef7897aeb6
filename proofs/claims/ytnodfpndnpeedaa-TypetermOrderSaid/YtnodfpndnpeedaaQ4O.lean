/- AS, the seat of law 4: the law of the order. -/
import Derived.Test.YtnodfpndnpeedaaQ4D
import Derived.Test.YtnodfpndnpeedaaQ4L3
namespace Go.AS.Q4
open Go.Proofs
set_option linter.all false

/- What three made types owe to the law. -/
set_option maxRecDepth 100000 in
theorem R3 (l m n : List Int) : R 3 [.t (.sl 1 (ints l)), .t (.sl 1 (ints m)), .t (.sl 1 (ints n))] [] = some (.t (.bool true), []) := by
  have aw := awake
  have l9 := R9 l
  have m9 := R9 m
  have n9 := R9 n
  unfold R at aw l9 m9 n9 ⊢
  rw [call_unfold Try.func3, e3, l9]
  simp only [Option.bind_some, AV.boolK, AV.tK, T.boolK, nilK]
  by_cases hl : l.length ≤ 700
  rotate_left
  · have : ¬ ((l.length : Int) ≤ 700) := by omega
    simp only [this, decide_false, Bool.not_false, cond_true, aw, Option.bind_some, AV.boolK, AV.tK, T.boolK, nilK]
  have h1 : ((l.length : Int) ≤ 700) := by omega
  simp only [h1, decide_true, Bool.not_true, cond_false, m9, Option.bind_some, AV.boolK, AV.tK, T.boolK, nilK]
  by_cases hm : m.length ≤ 700
  rotate_left
  · have : ¬ ((m.length : Int) ≤ 700) := by omega
    simp only [this, decide_false, Bool.not_false, cond_true, aw, Option.bind_some, AV.boolK, AV.tK, T.boolK, nilK]
  have h2 : ((m.length : Int) ≤ 700) := by omega
  simp only [h2, decide_true, Bool.not_true, cond_false, n9, Option.bind_some, AV.boolK, AV.tK, T.boolK, nilK]
  by_cases hn : n.length ≤ 700
  rotate_left
  · have : ¬ ((n.length : Int) ≤ 700) := by omega
    simp only [this, decide_false, Bool.not_false, cond_true, aw, Option.bind_some, AV.boolK, AV.tK, T.boolK, nilK]
  have h3 : ((n.length : Int) ≤ 700) := by omega
  simp only [h3, decide_true, Bool.not_true, cond_false]
  -- the three types
  obtain ⟨a, i1, ga, _, oa⟩ := R11 hl 4 (by omega) 0 (by omega)
  obtain ⟨b, i2, gb, _, ob⟩ := R11 hm 4 (by omega) 0 (by omega)
  obtain ⟨c, i3, gc, _, oc⟩ := R11 hn 4 (by omega) 0 (by omega)
  obtain ⟨oka, cla, lna⟩ := good_ok 4 a ga
  obtain ⟨okb, clb, lnb⟩ := good_ok 4 b gb
  obtain ⟨okc, clc, lnc⟩ := good_ok 4 c gc
  have dl := R12 l
  have dm := R12 m
  have dn := R12 n
  have cab := R13 a oka b
  have cbc := R13 b okb c
  have cac := R13 a oka c
  have cba := R13 b okb a
  have sab := R14 a oka b
  have ta := R15 a oka (by omega)
  have tb := R15 b okb (by omega)
  have O := ord_T
  have q1 : cmp b a = - cmp a b := O.anti b a
  have q2 : (cmp a b == 0) = same a b := by
    have e1 := O.eq a b
    have e2 := same_eq a b
    cases hs : same a b with
    | true => rw [beq_iff_eq]; exact e1.2 (e2.1 hs)
    | false =>
      rw [beq_eq_false_iff_ne]
      intro h0
      rw [e2.2 (e1.1 h0)] at hs
      cases hs
  have q3 : (cmp a b == 0) = (text a == text b) := by
    have e1 := O.eq a b
    cases hs : (text a == text b) with
    | true => rw [beq_iff_eq] at hs ⊢; exact e1.2 (text_inj cla clb hs)
    | false =>
      rw [beq_eq_false_iff_ne] at hs ⊢
      intro h0
      exact hs (by rw [e1.1 h0])
  have q4 := O.range a b
  have q5 := O.trans a b c
  have q6 := fun h1 h2 => O.strict (a := a) (b := b) (c := c) h1 h2
  generalize cmp a b = x at *
  generalize cmp b c = y at *
  generalize cmp a c = z at *
  generalize cmp b a = x' at *
  generalize same a b = sm at *
  generalize text a = sa at *
  generalize text b = sb at *
  obtain ⟨na, la⟩ := a
  obtain ⟨nb, lb⟩ := b
  obtain ⟨nc, lc⟩ := c
  unfold R dh at *
  rw [av_mk] at *
  rw [av_mk] at *
  simp only [Int.cast_ofNat_Int, Int.reduceSub] at oa ob oc dl dm dn
  have w1 : IntKind.wrap .i64 (0 - x') = x := by rw [wrap_in (by omega)]; omega
  simp only [dl, dm, dn, oa, ob, oc, cab, cbc, cac, cba, sab, ta, tb, Option.bind_some, AV.ptrK, AV.boolK, AV.tK, T.boolK, consK, Nat.beq, cond_true, cond_false, Ent.boxK, AV.sl1K, T.slK, AV.int1K, AV.intK, T.intK, IntKind.same, nilK, AV.aggK, AV.strK, T.strK, w1, q2, q3, beq_self_eq_true, Bool.not_true, aw]
  have r1 : ¬ x < -1 := by omega
  have r2 : ¬ 1 < x := by omega
  have e3 : (sm == (sa == sb)) = true := by rw [← q2, ← q3]; simp
  simp only [e3, r1, r2, decide_false, cond_false, Bool.not_true]
  by_cases hx : 0 < x
  · simp only [hx, decide_true, cond_true]
  · by_cases hy : 0 < y
    · simp only [hx, hy, decide_true, decide_false, cond_true, cond_false]
    · have hz := q5 (by omega) (by omega)
      by_cases hz0 : z < 0
      · simp only [hx, hy, hz, hz0, decide_true, decide_false, cond_true, cond_false]
      · obtain ⟨x0, y0⟩ := q6 (by omega) (by omega) (by omega)
        have e1 : sm = true := by rw [← q2, beq_iff_eq]; exact x0
        have e2 : (y == 0) = true := by rw [beq_iff_eq]; exact y0
        simp only [hx, hy, hz, hz0, e1, e2, decide_true, decide_false, cond_true, cond_false]
end Go.AS.Q4
