/- AS, part 20: a function's end. -/
import Derived.Test.YtgihgeppdllnmaaAs19
namespace Go.AS
open Go.RowKit
set_option linter.all false

section
variable {base : Nat} {wb w : World} {cv : CV} {m : Nat} {esc : List Nat}
theorem pubL_ok {X h} (H : HRel base wb w X cv h) {val : Value} {v v1 : AV} {h1 : Heap} (hv : AR3 w X cv h val v) (hp : pubL m esc h v = some (v1, h1)) : ∃ X1 wr, HRel base wb w X1 cv h1 ∧ Go1 wr w X cv h w X1 cv h1 ∧ AR1 w X1 cv h1 val v1 := by
  cases v with
  | rowp kk ver n =>
    have stay : some ((.rowp kk ver n : AV), h) = some (v1, h1) → ∃ X1 wr, HRel base wb w X1 cv h1 ∧ Go1 wr w X cv h w X1 cv h1 ∧ AR1 w X1 cv h1 val v1 := by
      intro hp
      injection hp with hp; injection hp with e1 e2
      subst e1 e2
      exact ⟨X, [], H, .refl .., hv⟩
    simp only [pubL] at hp
    cases hb1 : Nat.blt kk m with
    | true => rw [hb1] at hp; exact stay hp
    | false =>
      cases hb2 : mem esc kk with
      | true => rw [hb1, hb2] at hp; exact stay hp
      | false =>
        rw [hb1, hb2] at hp
        simp only [cond_false] at hp
        split at hp
        · rename_i x h2 w2 hs
          injection hp with hp; injection hp with e1 e2
          subst e1 e2
          obtain ⟨⟨X1, H1, G1, t1⟩, _⟩ := strip0_ok H (show AR1 w X cv h val (.rowp kk ver n) from hv) hs
          exact ⟨X1, w2, H1, G1, t1⟩
        · cases hp
  | ptr kk off =>
    have stay : some ((.ptr kk off : AV), h) = some (v1, h1) → ∃ X1 wr, HRel base wb w X1 cv h1 ∧ Go1 wr w X cv h w X1 cv h1 ∧ AR1 w X1 cv h1 val v1 := by
      intro hp
      injection hp with hp; injection hp with e1 e2
      subst e1 e2
      exact ⟨X, [], H, .refl .., hv⟩
    simp only [pubL] at hp
    cases hb1 : Nat.blt kk m with
    | true => rw [hb1] at hp; exact stay hp
    | false =>
      cases hb2 : mem esc kk with
      | true => rw [hb1, hb2] at hp; exact stay hp
      | false =>
        rw [hb1, hb2] at hp
        simp only [cond_false] at hp
        split at hp
        · rename_i x h2 w2 hs
          injection hp with hp; injection hp with e1 e2
          subst e1 e2
          obtain ⟨X1, H1, G1, t1⟩ := strip1_ok H (show AR1 w X cv h val (.ptr kk off) from hv) hs
          exact ⟨X1, w2, H1, G1, t1⟩
        · cases hp
  | t x =>
    simp only [pubL] at hp
    injection hp with hp; injection hp with e1 e2
    subst e1 e2
    exact ⟨X, [], H, .refl .., hv⟩
  | nils e s =>
    simp only [pubL] at hp
    injection hp with hp; injection hp with e1 e2
    subst e1 e2
    have hval : val = .slice none 0 0 := hv
    subst hval
    exact ⟨X, [], H, .refl .., TR.nil_sl⟩
  | mapp kk =>
    have stay : some ((.mapp kk : AV), h) = some (v1, h1) → ∃ X1 wr, HRel base wb w X1 cv h1 ∧ Go1 wr w X cv h w X1 cv h1 ∧ AR1 w X1 cv h1 val v1 := by
      intro hp
      injection hp with hp; injection hp with e1 e2
      subst e1 e2
      exact ⟨X, [], H, .refl .., hv⟩
    simp only [pubL] at hp
    cases hb1 : Nat.blt kk m with
    | true => rw [hb1] at hp; exact stay hp
    | false =>
      cases hb2 : mem esc kk with
      | true => rw [hb1, hb2] at hp; exact stay hp
      | false =>
        rw [hb1, hb2] at hp
        cases hp
  | _ => cases hp
theorem pubLs_ok : ∀ {vals : List Value} {l l1 : List AV} {X h h1} (H : HRel base wb w X cv h) (hv : All2 (AR1 w X cv h) vals l) (hp : pubLs m esc h l = some (l1, h1)), ∃ X1 wr, HRel base wb w X1 cv h1 ∧ Go1 wr w X cv h w X1 cv h1 ∧ All2 (AR1 w X1 cv h1) vals l1
  | [], [], l1, X, h, h1, H, hv, hp => by
    simp only [pubLs] at hp
    injection hp with hp; injection hp with e1 e2
    subst e1 e2
    exact ⟨X, [], H, .refl .., trivial⟩
  | val :: vals, v :: l, l1, X, h, h1, H, hv, hp => by
    simp only [pubLs] at hp
    split at hp
    · cases hp
    · rename_i va ha h2
      split at hp
      · cases hp
      · rename_i lb hb h3
        injection hp with hp; injection hp with e1 e2
        subst e1 e2
        obtain ⟨X1, w1, H1, G1, a1⟩ := pubL_ok H hv.1.to2.to3 h2
        obtain ⟨X2, w2, H2, G2, a2⟩ := pubLs_ok H1 (hv.2.imp fun _ _ => AR1.mono (G1.keep H) G1) h3
        exact ⟨X2, _, H2, G1.trans G2, a1.mono (G2.keep H1) G2, a2⟩
theorem pubV_ok {X h} (H : HRel base wb w X cv h) {val : Value} {v v1 : AV} {h1 : Heap} (hv : AR3 w X cv h val v) (hp : pubV m esc h v = some (v1, h1)) : ∃ X1 wr, HRel base wb w X1 cv h1 ∧ Go1 wr w X cv h w X1 cv h1 ∧ AR2 w X1 cv h1 val v1 := by
  unfold pubV at hp
  split at hp
  · split at hp
    · cases hp
    · rename_i l1 ha h2
      injection hp with hp; injection hp with e1 e2
      subst e1 e2
      obtain ⟨cs, rfl, hcs⟩ := hv
      obtain ⟨X1, w1, H1, G1, a1⟩ := pubLs_ok H hcs h2
      exact ⟨X1, w1, H1, G1, cs, rfl, a1⟩
  · obtain ⟨X1, w1, H1, G1, a1⟩ := pubL_ok H hv hp
    exact ⟨X1, w1, H1, G1, a1.to2⟩
theorem pubVs_ok : ∀ {vals : List Value} {l l1 : List AV} {X h h1} (H : HRel base wb w X cv h) (hv : All2 (AR3 w X cv h) vals l) (hp : pubVs m esc h l = some (l1, h1)), ∃ X1 wr, HRel base wb w X1 cv h1 ∧ Go1 wr w X cv h w X1 cv h1 ∧ All2 (AR2 w X1 cv h1) vals l1
  | [], [], l1, X, h, h1, H, hv, hp => by
    simp only [pubVs] at hp
    injection hp with hp; injection hp with e1 e2
    subst e1 e2
    exact ⟨X, [], H, .refl .., trivial⟩
  | val :: vals, v :: l, l1, X, h, h1, H, hv, hp => by
    simp only [pubVs] at hp
    split at hp
    · cases hp
    · rename_i va ha h2
      split at hp
      · cases hp
      · rename_i lb hb h3
        injection hp with hp; injection hp with e1 e2
        subst e1 e2
        obtain ⟨X1, w1, H1, G1, a1⟩ := pubV_ok H hv.1 h2
        obtain ⟨X2, w2, H2, G2, a2⟩ := pubVs_ok H1 (hv.2.imp fun _ _ => AR3.mono (G1.keep H) G1) h3
        exact ⟨X2, _, H2, G1.trans G2, a1.mono (G2.keep H1) G2, a2⟩
theorem pubE_ok {X h} (H : HRel base wb w X cv h) {kk : Nat} {h1 : Heap} (hp : pubE m esc h kk = some h1) : ∃ X1 wr, HRel base wb w X1 cv h1 ∧ Go1 wr w X cv h w X1 cv h1 := by
  unfold pubE at hp
  split at hp
  · rename_i sh cells hl
    split at hp
    · cases hp
    · rename_i c1 h2 hc
      split at hp
      · rename_i sh2 cells2 hl1
        injection hp with hp
        subst hp
        obtain ⟨b, arr, t, r1, r2, r3, r4⟩ := H.ent kk _ hl
        obtain ⟨X1, wr1, H1, G1, a1⟩ := pubLs_ok H r4 hc
        obtain ⟨b', arr', t', s1, s2, s3, s4⟩ := H1.ent kk _ hl1
        rw [r1] at s1
        injection s1 with s1; injection s1 with s1; injection s1 with s1
        subst s1
        have hnew : ∀ b', mblk (setCV cv kk (cv kk)) kk (.box sh c1) = some b' → mblk cv kk (.box sh2 cells2) = some b' := by
          intro b' hb
          rw [setCV_self] at hb
          exact hb
        have G2 := H1.putGo (e' := .box sh c1) (c := cv kk) hl1 trivial (Nat.le_refl _) (fun _ _ _ => rfl) (fun _ => rfl) (fun _ => rfl) (fun b' hb => .inl (hnew b' hb))
        have H2 := H1.put (e' := .box sh c1) (c := cv kk) hl1 trivial (Nat.le_refl _) (fun _ _ _ => rfl) ⟨rfl, rfl, rfl⟩ (fun _ => rfl) (fun _ => rfl) (fun b' hb => .inl (hnew b' hb)) (by
          rw [setCV_self] at G2 ⊢
          exact ⟨b, arr, t, r1, r2, .inl s3, a1.imp fun _ _ => AR1.mono (G2.keep H1) G2⟩)
        rw [setCV_self] at H2 G2
        exact ⟨_, _, H2, G1.trans G2⟩
      · cases hp
  · injection hp with hp
    subst hp
    exact ⟨X, [], H, .refl ..⟩
  · injection hp with hp
    subst hp
    exact ⟨X, [], H, .refl ..⟩
  · cases hp
theorem pubEs_ok : ∀ {l : List Nat} {X h h1} (H : HRel base wb w X cv h) (hp : pubEs m esc h l = some h1), ∃ X1 wr, HRel base wb w X1 cv h1 ∧ Go1 wr w X cv h w X1 cv h1
  | [], X, h, h1, H, hp => by
    simp only [pubEs] at hp
    injection hp with hp
    subst hp
    exact ⟨X, [], H, .refl ..⟩
  | kk :: l, X, h, h1, H, hp => by
    simp only [pubEs] at hp
    split at hp
    · cases hp
    · rename_i h2 he
      obtain ⟨X1, w1, H1, G1⟩ := pubE_ok H he
      obtain ⟨X2, w2, H2, G2⟩ := pubEs_ok H1 hp
      exact ⟨X2, _, H2, G1.trans G2⟩
end

/-! ### The heap that goes back -/
def cvF (cv : CV) (m : Nat) (esc : List Nat) : CV := fun j => if j < m then cv j else cv (nth 0 esc (j - m))
def InK (m : Nat) (esc : List Nat) (kk : Nat) : Prop := kk < m ∨ kk ∈ esc
theorem endKey_lt {m : Nat} {esc : List Nat} {kk : Nat} (h : kk < m) : endKey m esc kk = kk := by
  unfold endKey
  have : Nat.blt kk m = true := by simpa [Nat.blt_eq] using h
  rw [this]; rfl
theorem endKey_ge {m : Nat} {esc : List Nat} {kk : Nat} (h : ¬ kk < m) : endKey m esc kk = m + idx esc kk := by
  unfold endKey
  have : Nat.blt kk m = false := by
    cases hb : Nat.blt kk m with
    | true => exact absurd (by simpa [Nat.blt_eq] using hb) h
    | false => rfl
  rw [this]; rfl
theorem cvF_at {cv : CV} {m : Nat} {esc : List Nat} {kk : Nat} (h : InK m esc kk) : cvF cv m esc (endKey m esc kk) = cv kk := by
  unfold cvF
  by_cases hk : kk < m
  · rw [endKey_lt hk, if_pos hk]
  · have hm := h.resolve_left hk
    rw [endKey_ge hk, if_neg (by omega), Nat.add_sub_cancel_left, nth_get, idx_get hm]
    rfl
theorem endKey_inj {m : Nat} {esc : List Nat} {a b : Nat} (ha : InK m esc a) (hb : InK m esc b) (h : endKey m esc a = endKey m esc b) : a = b := by
  by_cases h1 : a < m <;> by_cases h2 : b < m
  · rwa [endKey_lt h1, endKey_lt h2] at h
  · rw [endKey_lt h1, endKey_ge h2] at h; omega
  · rw [endKey_ge h1, endKey_lt h2] at h; omega
  · rw [endKey_ge h1, endKey_ge h2] at h
    have e1 := idx_get (ha.resolve_left h1)
    have e2 := idx_get (hb.resolve_left h2)
    rw [show idx esc a = idx esc b by omega, e2] at e1
    injection e1 with e1
    exact e1.symm
/-- Which entries go back. -/
def GoesB (m : Nat) (esc : List Nat) : Ent → Prop
  | .box _ cells => pubBs m esc cells = true
  | .row _ _ _ _ => True
  | .map _ => True
  | _ => False
theorem endHeap_ok {m : Nat} {esc : List Nat} {h : Heap} : ∀ {l : List Nat} {hF : Heap}, (∀ k, k ∈ l → InK m esc k) → endHeap m esc h l = some hF →
    (∀ k, k ∈ l → ∃ e, look h k = some e ∧ GoesB m esc e ∧ look hF (endKey m esc k) = some (endE m esc h e)) ∧ (∀ j e', look hF j = some e' → ∃ k e, k ∈ l ∧ j = endKey m esc k ∧ look h k = some e ∧ GoesB m esc e ∧ e' = endE m esc h e)
  | [], hF, _, he => by
    simp only [endHeap] at he
    injection he with he
    subst he
    exact ⟨fun k hk => absurd hk (by simp), fun j e' hj => by simp [look, asc] at hj⟩
  | kk :: l, hF, hin, he => by
    have main : ∀ e h2, look h kk = some e → GoesB m esc e → endHeap m esc h l = some h2 → some ((endKey m esc kk, endE m esc h e) :: h2) = some hF →
        (∀ k, k ∈ kk :: l → ∃ e, look h k = some e ∧ GoesB m esc e ∧ look hF (endKey m esc k) = some (endE m esc h e)) ∧ (∀ j e', look hF j = some e' → ∃ k e, k ∈ kk :: l ∧ j = endKey m esc k ∧ look h k = some e ∧ GoesB m esc e ∧ e' = endE m esc h e) := by
      intro e h2 hl hg hrec hF'
      injection hF' with hF'
      subst hF'
      obtain ⟨q1, q2⟩ := endHeap_ok (fun k hk => hin k (by simp [hk])) hrec
      refine ⟨fun k hk => ?_, fun j e' hj => ?_⟩
      · by_cases hkk : kk = k
        · subst hkk
          exact ⟨e, hl, hg, by simp [look, asc]⟩
        · have hk' : k ∈ l := by
            rcases List.mem_cons.1 hk with h | h
            · exact absurd h.symm hkk
            · exact h
          obtain ⟨e1, g1, g2, g3⟩ := q1 k hk'
          refine ⟨e1, g1, g2, ?_⟩
          have hb : Nat.beq (endKey m esc kk) (endKey m esc k) = false := by
            cases hb : Nat.beq (endKey m esc kk) (endKey m esc k) with
            | true => exact absurd (endKey_inj (hin kk (by simp)) (hin k hk) (beq_eq hb)) hkk
            | false => rfl
          simp only [look, asc, hb, cond_false]
          exact g3
      · simp only [look, asc] at hj
        cases hb : Nat.beq (endKey m esc kk) j with
        | true =>
          rw [hb] at hj
          injection hj with hj
          exact ⟨kk, e, by simp, (beq_eq hb).symm, hl, hg, hj.symm⟩
        | false =>
          rw [hb] at hj
          obtain ⟨k, e1, g1, g2⟩ := q2 j e' hj
          exact ⟨k, e1, by simp [g1], g2⟩
    simp only [endHeap] at he
    split at he
    · rename_i sh cells hl
      obtain ⟨hb, he⟩ := cond_some he
      split at he
      · cases he
      · rename_i h2 hrec
        exact main _ _ hl hb hrec he
    · rename_i v s t rows hl
      split at he
      · cases he
      · rename_i h2 hrec
        exact main _ _ hl trivial hrec he
    · rename_i ml hl
      split at he
      · cases he
      · rename_i h2 hrec
        exact main _ _ hl trivial hrec he
    · cases he
theorem mem_range : ∀ {i n k : Nat}, k ∈ rangeN i n ↔ i ≤ k ∧ k < i + n
  | i, 0, k => by simp only [rangeN, List.not_mem_nil, false_iff]; omega
  | i, n + 1, k => by simp only [rangeN, List.mem_cons, mem_range (i := i + 1) (n := n)]; omega
theorem endE_ver {m esc h e} (hg : GoesB m esc e) (hv : rowVer (endE m esc h e) = some 0) : rowVer e = some 0 := by
  cases e with
  | row v s t rows =>
    simp only [endE, rowVer, beq_zero] at hv ⊢
    injection hv with hv
    by_cases h0 : v = 0
    · rw [h0]
    · rw [if_neg h0] at hv; cases hv
  | box _ _ => cases hv
  | ibox _ => exact hg.elim
  | map _ => cases hv
  | irow _ _ _ => exact hg.elim
theorem endE_box {m esc h e} : isBox (endE m esc h e) = isBox e := by cases e <;> rfl
theorem mblk_end {cv cv' : CV} {k k' : Nat} {m esc h e} (hc : cv' k' = cv k) : mblk cv' k' (endE m esc h e) = mblk cv k e := by cases e <;> simp [endE, mblk, hc]
theorem pubBs_at {m : Nat} {esc : List Nat} : ∀ {l : List AV}, pubBs m esc l = true → ∀ v, v ∈ l → pubB m esc v = true
  | a :: l, h, v, hv => by
    simp only [pubBs] at h
    cases hb : pubB m esc a with
    | true =>
      rw [hb] at h
      rcases List.mem_cons.1 hv with rfl | hv
      · exact hb
      · exact pubBs_at h v hv
    | false => rw [hb] at h; cases h
theorem pubVBs_at {m : Nat} {esc : List Nat} : ∀ {l : List AV}, pubVBs m esc l = true → ∀ v, v ∈ l → pubVB m esc v = true
  | a :: l, h, v, hv => by
    simp only [pubVBs] at h
    cases hb : pubVB m esc a with
    | true =>
      rw [hb] at h
      rcases List.mem_cons.1 hv with rfl | hv
      · exact hb
      · exact pubVBs_at h v hv
    | false => rw [hb] at h; cases h

section
variable {base : Nat} {wb w : World} {X : Nat → Prop} {cv : CV} {h hF : Heap} {m : Nat} {esc : List Nat}
theorem end_ok (H : HRel base wb w X cv h) (hF1 : endHeap m esc h (rangeN 0 m ++ esc) = some hF) :
    HRel base wb w X (cvF cv m esc) hF ∧ (∀ val v, AR0 w X cv h val v → pubB m esc v = true → AR0 w X (cvF cv m esc) hF val (endL m esc h v)) ∧
    (∀ k, k < m → ∃ e, look h k = some e ∧ GoesB m esc e ∧ look hF k = some (endE m esc h e)) ∧ (∀ b, Mof hF (cvF cv m esc) b → Mof h cv b) := by
  have hin : ∀ k, k ∈ rangeN 0 m ++ esc → InK m esc k := by
    intro k hk
    rcases List.mem_append.1 hk with hk | hk
    · exact .inl (by have := mem_range.1 hk; omega)
    · exact .inr hk
  have hin' : ∀ k, InK m esc k → k ∈ rangeN 0 m ++ esc := by
    intro k hk
    rcases hk with hk | hk
    · exact List.mem_append_left _ (mem_range.2 (by omega))
    · exact List.mem_append_right _ hk
  obtain ⟨q1, q2⟩ := endHeap_ok hin hF1
  have pubIn : ∀ kk, cond (Nat.blt kk m) true (mem esc kk) = true → InK m esc kk := by
    intro kk hp
    cases hb : Nat.blt kk m with
    | true => exact .inl (by simpa [Nat.blt_eq] using hb)
    | false => rw [hb] at hp; exact .inr ((mem_iff _ _).1 hp)
  have val0 : ∀ val v, AR0 w X cv h val v → pubB m esc v = true → AR0 w X (cvF cv m esc) hF val (endL m esc h v) := by
    intro val v hv hp
    cases v with
    | t x => exact hv
    | rowp kk ver n =>
      have hk := pubIn kk hp
      obtain ⟨hsl, e, v', hl, hv', hle, hcut⟩ := hv
      obtain ⟨e1, g1, g2, g3⟩ := q1 kk (hin' kk hk)
      rw [hl] at g1
      injection g1 with g1
      subst g1
      cases e with
      | row v1 s t rows =>
        simp only [rowVer] at hv'
        injection hv' with hv'
        subst hv'
        simp only [endL, hl]
        cases hb : Nat.beq ver v1 with
        | false => trivial
        | true =>
          have hvv := beq_eq hb
          subst hvv
          exact ⟨hsl, _, _, g3, rfl, Nat.le_refl _, fun _ => by rw [cvF_at hk]; exact hcut rfl⟩
      | box _ _ => cases hv'
      | ibox _ => exact g2.elim
      | map _ => cases hv'
      | irow _ _ _ => exact g2.elim
    | ptr kk off =>
      have hk := pubIn kk hp
      obtain ⟨e, b, hl, hb, hc, rfl⟩ := hv
      obtain ⟨e1, g1, g2, g3⟩ := q1 kk (hin' kk hk)
      rw [hl] at g1
      injection g1 with g1
      subst g1
      exact ⟨_, b, g3, by rw [endE_box]; exact hb, by rw [cvF_at hk]; exact hc, rfl⟩
    | mapp kk =>
      have hk := pubIn kk hp
      obtain ⟨ml, b, hl, hc, rfl⟩ := hv
      obtain ⟨e1, g1, g2, g3⟩ := q1 kk (hin' kk hk)
      rw [hl] at g1
      injection g1 with g1
      subst g1
      exact ⟨ml, b, g3, by rw [cvF_at hk]; exact hc, rfl⟩
    | _ => cases hp
  refine ⟨⟨H.below, H.bsz, H.xge, fun j e' hj => ?_, fun j j' e e' b hj hj' hb hb' => ?_⟩, val0, fun k hk => ?_, fun b hm => ?_⟩
  · obtain ⟨k, e, g1, rfl, g3, g4, rfl⟩ := q2 j e' hj
    have hk := hin k g1
    have hE := H.ent k e g3
    cases e with
    | box sh cells =>
      obtain ⟨b, arr, t, r1, r2, r3, r4⟩ := hE
      refine ⟨b, arr, t, by rw [cvF_at hk]; exact r1, r2, r3, ?_⟩
      have hlen := r4.length
      refine All2.of_get (by simp; simpa using hlen) fun i x y hx hy => ?_
      rw [List.getElem?_map] at hy
      cases hc : cells[i]? with
      | none => rw [hc] at hy; cases hy
      | some y0 =>
        rw [hc] at hy
        injection hy with hy
        subst hy
        have hp := pubBs_at g4 y0 (List.mem_of_getElem? hc)
        have h1 := All2.get i _ _ r4 hx hc
        have h0 : AR0 w X cv h x y0 := by cases y0 <;> first | exact h1 | cases hp
        exact (val0 x y0 h0 hp).to1
    | row v s t rows =>
      obtain ⟨xs, o1, o2, o3, o4⟩ := hE
      exact ⟨xs, by rw [cvF_at hk]; exact o1, fun b hb => o2 b (by rw [cvF_at hk] at hb; exact hb), o3, o4⟩
    | ibox _ => exact g4.elim
    | map ml =>
      obtain ⟨b, es, cl, r1, r2, r3, r4⟩ := hE
      exact ⟨b, es, cl, by rw [cvF_at hk]; exact r1, r2, r3, r4⟩
    | irow _ _ _ => exact g4.elim
  · obtain ⟨k, e0, g1, rfl, g3, g4, rfl⟩ := q2 j e hj
    obtain ⟨k', e0', g1', rfl, g3', g4', rfl⟩ := q2 j' e' hj'
    rw [mblk_end (cvF_at (hin k g1))] at hb
    rw [mblk_end (cvF_at (hin k' g1'))] at hb'
    rw [H.sep k k' e0 e0' b g3 g3' hb hb']
  · obtain ⟨e, g1, g2, g3⟩ := q1 k (hin' k (.inl hk))
    rw [endKey_lt hk] at g3
    exact ⟨e, g1, g2, g3⟩
  · obtain ⟨j, e', hj, hb⟩ := hm
    obtain ⟨k, e, g1, rfl, g3, g4, rfl⟩ := q2 j e' hj
    rw [mblk_end (cvF_at (hin k g1))] at hb
    exact ⟨k, e, g3, hb⟩
end

section
variable {P : Program} {cx : Cx}
def oneRes (tmps : Array Value) (x : ResultVar) : Sem Value := match x with
  | .tmp t => pure (tmps.getD t undef)
  | .cell a t => do loadVar t (← asAddr (tmps.getD a undef))
theorem run_results {fn : Func} {tmps : Array Value} {w : World} {vals : List Value} (h : (fn.results.toList.mapM (oneRes tmps)).run P w = .ok vals w) : (results fn tmps).run P w = .ok (if h : vals.toArray.size = 1 then vals.toArray[0] else .tuple vals.toArray) w := by
  have h2 : (fn.results.mapM (oneRes tmps)).run P w = .ok vals.toArray w := by
    rw [Array.mapM_eq_mapM_toList]
    simp [h]
  have h3 : results fn tmps = (do let vs ← fn.results.mapM (oneRes tmps); pure (if h : vs.size = 1 then vs[0] else .tuple vs)) := by
    unfold results
    congr 1
  rw [h3]
  simp only [Sem.run_bind, h2, Result.andThen_ok, Sem.run_pure]
theorem resVs_ok (hcx : CxOk P cx) {base wb w X cv} {s : St} {tmps : Array Value} (H : HRel base wb w X cv s.heap) (hs : All2 (AR3 w X cv s.heap) tmps.toList s.slots) : ∀ {l : List ResultVar} {vs : List AV}, resVs cx s l = some vs →
    ∃ vals, (l.mapM (oneRes tmps)).run P w = .ok vals w ∧ All2 (AR3 w X cv s.heap) vals vs
  | [], vs, h => by
    simp only [resVs] at h
    injection h with h
    subst h
    exact ⟨[], rfl, trivial⟩
  | x :: l, vs, h => by
    simp only [resVs] at h
    split at h
    · cases h
    · rename_i v h1
      split at h
      · cases h
      · rename_i vs' h2
        injection h with h
        subst h
        obtain ⟨vals, g1, g2⟩ := resVs_ok hcx H hs h2
        have hx : ∀ t, AR3 w X cv s.heap (tmps.getD t undef) (nth .dead s.slots t) := by
          intro t
          have := All2.nth (R := AR3 w X cv s.heap) undef .dead t hs trivial
          simpa [Array.getD_eq_getD_getElem?] using this
        cases x with
        | tmp t =>
          simp only [resV] at h1
          injection h1 with h1
          subst h1
          exact ⟨tmps.getD t undef :: vals, by simp only [List.mapM_cons, oneRes, Sem.run_bind, Sem.run_pure, Result.andThen_ok, g1], hx t, g2⟩
        | cell c t =>
          simp only [resV] at h1
          obtain ⟨v', rd, val, k1, k2, k3⟩ := loadK_ok hcx H (hx c) h1
          injection k1 with k1
          subst k1
          refine ⟨val :: vals, ?_, k3, g2⟩
          have k4 : (oneRes tmps (.cell c t)).run P w = .ok val w := by
            show (asAddr (tmps.getD c undef) >>= fun q => loadVar t q).run P w = _
            revert k2
            generalize tmps.getD c undef = pv
            intro k2
            cases pv with
            | pointer q => cases q with
              | none => simp [Instr.loadAt, Instr.sureAddr, stuck] at k2
              | some q =>
                simp only [asAddr, Sem.run_bind, Sem.run_pure, Result.andThen_ok]
                simpa [Instr.loadAt, Instr.sureAddr] using k2
            | _ => simp [Instr.loadAt, Instr.sureAddr, stuck] at k2
          simp only [List.mapM_cons, Sem.run_bind, k4, Sem.run_pure, Result.andThen_ok, g1]
theorem seqB_ok : ∀ {h : Heap} {i : Nat}, seqB i h = true → ∀ k e, look h k = some e → i ≤ k ∧ k < i + h.length
  | (k0, e0) :: h, i, hs, k, e, hl => by
    simp only [seqB] at hs
    cases hb : Nat.beq k0 i with
    | false => rw [hb] at hs; cases hs
    | true =>
      rw [hb] at hs
      have hk := beq_eq hb
      simp only [look, asc] at hl
      cases hb2 : Nat.beq k0 k with
      | true => have := beq_eq hb2; simp; omega
      | false =>
        rw [hb2] at hl
        have := seqB_ok hs k e hl
        simp
        omega
theorem finish_ok (hcx : CxOk P cx) {S : Start} {m : Nat} {esc : List Nat} (hm : ∀ k e, look S.h k = some e → k < m) {fn : Func} {s : St} {a : Act} {w : World} {p : Res} (hi : Inv S a w s) (hf : finish cx m esc fn s = some p) :
    ∃ v, (results fn a.tmps).run P w = .ok v w ∧ ∃ X' cv', HRel S.base S.wb w X' cv' p.2 ∧ AR3 w X' cv' p.2 v p.1 ∧ GoF S.w S.X S.cv S.h w X' cv' p.2 := by
  obtain ⟨_, X, cv, H, hs, pr⟩ := hi
  unfold finish at hf
  split at hf
  · cases hf
  · rename_i vs h1
    split at hf
    · cases hf
    · rename_i vs1 ha h2
      split at hf
      · cases hf
      · rename_i hb h3
        split at hf
        · cases hf
        · rename_i hc h4
          obtain ⟨hpub, hf⟩ := cond_some hf
          obtain ⟨vals, r1, r2⟩ := resVs_ok (P := P) hcx H hs h1
          have hres := run_results (fn := fn) r1
          obtain ⟨X1, w1, H1, G1, a1⟩ := pubVs_ok H r2 h2
          obtain ⟨X2, w2, H2, G2⟩ := pubEs_ok H1 h3
          have a2 := a1.imp fun _ _ => AR2.mono (G2.keep H1) G2
          obtain ⟨H3, q1, q2, q3⟩ := end_ok H2 h4
          have pr2 := (pr.go G1).go G2
          have hgo : ∀ (v : AV), GoF S.w S.X S.cv S.h w X2 (cvF cv m esc) hc := fun _ => by
            refine ⟨pr2.size, pr2.blk, pr2.xold, pr2.xkeep, fun b hb hmo => pr2.own b hb (q3 b hmo), fun k e hl => ?_⟩
            obtain ⟨e', g1, g2, g3⟩ := pr2.ent k e hl
            have hk := hm k e hl
            obtain ⟨e'', f1, f2, f3⟩ := q2 k hk
            rw [g1] at f1
            injection f1 with f1
            subst f1
            have hcv : cvF cv m esc k = cv k := by unfold cvF; rw [if_pos hk]
            exact ⟨_, f3, fun hb => hcv.trans (g2 hb).2, fun hv => hcv.trans (g3 (endE_ver f2 hv))⟩
          have endV_ok : ∀ val v, AR2 w X2 cv hb val v → pubVB m esc v = true → AR2 w X2 (cvF cv m esc) hc val (endV m esc hb v) := by
            intro val v hv hp
            rcases hv.parts with hv | ⟨cells, l, rfl, rfl, hl⟩
            · have hp' : pubB m esc v = true := by cases v <;> first | exact hp | exact absurd hv (by simp [AR1, AR0])
              have h0 : AR0 w X2 cv hb val v := by cases v <;> first | exact hv | cases hp'
              have := (q1 val v h0 hp').to1.to2
              cases v <;> first | exact this | exact absurd hv (by simp [AR1, AR0])
            · refine ⟨l, rfl, ?_⟩
              have hlen := hl.length
              refine All2.of_get (by simp; omega) fun i x y hx hy => ?_
              rw [List.getElem?_map] at hy
              cases hcc : cells[i]? with
              | none => rw [hcc] at hy; cases hy
              | some y0 =>
                rw [hcc] at hy
                injection hy with hy
                subst hy
                have hpp := pubBs_at (show pubBs m esc cells = true from hp) y0 (List.mem_of_getElem? hcc)
                have hh := All2.get i _ _ hl hx hcc
                have h0 : AR0 w X2 cv hb x y0 := by cases y0 <;> first | exact hh | cases hpp
                exact (q1 x y0 h0 hpp).to1
          have hlen := a2.length
          split at hf
          · rename_i v0
            injection hf with hf
            subst hf
            match vals, a2, hres with
            | [val], a2, hres =>
              exact ⟨val, by simpa using hres, X2, _, H3, (endV_ok val _ a2.1 (pubVBs_at hpub _ (by simp))).to3, hgo .dead⟩
          · rename_i hne
            injection hf with hf
            subst hf
            have hl1 : vals.toArray.size ≠ 1 := by
              intro h1
              have h2 : vs1.length = 1 := by rw [← hlen]; simpa using h1
              match vs1, h2 with
              | [v], _ => exact hne v rfl
            refine ⟨.tuple vals.toArray, by rw [hres, dif_neg hl1], X2, _, H3, ⟨vals, rfl, ?_⟩, hgo .dead⟩
            refine All2.of_get (by simp; omega) fun i x y hx hy => ?_
            rw [List.getElem?_map] at hy
            cases hcc : vs1[i]? with
            | none => rw [hcc] at hy; cases hy
            | some y0 =>
              rw [hcc] at hy
              injection hy with hy
              subst hy
              exact endV_ok x y0 (All2.get i _ _ a2 hx hcc) (pubVBs_at hpub y0 (List.mem_of_getElem? hcc))

/-! ### A function's body; all functions -/
theorem entry_ok {w X cv h} {fn : Func} {vs : List Value} {args : List AV} (hv : All2 (AR2 w X cv h) vs args) : All2 (AR3 w X cv h) (vs.toArray ++ Array.replicate (fn.ntmps - vs.toArray.size) undef).toList (entry fn args h).slots := by
  have hl := hv.length
  simp only [Array.toList_append, Array.toList_replicate, entry, rep_replicate, List.size_toArray, hl]
  refine (hv.imp fun _ _ => AR2.to3).append ?_
  generalize fn.ntmps - args.length = n
  induction n with
  | zero => trivial
  | succ n ih => exact ⟨rfl, ih⟩
structure ProgOk (P : Program) (cx : Cx) : Prop where
  ok : CxOk P cx
  mix : P.follows .mixedOrders = true
  named : ∀ (f : FuncId) (fn : Func), P.funcs[f]? = some fn → fn.body.isNone = false → (fn.name == "runtime.NumGoroutine") = false
  prim : ∀ f p, asc cx.prim f = some p → PrimOk P p f
theorem body_ok (hP : ProgOk P cx) {C : CallF} (hC : CallOk P C) (hE : ∀ f args h p, C f args h = some p → Enter P f) {f : FuncId} {fn : Func} (hf : P.funcs[f]? = some fn) {args : List AV} {h : Heap} {p : Res} (hb : body cx C f fn args h = some p) : CallSpec P f args h p := by
  intro base wb w X cv vs H hv
  unfold body at hb
  split at hb
  · cases hb
  · rename_i c hc
    obtain ⟨hcond, hb⟩ := cond_some hb
    obtain ⟨hseq, hlen⟩ : seqB 0 h = true ∧ Nat.ble h.length 4096 = true := by
      cases hs : seqB 0 h with
      | true => rw [hs] at hcond; exact ⟨rfl, hcond⟩
      | false => rw [hs] at hcond; cases hcond
    have hlen := ble_le hlen
    have hkeys := fun k e hl => seqB_ok hseq k e hl
    have hm : ∀ k e, look h k = some e → k < h.length := fun k e hl => by have := hkeys k e hl; omega
    refine calls_of_wp hf hc ?_
    refine run_ok (S := ⟨base, wb, w, X, cv, h⟩) ⟨hP.ok, hC, hE, hP.prim⟩ hP.mix (fun k e hl => by have := hm k e hl; omega) c (ks := ⟨finish cx h.length ((asc cx.esc f).getD []) fn, [], finish cx h.length ((asc cx.esc f).getD []) fn⟩) ⟨fun s a w' hf' hi => ?_, fun id s a w' hf' hi => (by cases hf'), fun s a w' hf' hi => ?_⟩ ⟨rfl, X, cv, H, entry_ok hv, ⟨Nat.le_refl _, fun _ _ _ => rfl, fun _ _ h => h, fun _ _ h _ => h, fun _ _ h => h, fun k e hl => ⟨e, hl, fun hb => ⟨hb, rfl⟩, fun _ => rfl⟩⟩⟩ hb
    · obtain ⟨v, g1, X', cv', g2, g3, g4⟩ := finish_ok hP.ok (S := ⟨base, wb, w, X, cv, h⟩) hm hi hf'
      exact ⟨hi.1, v, g1, v, X', cv', rfl, g2, g3, g4⟩
    · obtain ⟨v, g1, X', cv', g2, g3, g4⟩ := finish_ok hP.ok (S := ⟨base, wb, w, X, cv, h⟩) hm hi hf'
      exact ⟨hi.1, v, g1, v, X', cv', rfl, g2, g3, g4⟩
theorem callN_ok (hP : ProgOk P cx) : ∀ n, CallOk P (callN P cx n) ∧ ∀ f args h p, callN P cx n f args h = some p → Enter P f
  | 0 => ⟨fun f args h p hp => (by cases hp), fun f args h p hp => (by cases hp)⟩
  | n + 1 => by
    obtain ⟨h1, h2⟩ := callN_ok hP n
    refine ⟨fun f args h p hp => ?_, fun f args h p hp => ?_⟩
    · simp only [callN] at hp
      split at hp
      · cases hp
      · rename_i fn hf
        exact body_ok hP h1 h2 hf hp
    · simp only [callN] at hp
      split at hp
      · cases hp
      · rename_i fn hf
        have hb : fn.body.isNone = false := by
          unfold body at hp
          split at hp
          · cases hp
          · rename_i c hc; rw [hc]; rfl
        exact ⟨fn, hf, hP.named f fn hf hb, hb⟩
theorem call_ok' (hP : ProgOk P cx) : CallOk P (call P cx) := by
  intro f args h p hp
  unfold call at hp
  split at hp
  · exact (callN_ok hP _).1 f args h p hp
  · cases hp
end
end Go.AS
