/- AS, part 12: what a call hands over. -/
import Derived.Test.YtgihgeppdllnmaaAs11
namespace Go.AS
open Go.RowKit
set_option linter.all false

theorem idx_get : ∀ {l : List Nat} {k : Nat}, k ∈ l → l[idx l k]? = some k
  | a :: l, k, h => by
    simp only [idx]
    cases hb : Nat.beq a k with
    | true => have := beq_eq hb; simp [this]
    | false =>
      have hne : a ≠ k := Nat.ne_of_beq_eq_false hb
      have : k ∈ l := by simpa [Ne.symm hne] using h
      simpa using idx_get this
theorem prefix_get {α : Type} {l I : List α} (h : l <+: I) {i : Nat} {a : α} (ha : l[i]? = some a) : I[i]? = some a := by
  obtain ⟨m, rfl⟩ := h
  rw [List.getElem?_append_left (List.getElem?_eq_some_iff.1 ha).1]
  exact ha
theorem addImp_ok (l : List Nat) (k : Nat) : l <+: addImp l k ∧ k ∈ addImp l k ∧ (l.Nodup → (addImp l k).Nodup) := by
  unfold addImp
  cases hm : mem l k with
  | true => exact ⟨List.prefix_refl l, (mem_iff l k).1 hm, fun h => h⟩
  | false =>
    have hn : k ∉ l := fun h => by rw [(mem_iff l k).2 h] at hm; cases hm
    refine ⟨List.prefix_append l [k], by simp, fun h => ?_⟩
    rw [cond_false, List.nodup_append]
    refine ⟨h, by simp, fun a ha b hb => ?_⟩
    simp at hb
    subst hb
    exact fun he => hn (he ▸ ha)

/-- What the callee is to see: I the keys handed over, B those lent. -/
structure Tgt (w : World) (X : Nat → Prop) (cv : CV) (h : Heap) (muts I B : List Nat) (X1 : Nat → Prop) (cv1 : CV) (h1 : Heap) : Prop where
  x1 : ∀ b, X1 b → X b
  bor : ∀ kk, kk ∈ B → ∀ b, (cv kk).ownBlock = some b → ¬ X1 b
  cvs : ∀ i kk, I[i]? = some kk → cv1 i = cv kk
  row : ∀ i kk v s e rows, I[i]? = some kk → look h kk = some (.row v s e rows) → look h1 i = some (.row (startV h muts kk) s e rows)
  box : ∀ i kk sh cells, I[i]? = some kk → look h kk = some (.box sh cells) → ∃ c1, look h1 i = some (.box sh c1)
  map : ∀ i kk l, I[i]? = some kk → look h kk = some (.map l) → look h1 i = some (.map l)
theorem Tgt.keep {w X cv h muts I B X1 cv1 h1} (t : Tgt w X cv h muts I B X1 cv1 h1) : Keep w X w X1 := ⟨Nat.le_refl _, fun _ _ _ => rfl, fun b _ hx => t.x1 b hx⟩

theorem convL_ok {base wb w X cv h muts own} (H : HRel base wb w X cv h) {val : Value} {v v1 : AV} {i0 i1 b1 : List Nat} (hv : AR1 w X cv h val v) (hc : convL h muts own i0 v = some (v1, i1, b1)) :
    i0 <+: i1 ∧ (i0.Nodup → i1.Nodup) ∧ (∀ k ∈ b1, ∃ v s e rows, look h k = some (.row v s e rows)) ∧ v1.storable = true ∧
    ∀ I B X1 cv1 h1, Tgt w X cv h muts I B X1 cv1 h1 → i1 <+: I → (∀ k ∈ b1, k ∈ B) → AR0 w X1 cv1 h1 val v1 := by
  cases v with
  | t x =>
    simp only [convL] at hc
    injection hc with hc; injection hc with e1 hc; injection hc with e2 e3
    subst e1 e2 e3
    exact ⟨List.prefix_refl _, fun h => h, by simp, rfl, fun I B X1 cv1 h1 t _ _ => TR.mono t.keep hv⟩
  | nils e s =>
    simp only [convL] at hc
    have hv' : val = _ := hv
    cases own with
    | true =>
      injection hc with hc; injection hc with e1 hc; injection hc with e2 e3
      subst e1 e2 e3
      exact ⟨List.prefix_refl _, fun h => h, by simp, rfl, fun I B X1 cv1 h1 t _ _ => hv⟩
    | false =>
      injection hc with hc; injection hc with e1 hc; injection hc with e2 e3
      subst e1 e2 e3 hv'
      exact ⟨List.prefix_refl _, fun h => h, by simp, rfl, fun I B X1 cv1 h1 t _ _ => TR.nil_sl⟩
  | rowp kk ver n =>
    have hv' : AR0 w X cv h val (.rowp kk ver n) := hv
    obtain ⟨hsl, ent, v', hlk, hrv, hle, hcut⟩ := hv'
    simp only [convL, hlk] at hc
    cases ent with
    | row v2 s e rows =>
      obtain ⟨hver, hc⟩ := cond_some hc
      have hver := beq_eq hver
      simp only [rowVer] at hrv
      injection hrv with hrv
      have hcut := hcut (by omega)
      obtain ⟨xs, o1, o2, o3, o4⟩ := H.ent kk _ hlk
      have lend : ∀ I B X1 cv1 h1, Tgt w X cv h muts I B X1 cv1 h1 → kk ∈ B → TR w X1 val (.sl s (tk n rows)) := by
        intro I B X1 cv1 h1 t hb
        have h2 := row_TR o1 o3 t.x1 (t.bor kk hb)
        obtain ⟨b, cap, hc⟩ := own_len o1
        exact TR.tk hc h2 hcut
      have lent : some (.t (.sl s (tk n rows)), i0, [kk]) = some (v1, i1, b1) → i0 <+: i1 ∧ (i0.Nodup → i1.Nodup) ∧ (∀ k ∈ b1, ∃ v s e rows, look h k = some (.row v s e rows)) ∧ v1.storable = true ∧
          ∀ I B X1 cv1 h1, Tgt w X cv h muts I B X1 cv1 h1 → i1 <+: I → (∀ k ∈ b1, k ∈ B) → AR0 w X1 cv1 h1 val v1 := by
        intro hc
        injection hc with hc; injection hc with e1 hc; injection hc with e2 e3
        subst e1 e2 e3
        exact ⟨List.prefix_refl _, fun h => h, by intro k hk; simp at hk; subst hk; exact ⟨_, _, _, _, hlk⟩, rfl, fun I B X1 cv1 h1 t _ hb => lend I B X1 cv1 h1 t (hb kk (by simp))⟩
      cases own with
      | false => exact lent hc
      | true =>
        cases n with
        | some n => exact lent hc
        | none =>
          injection hc with hc; injection hc with e1 hc; injection hc with e2 e3
          subst e1 e2 e3
          obtain ⟨a1, a2, a3⟩ := addImp_ok i0 kk
          refine ⟨a1, a3, by simp, rfl, fun I B X1 cv1 h1 t hp _ => ?_⟩
          have hI := prefix_get hp (idx_get a2)
          simp only [CutOf] at hcut
          exact ⟨hsl, _, _, t.row _ _ _ _ _ _ hI hlk, rfl, Nat.le_refl _, fun _ => by simp only [CutOf]; rw [t.cvs _ _ hI]; exact hcut⟩
    | irow v2 s rows =>
      obtain ⟨hver, hc⟩ := cond_some hc
      have hver := beq_eq hver
      simp only [rowVer] at hrv
      injection hrv with hrv
      have hcut := hcut (by omega)
      injection hc with hc; injection hc with e1 hc; injection hc with e2 e3
      subst e1 e2 e3
      have o1 : TR w X (cv kk) (.sl s rows) := H.ent kk _ hlk
      obtain ⟨b, cap, hcv⟩ := o1.sl_len
      exact ⟨List.prefix_refl _, fun h => h, by simp, rfl, fun I B X1 cv1 h1 t _ _ => TR.tk hcv (o1.mono t.keep) hcut⟩
    | box _ _ => cases hc
    | ibox _ => cases hc
    | map _ => cases hc
  | ptr kk off =>
    obtain ⟨ent, b, hlk, hbx, hcv, hval⟩ := hv
    simp only [convL, hlk] at hc
    cases ent with
    | box sh cells =>
      injection hc with hc; injection hc with e1 hc; injection hc with e2 e3
      subst e1 e2 e3
      obtain ⟨a1, a2, a3⟩ := addImp_ok i0 kk
      refine ⟨a1, a3, by simp, rfl, fun I B X1 cv1 h1 t hp _ => ?_⟩
      have hI := prefix_get hp (idx_get a2)
      obtain ⟨c1, hl1⟩ := t.box _ _ _ _ hI hlk
      exact ⟨_, b, hl1, rfl, by rw [t.cvs _ _ hI]; exact hcv, hval⟩
    | ibox xs =>
      obtain ⟨b', q1, q2⟩ := H.ent kk _ hlk
      rw [hcv] at q2
      have fin : ∀ I B X1 cv1 h1, Tgt w X cv h muts I B X1 cv1 h1 → TR w X1 (.pointer (some ⟨b, 0, none⟩)) (.pt xs.length xs) := fun I B X1 cv1 h1 t => q2.mono t.keep
      cases hb0 : Nat.beq off 0 with
      | true =>
        have h0 := beq_eq hb0
        subst h0
        simp only [hb0, cond_true] at hc
        injection hc with hc; injection hc with e1 hc; injection hc with e2 e3
        subst e1 e2 e3
        refine ⟨List.prefix_refl _, fun h => h, by simp, rfl, fun I B X1 cv1 h1 t _ _ => ?_⟩
        show TR w X1 val _
        rw [hval, add_zero']
        exact fin I B X1 cv1 h1 t
      | false =>
        simp only [hb0, cond_false] at hc
        injection hc with hc; injection hc with e1 hc; injection hc with e2 e3
        subst e1 e2 e3
        exact ⟨List.prefix_refl _, fun h => h, by simp, rfl, fun I B X1 cv1 h1 t _ _ => ⟨_, hval, fin I B X1 cv1 h1 t⟩⟩
    | row _ _ _ _ => cases hc
    | irow _ _ _ => cases hc
    | map _ => cases hc
  | tel s row off =>
    simp only [convL] at hc
    injection hc with hc; injection hc with e1 hc; injection hc with e2 e3
    subst e1 e2 e3
    obtain ⟨a, q1, q2⟩ := hv
    exact ⟨List.prefix_refl _, fun h => h, by simp, rfl, fun I B X1 cv1 h1 t _ _ => ⟨a, q1, q2.mono t.keep⟩⟩
  | mapp kk =>
    obtain ⟨ms, b, hlk, hcv, hval⟩ := hv
    simp only [convL, hlk] at hc
    injection hc with hc; injection hc with e1 hc; injection hc with e2 e3
    subst e1 e2 e3
    obtain ⟨a1, a2, a3⟩ := addImp_ok i0 kk
    refine ⟨a1, a3, by simp, rfl, fun I B X1 cv1 h1 t hp _ => ?_⟩
    have hI := prefix_get hp (idx_get a2)
    exact ⟨ms, b, t.map _ _ _ hI hlk, (t.cvs _ _ hI).trans hcv, hval⟩
  | _ => cases hc
theorem convLs_ok {base wb w X cv h muts own} (H : HRel base wb w X cv h) : ∀ {vals : List Value} {l l1 : List AV} {i0 i1 b1 : List Nat} (hv : All2 (AR1 w X cv h) vals l) (hc : convLs h muts own i0 l = some (l1, i1, b1)),
    i0 <+: i1 ∧ (i0.Nodup → i1.Nodup) ∧ (∀ k ∈ b1, ∃ v s e rows, look h k = some (.row v s e rows)) ∧
    ∀ I B X1 cv1 h1, Tgt w X cv h muts I B X1 cv1 h1 → i1 <+: I → (∀ k ∈ b1, k ∈ B) → All2 (AR0 w X1 cv1 h1) vals l1
  | [], [], l1, i0, i1, b1, _, hc => by
    simp only [convLs] at hc
    injection hc with hc; injection hc with e1 hc; injection hc with e2 e3
    subst e1 e2 e3
    exact ⟨List.prefix_refl _, fun h => h, by simp, fun _ _ _ _ _ _ _ _ => trivial⟩
  | val :: vals, v :: l, l1, i0, i1, b1, hv, hc => by
    simp only [convLs] at hc
    split at hc
    · cases hc
    · rename_i va ia ba h1
      split at hc
      · cases hc
      · rename_i lb ib bb h2
        injection hc with hc; injection hc with e1 hc; injection hc with e2 e3
        subst e1 e2 e3
        obtain ⟨p1, p2, p3, _, p4⟩ := convL_ok H hv.1 h1
        obtain ⟨q1, q2, q3, q4⟩ := convLs_ok H hv.2 h2
        refine ⟨p1.trans q1, fun h => q2 (p2 h), fun k hk => ?_, fun I B X1 cv1 h1 t hp hb => ⟨p4 I B X1 cv1 h1 t (q1.trans hp) (fun k hk => hb k (by simp [hk])), q4 I B X1 cv1 h1 t hp (fun k hk => hb k (by simp [hk]))⟩⟩
        rcases List.mem_append.1 hk with hk | hk
        · exact p3 k hk
        · exact q3 k hk
theorem convV_ok {base wb w X cv h muts own} (H : HRel base wb w X cv h) {val : Value} {v v1 : AV} {i0 i1 b1 : List Nat} (hv : AR3 w X cv h val v) (hc : convV h muts own i0 v = some (v1, i1, b1)) :
    i0 <+: i1 ∧ (i0.Nodup → i1.Nodup) ∧ (∀ k ∈ b1, ∃ v s e rows, look h k = some (.row v s e rows)) ∧
    ∀ I B X1 cv1 h1, Tgt w X cv h muts I B X1 cv1 h1 → i1 <+: I → (∀ k ∈ b1, k ∈ B) → AR2 w X1 cv1 h1 val v1 := by
  have one : ∀ {v : AV}, AR1 w X cv h val v → convL h muts own i0 v = some (v1, i1, b1) → i0 <+: i1 ∧ (i0.Nodup → i1.Nodup) ∧ (∀ k ∈ b1, ∃ v s e rows, look h k = some (.row v s e rows)) ∧
      ∀ I B X1 cv1 h1, Tgt w X cv h muts I B X1 cv1 h1 → i1 <+: I → (∀ k ∈ b1, k ∈ B) → AR2 w X1 cv1 h1 val v1 := by
    intro v hv hc
    obtain ⟨p1, p2, p3, _, p4⟩ := convL_ok H hv hc
    exact ⟨p1, p2, p3, fun I B X1 cv1 h1 t hp hb => (p4 I B X1 cv1 h1 t hp hb).to1.to2⟩
  unfold convV at hc
  split at hc
  · rename_i l
    split at hc
    · cases hc
    · rename_i l1 ia ba h1
      injection hc with hc; injection hc with e1 hc; injection hc with e2 e3
      subst e1 e2 e3
      obtain ⟨cs, rfl, hcs⟩ := hv
      obtain ⟨p1, p2, p3, p4⟩ := convLs_ok H hcs h1
      exact ⟨p1, p2, p3, fun I B X1 cv1 h1 t hp hb => ⟨cs, rfl, (p4 I B X1 cv1 h1 t hp hb).imp fun _ _ => AR0.to1⟩⟩
  · rename_i f caps
    split at hc
    · cases hc
    · rename_i l1 ia ba h1
      injection hc with hc; injection hc with e1 hc; injection hc with e2 e3
      subst e1 e2 e3
      obtain ⟨cs, rfl, hcs⟩ := hv
      obtain ⟨p1, p2, p3, p4⟩ := convLs_ok H (hcs.imp fun _ _ => AR0.to1) h1
      exact ⟨p1, p2, p3, fun I B X1 cv1 h1 t hp hb => ⟨cs, rfl, p4 I B X1 cv1 h1 t hp hb⟩⟩
  · rename_i hne1 hne2
    rcases hv.parts with hv | ⟨ps, l, rfl, _, _⟩
    · rcases hv.parts with hv | ⟨cells, l, rfl, _, _⟩
      · exact one hv hc
      · exact absurd rfl (hne1 cells)
    · cases hc
theorem convArgs_ok {base wb w X cv h muts own} (H : HRel base wb w X cv h) : ∀ {vals : List Value} {l l1 : List AV} {i : Nat} {i0 i1 b1 : List Nat} (hv : All2 (AR3 w X cv h) vals l) (hc : convArgs h muts own i0 i l = some (l1, i1, b1)),
    i0 <+: i1 ∧ (i0.Nodup → i1.Nodup) ∧ (∀ k ∈ b1, ∃ v s e rows, look h k = some (.row v s e rows)) ∧
    ∀ I B X1 cv1 h1, Tgt w X cv h muts I B X1 cv1 h1 → i1 <+: I → (∀ k ∈ b1, k ∈ B) → All2 (AR2 w X1 cv1 h1) vals l1
  | [], [], l1, i, i0, i1, b1, _, hc => by
    simp only [convArgs] at hc
    injection hc with hc; injection hc with e1 hc; injection hc with e2 e3
    subst e1 e2 e3
    exact ⟨List.prefix_refl _, fun h => h, by simp, fun _ _ _ _ _ _ _ _ => trivial⟩
  | val :: vals, v :: l, l1, i, i0, i1, b1, hv, hc => by
    simp only [convArgs] at hc
    split at hc
    · cases hc
    · rename_i va ia ba h1
      split at hc
      · cases hc
      · rename_i lb ib bb h2
        injection hc with hc; injection hc with e1 hc; injection hc with e2 e3
        subst e1 e2 e3
        obtain ⟨p1, p2, p3, p4⟩ := convV_ok H hv.1 h1
        obtain ⟨q1, q2, q3, q4⟩ := convArgs_ok H hv.2 h2
        refine ⟨p1.trans q1, fun h => q2 (p2 h), fun k hk => ?_, fun I B X1 cv1 h1 t hp hb => ⟨p4 I B X1 cv1 h1 t (q1.trans hp) (fun k hk => hb k (by simp [hk])), q4 I B X1 cv1 h1 t hp (fun k hk => hb k (by simp [hk]))⟩⟩
        rcases List.mem_append.1 hk with hk | hk
        · exact p3 k hk
        · exact q3 k hk

/-- The entries that go with the arguments. -/
theorem convEnts_ok {base wb w X cv h muts} (H : HRel base wb w X cv h) : ∀ {fuel i : Nat} {i0 I B : List Nat} {h1 : Heap}, convEnts h muts fuel i i0 = some (h1, I, B) →
    i0 <+: I ∧ (i0.Nodup → I.Nodup) ∧ (∀ k ∈ B, ∃ v s e rows, look h k = some (.row v s e rows)) ∧ (∀ j e, look h1 j = some e → i ≤ j ∧ j < I.length) ∧
    (∀ j kk, i ≤ j → I[j]? = some kk → (∃ v s e rows, look h kk = some (.row v s e rows) ∧ look h1 j = some (.row (startV h muts kk) s e rows)) ∨
      (∃ sh cells c1 ia ib bb, look h kk = some (.box sh cells) ∧ look h1 j = some (.box sh c1) ∧ convLs h muts true ia cells = some (c1, ib, bb) ∧ ib <+: I ∧ ∀ k ∈ bb, k ∈ B) ∨
      ∃ l, look h kk = some (.map l) ∧ look h1 j = some (.map l))
  | 0, _, _, _, _, _, hc => by simp [convEnts] at hc
  | fuel + 1, i, i0, I, B, h1, hc => by
    simp only [convEnts] at hc
    cases hb : Nat.ble i0.length i with
    | true =>
      rw [hb] at hc
      have hb := ble_le hb
      simp only [cond_true] at hc
      injection hc with hc; injection hc with e1 hc; injection hc with e2 e3
      subst e1 e2 e3
      refine ⟨List.prefix_refl _, fun h => h, by simp, fun j e hj => by simp [look, asc] at hj, fun j kk hij hj => ?_⟩
      have := (List.getElem?_eq_some_iff.1 hj).1
      omega
    | false =>
      rw [hb] at hc
      have hlt : i < i0.length := by
        have : ¬ i0.length ≤ i := fun h => by rw [Nat.ble_eq_true_of_le h] at hb; cases hb
        omega
      have hnth : i0[i]? = some (nth 0 i0 i) := nth_of 0 hlt
      simp only [cond_false] at hc
      split at hc
      · rename_i v s e rows hl
        split at hc
        · cases hc
        · rename_i h2 i2 b2 hrec
          injection hc with hc; injection hc with e1 hc; injection hc with e2 e3
          subst e1 e2 e3
          obtain ⟨q1, q2, q3, q4, q5⟩ := convEnts_ok H hrec
          have hI : i2[i]? = some (nth 0 i0 i) := prefix_get q1 hnth
          refine ⟨q1, q2, q3, fun j e hj => ?_, fun j kk hij hj => ?_⟩
          · simp only [look, asc] at hj
            cases hbj : Nat.beq i j with
            | true => have := beq_eq hbj; have := (List.getElem?_eq_some_iff.1 hI).1; omega
            | false => rw [hbj] at hj; have := q4 j e hj; omega
          · by_cases hji : i = j
            · subst hji
              rw [hI] at hj
              injection hj with hj
              subst hj
              exact .inl ⟨v, s, e, rows, hl, by simp [look, asc]⟩
            · have hne : Nat.beq i j = false := by
                cases hbj : Nat.beq i j with
                | true => exact absurd (beq_eq hbj) hji
                | false => rfl
              rcases q5 j kk (by omega) hj with ⟨v', s', e', rows', g1, g2⟩ | ⟨sh, cells, c1, ia, ib, bb, g1, g2, g3⟩ | ⟨ml, g1, g2⟩
              · exact .inl ⟨v', s', e', rows', g1, by simp only [look, asc, hne, cond_false]; exact g2⟩
              · exact .inr (.inl ⟨sh, cells, c1, ia, ib, bb, g1, by simp only [look, asc, hne, cond_false]; exact g2, g3⟩)
              · exact .inr (.inr ⟨ml, g1, by simp only [look, asc, hne, cond_false]; exact g2⟩)
      · rename_i sh cells hl
        split at hc
        · cases hc
        · rename_i c1 i1 b1 hcl
          split at hc
          · cases hc
          · rename_i h2 i2 b2 hrec
            injection hc with hc; injection hc with e1 hc; injection hc with e2 e3
            subst e1 e2 e3
            obtain ⟨b, arr, t, r1, r2, r3, r4⟩ := H.ent _ _ hl
            obtain ⟨p1, p2, p3, p4⟩ := convLs_ok H r4 hcl
            obtain ⟨q1, q2, q3, q4, q5⟩ := convEnts_ok H hrec
            have hI : i2[i]? = some (nth 0 i0 i) := prefix_get (p1.trans q1) hnth
            refine ⟨p1.trans q1, fun h => q2 (p2 h), fun k hk => ?_, fun j e hj => ?_, fun j kk hij hj => ?_⟩
            · rcases List.mem_append.1 hk with hk | hk
              · exact p3 k hk
              · exact q3 k hk
            · simp only [look, asc] at hj
              cases hbj : Nat.beq i j with
              | true => have := beq_eq hbj; have := (List.getElem?_eq_some_iff.1 hI).1; omega
              | false => rw [hbj] at hj; have := q4 j e hj; omega
            · by_cases hji : i = j
              · subst hji
                rw [hI] at hj
                injection hj with hj
                subst hj
                exact .inr (.inl ⟨sh, cells, c1, i0, i1, b1, hl, by simp [look, asc], hcl, q1, fun k hk => by simp [hk]⟩)
              · have hne : Nat.beq i j = false := by
                  cases hbj : Nat.beq i j with
                  | true => exact absurd (beq_eq hbj) hji
                  | false => rfl
                rcases q5 j kk (by omega) hj with ⟨v', s', e', rows', g1, g2⟩ | ⟨sh, cells, c1, ia, ib, bb, g1, g2, g3, g4, g5⟩ | ⟨ml, g1, g2⟩
                · exact .inl ⟨v', s', e', rows', g1, by simp only [look, asc, hne, cond_false]; exact g2⟩
                · exact .inr (.inl ⟨sh, cells, c1, ia, ib, bb, g1, by simp only [look, asc, hne, cond_false]; exact g2, g3, g4, fun k hk => by simp [g5 k hk]⟩)
                · exact .inr (.inr ⟨ml, g1, by simp only [look, asc, hne, cond_false]; exact g2⟩)
      · rename_i ml0 hl
        split at hc
        · cases hc
        · rename_i h2 i2 b2 hrec
          injection hc with hc; injection hc with e1 hc; injection hc with e2 e3
          subst e1 e2 e3
          obtain ⟨q1, q2, q3, q4, q5⟩ := convEnts_ok H hrec
          have hI : i2[i]? = some (nth 0 i0 i) := prefix_get q1 hnth
          refine ⟨q1, q2, q3, fun j e hj => ?_, fun j kk hij hj => ?_⟩
          · simp only [look, asc] at hj
            cases hbj : Nat.beq i j with
            | true => have := beq_eq hbj; have := (List.getElem?_eq_some_iff.1 hI).1; omega
            | false => rw [hbj] at hj; have := q4 j e hj; omega
          · by_cases hji : i = j
            · subst hji
              rw [hI] at hj
              injection hj with hj
              subst hj
              exact .inr (.inr ⟨ml0, hl, by simp [look, asc]⟩)
            · have hne : Nat.beq i j = false := by
                cases hbj : Nat.beq i j with
                | true => exact absurd (beq_eq hbj) hji
                | false => rfl
              rcases q5 j kk (by omega) hj with ⟨v', s', e', rows', g1, g2⟩ | ⟨sh, cells, c1, ia, ib, bb, g1, g2, g3⟩ | ⟨ml, g1, g2⟩
              · exact .inl ⟨v', s', e', rows', g1, by simp only [look, asc, hne, cond_false]; exact g2⟩
              · exact .inr (.inl ⟨sh, cells, c1, ia, ib, bb, g1, by simp only [look, asc, hne, cond_false]; exact g2, g3⟩)
              · exact .inr (.inr ⟨ml, g1, by simp only [look, asc, hne, cond_false]; exact g2⟩)
      · cases hc
end Go.AS
