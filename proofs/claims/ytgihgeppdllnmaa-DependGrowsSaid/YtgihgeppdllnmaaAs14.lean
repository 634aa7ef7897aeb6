/- AS, part 14: a call. -/
import Derived.Test.YtgihgeppdllnmaaAs13
namespace Go.AS
open Go.RowKit
set_option linter.all false

def Seq : Nat → Heap → Prop
  | _, [] => True
  | i, (k, _) :: h => k = i ∧ Seq (i + 1) h
theorem seq_look : ∀ {h : Heap} {i : Nat}, Seq i h → ∀ (j k : Nat) e, h[j]? = some (k, e) → k = i + j ∧ look h (i + j) = some e
  | (k0, e0) :: h, i, hs, j, k, e, hj => by
    obtain ⟨rfl, hs⟩ := hs
    cases j with
    | zero => simp at hj; obtain ⟨rfl, rfl⟩ := hj; simp [look, asc]
    | succ j =>
      obtain ⟨h1, h2⟩ := seq_look hs j k e (by simpa using hj)
      refine ⟨by omega, ?_⟩
      have hb : Nat.beq k0 (k0 + (j + 1)) = false := by
        cases hb : Nat.beq k0 (k0 + (j + 1)) with
        | true => have := beq_eq hb; omega
        | false => rfl
      simp only [look, asc, hb, cond_false]
      rw [show k0 + (j + 1) = k0 + 1 + j by omega]
      exact h2
theorem convEnts_seq {h : Heap} {muts : List Nat} : ∀ {fuel i : Nat} {i0 I B : List Nat} {h1 : Heap}, convEnts h muts fuel i i0 = some (h1, I, B) → i ≤ i0.length → i0.length ≤ I.length → Seq i h1 ∧ i + h1.length = I.length ∧ ∀ p ∈ h1, (∃ v s e rows, p.2 = .row v s e rows) ∨ (∃ sh c, p.2 = .box sh c) ∨ ∃ l, p.2 = .map l
  | 0, _, _, _, _, _, hc, _, _ => by simp [convEnts] at hc
  | fuel + 1, i, i0, I, B, h1, hc, hi, hI => by
    simp only [convEnts] at hc
    cases hb : Nat.ble i0.length i with
    | true =>
      rw [hb] at hc
      have hb := ble_le hb
      simp only [cond_true] at hc
      injection hc with hc; injection hc with e1 hc; injection hc with e2 e3
      subst e1 e2 e3
      exact ⟨trivial, by simp; omega, by simp⟩
    | false =>
      rw [hb] at hc
      have hlt : i < i0.length := by
        have : ¬ i0.length ≤ i := fun h => by rw [Nat.ble_eq_true_of_le h] at hb; cases hb
        omega
      simp only [cond_false] at hc
      split at hc
      · split at hc
        · cases hc
        · rename_i h2 i2 b2 hrec
          injection hc with hc; injection hc with e1 hc; injection hc with e2 e3
          subst e1 e2 e3
          obtain ⟨q1, q2, q3⟩ := convEnts_seq hrec (by omega) hI
          exact ⟨⟨rfl, q1⟩, by simp; omega, fun p hp => by
            rcases List.mem_cons.1 hp with rfl | hp
            · exact .inl ⟨_, _, _, _, rfl⟩
            · exact q3 p hp⟩
      · split at hc
        · cases hc
        · rename_i c1 i1 b1 hcl
          split at hc
          · cases hc
          · rename_i h2 i2 b2 hrec
            injection hc with hc; injection hc with e1 hc; injection hc with e2 e3
            subst e1 e2 e3
            have hlen := convLs_len hcl
            have hlen2 := convEnts_len hrec
            obtain ⟨q1, q2, q3⟩ := convEnts_seq hrec (by omega) hlen2
            exact ⟨⟨rfl, q1⟩, by simp; omega, fun p hp => by
              rcases List.mem_cons.1 hp with rfl | hp
              · exact .inr (.inl ⟨_, _, rfl⟩)
              · exact q3 p hp⟩
      · split at hc
        · cases hc
        · rename_i h2 i2 b2 hrec
          injection hc with hc; injection hc with e1 hc; injection hc with e2 e3
          subst e1 e2 e3
          obtain ⟨q1, q2, q3⟩ := convEnts_seq hrec (by omega) hI
          exact ⟨⟨rfl, q1⟩, by simp; omega, fun p hp => by
            rcases List.mem_cons.1 hp with rfl | hp
            · exact .inr (.inr ⟨_, rfl⟩)
            · exact q3 p hp⟩
      · cases hc
where
  addImp_len (l : List Nat) (k : Nat) : l.length ≤ (addImp l k).length := (addImp_ok l k).1.length_le
  convL_len {h : Heap} {muts i0 i1 b1 : List Nat} {own : Bool} {v v1 : AV} (hc : convL h muts own i0 v = some (v1, i1, b1)) : i0.length ≤ i1.length := by
    unfold convL at hc
    split at hc
    · injection hc with hc; injection hc with e1 hc; injection hc with e2 e3; rw [← e2]; exact Nat.le_refl _
    · cases own <;> (injection hc with hc; injection hc with e1 hc; injection hc with e2 e3; rw [← e2]; exact Nat.le_refl _)
    · split at hc
      · obtain ⟨_, hc⟩ := cond_some hc
        split at hc
        · injection hc with hc; injection hc with e1 hc; injection hc with e2 e3; rw [← e2]; exact addImp_len _ _
        · injection hc with hc; injection hc with e1 hc; injection hc with e2 e3; rw [← e2]; exact Nat.le_refl _
      · obtain ⟨_, hc⟩ := cond_some hc
        injection hc with hc; injection hc with e1 hc; injection hc with e2 e3; rw [← e2]; exact Nat.le_refl _
      · cases hc
    · split at hc
      · injection hc with hc; injection hc with e1 hc; injection hc with e2 e3; rw [← e2]; exact addImp_len _ _
      · rename_i off _ _ _
        cases hb : Nat.beq off 0 <;> rw [hb] at hc <;> (injection hc with hc; injection hc with e1 hc; injection hc with e2 e3; rw [← e2]; exact Nat.le_refl _)
      · cases hc
    · injection hc with hc; injection hc with e1 hc; injection hc with e2 e3; rw [← e2]; exact Nat.le_refl _
    · split at hc
      · injection hc with hc; injection hc with e1 hc; injection hc with e2 e3; rw [← e2]; exact addImp_len _ _
      · cases hc
    · cases hc
  convLs_len {h : Heap} {muts : List Nat} {own : Bool} : ∀ {l l1 : List AV} {i0 i1 b1 : List Nat}, convLs h muts own i0 l = some (l1, i1, b1) → i0.length ≤ i1.length
    | [], l1, i0, i1, b1, hc => by
      simp only [convLs] at hc
      injection hc with hc; injection hc with e1 hc; injection hc with e2 e3; rw [← e2]; exact Nat.le_refl _
    | v :: l, l1, i0, i1, b1, hc => by
      simp only [convLs] at hc
      split at hc
      · cases hc
      · rename_i h1
        split at hc
        · cases hc
        · rename_i h2
          injection hc with hc; injection hc with e1 hc; injection hc with e2 e3
          rw [← e2]
          exact Nat.le_trans (convL_len h1) (convLs_len h2)
  convEnts_len {h : Heap} {muts : List Nat} : ∀ {fuel i : Nat} {i0 I B : List Nat} {h1 : Heap}, convEnts h muts fuel i i0 = some (h1, I, B) → i0.length ≤ I.length
    | 0, _, _, _, _, _, hc => by simp [convEnts] at hc
    | fuel + 1, i, i0, I, B, h1, hc => by
      simp only [convEnts] at hc
      cases hb : Nat.ble i0.length i with
      | true =>
        rw [hb] at hc
        simp only [cond_true] at hc
        injection hc with hc; injection hc with e1 hc; injection hc with e2 e3; rw [← e2]; exact Nat.le_refl _
      | false =>
        rw [hb] at hc
        simp only [cond_false] at hc
        split at hc
        · split at hc
          · cases hc
          · rename_i hrec
            injection hc with hc; injection hc with e1 hc; injection hc with e2 e3
            rw [← e2]
            exact convEnts_len hrec
        · split at hc
          · cases hc
          · rename_i hcl
            split at hc
            · cases hc
            · rename_i hrec
              injection hc with hc; injection hc with e1 hc; injection hc with e2 e3
              rw [← e2]
              exact Nat.le_trans (convLs_len hcl) (convEnts_len hrec)
        · split at hc
          · cases hc
          · rename_i hrec
            injection hc with hc; injection hc with e1 hc; injection hc with e2 e3
            rw [← e2]
            exact convEnts_len hrec
        · cases hc

/-- The shape under which an entry was handed over. -/
def ShOf (e : Ent) (s : ShE) : Prop := match e with
  | .row v sz t _ => s = .row v sz t
  | .box sh _ => ∃ l, s = .box sh l
  | .map _ => s = .map
  | _ => False
theorem shEnts_get : ∀ {h : Heap}, (∀ p ∈ h, (∃ v s e rows, p.2 = .row v s e rows) ∨ (∃ sh c, p.2 = .box sh c) ∨ ∃ l, p.2 = .map l) → (shEnts h).length = h.length ∧ ∀ (j k : Nat) e, h[j]? = some (k, e) → ∃ s, (shEnts h)[j]? = some s ∧ ShOf e s
  | [], _ => ⟨rfl, fun j k e hj => by simp at hj⟩
  | (k0, e0) :: h, hall => by
    obtain ⟨q1, q2⟩ := shEnts_get (h := h) fun p hp => hall p (by simp [hp])
    have hcons : ∃ s0, shEnts ((k0, e0) :: h) = s0 :: shEnts h ∧ ShOf e0 s0 := by
      rcases hall (k0, e0) (by simp) with ⟨v, s, e, rows, h1⟩ | ⟨sh, c, h1⟩ | ⟨ml, h1⟩
      · simp only at h1; subst h1; exact ⟨_, rfl, rfl⟩
      · simp only at h1; subst h1; exact ⟨_, rfl, _, rfl⟩
      · simp only at h1; subst h1; exact ⟨_, rfl, rfl⟩
    obtain ⟨s0, hs0, hs1⟩ := hcons
    rw [hs0]
    refine ⟨by simp [q1], fun j k e hj => ?_⟩
    cases j with
    | zero => simp at hj; obtain ⟨rfl, rfl⟩ := hj; exact ⟨s0, rfl, hs1⟩
    | succ j => simpa using q2 j k e (by simpa using hj)

/-! ### Keys of the caller -/
theorem keysFrom_get (d : Nat) : ∀ (n j i : Nat), i < n → (keysFrom d j n)[i]? = some (key d (32 + (j + i)))
  | n + 1, j, 0, _ => by simp [keysFrom]
  | n + 1, j, i + 1, h => by
    simp only [keysFrom, List.getElem?_cons_succ]
    rw [keysFrom_get d n (j + 1) i (by omega)]
    congr 3
    omega
theorem keysFrom_len (d : Nat) : ∀ (n j : Nat), (keysFrom d j n).length = n
  | 0, _ => rfl
  | n + 1, j => by simp [keysFrom, keysFrom_len d n (j + 1)]
theorem keysFrom_mem {d n j k : Nat} (h : k ∈ keysFrom d j n) : ∃ i, i < n ∧ k = key d (32 + (j + i)) := by
  obtain ⟨i, hi, rfl⟩ := List.getElem_of_mem h
  have hn : i < n := by rwa [keysFrom_len] at hi
  have := keysFrom_get d n j i hn
  rw [List.getElem?_eq_getElem hi] at this
  injection this with this
  exact ⟨i, hn, this⟩
theorem freshAll_ok {h : Heap} {d : Nat} : ∀ {n j : Nat}, freshAll h d j n = true → ∀ i, i < n → look h (key d (32 + (j + i))) = none
  | n + 1, j, hf, i, hi => by
    simp only [freshAll] at hf
    split at hf
    · rename_i hl
      cases i with
      | zero => exact hl
      | succ i => have := freshAll_ok hf i (by omega); rwa [show j + (i + 1) = j + 1 + i by omega]
    · cases hf
theorem key_inj {d a b : Nat} (h : key d a = key d b) : a = b := by unfold key at h; omega
theorem backKey_get {I : List Nat} {d n i : Nat} (hi : i < I.length + n) : (I ++ keysFrom d 0 n)[i]? = some (backKey I d i) := by
  unfold backKey
  by_cases h : i < I.length
  · have : Nat.blt i I.length = true := by simpa [Nat.blt_eq] using h
    rw [this, List.getElem?_append_left h]
    exact nth_of 0 h
  · have : Nat.blt i I.length = false := by
      cases hb : Nat.blt i I.length with
      | true => exact absurd (by simpa [Nat.blt_eq] using hb) h
      | false => rfl
    rw [this, List.getElem?_append_right (by omega), keysFrom_get d n 0 _ (by omega)]
    simp

theorem backEs_look {h0 : Heap} {I : List Nat} {d N : Nat} (inj : ∀ a b, a < N → b < N → backKey I d a = backKey I d b → a = b) : ∀ (es : List Ent) (i : Nat) (h : Heap), i + es.length ≤ N →
    (∀ j e, es[j]? = some e → look (backEs h0 I d i es h) (backKey I d (i + j)) = some (backE h0 I d (backKey I d (i + j)) e)) ∧ (∀ kk, (∀ j, j < es.length → backKey I d (i + j) ≠ kk) → look (backEs h0 I d i es h) kk = look h kk)
  | [], i, h, _ => ⟨fun j e hj => by simp at hj, fun kk _ => rfl⟩
  | e0 :: es, i, h, hN => by
    simp only [List.length_cons] at hN
    obtain ⟨q1, q2⟩ := backEs_look inj es (i + 1) (upd h (backKey I d i) (backE h0 I d (backKey I d i) e0)) (by omega)
    refine ⟨fun j e hj => ?_, fun kk hkk => ?_⟩
    · cases j with
      | zero =>
        simp at hj
        subst hj
        simp only [backEs, Nat.add_zero]
        rw [q2 _ fun j hj he => ?_, look_upd_same]
        have := inj _ _ (by omega) (by omega) he
        omega
      | succ j =>
        have := q1 j e (by simpa using hj)
        rw [show i + (j + 1) = i + 1 + j by omega]
        exact this
    · simp only [backEs]
      rw [q2 kk fun j hj => ?_, look_upd_other _ _ ?_]
      · have := hkk 0 (by simp)
        simpa using this
      · have := hkk (j + 1) (by simp; omega)
        rwa [show i + 1 + j = i + (j + 1) by omega]
theorem freezeAll_look : ∀ (l : List Nat) (h : Heap) (kk : Nat), (kk ∉ l → look (freezeAll h l) kk = look h kk) ∧ (∀ v s e rows, look h kk = some (.row v s e rows) → kk ∈ l → look (freezeAll h l) kk = some (.irow v s rows)) ∧ (∀ v s rows, look h kk = some (.irow v s rows) → look (freezeAll h l) kk = some (.irow v s rows))
  | [], h, kk => ⟨fun _ => rfl, fun v s e rows _ hk => absurd hk (by simp), fun _ _ _ hl => hl⟩
  | a :: l, h, kk => by
    simp only [freezeAll]
    split
    · rename_i v s e rows hl
      obtain ⟨q1, q2, q3⟩ := freezeAll_look l (upd h a (.irow v s rows)) kk
      by_cases hak : a = kk
      · subst hak
        have hq := q3 v s rows (look_upd_same ..)
        refine ⟨fun hn => absurd (by simp) hn, fun v' s' e' rows' hl' _ => ?_, fun v' s' rows' hl' => ?_⟩
        · rw [hl] at hl'; cases hl'; exact hq
        · rw [hl] at hl'; cases hl'
      · have ho := look_upd_other h (.irow v s rows) hak
        rw [ho] at q1 q2 q3
        refine ⟨fun hn => q1 fun hk => hn (by simp [hk]), fun v' s' e' rows' hl' hk => q2 v' s' e' rows' hl' ?_, q3⟩
        rcases List.mem_cons.1 hk with rfl | hk
        · exact absurd rfl hak
        · exact hk
    · rename_i hnot
      obtain ⟨q1, q2, q3⟩ := freezeAll_look l h kk
      refine ⟨fun hn => q1 fun hk => hn (by simp [hk]), fun v' s' e' rows' hl' hk => ?_, q3⟩
      rcases List.mem_cons.1 hk with rfl | hk
      · exact absurd hl' (hnot v' s' e' rows')
      · exact q2 v' s' e' rows' hl' hk
theorem verOf_row {h : Heap} {kk v s : Nat} {e : TypeId} {rows : List (List T)} (hl : look h kk = some (.row v s e rows)) : verOf h kk = v := by unfold verOf; rw [hl]

/-- Back in the caller. -/
structure Back (h : Heap) (muts I B : List Nat) (d : Nat) (n : Nat) (p2 : Heap) (cv2 : CV) (es : List Ent) (ss : List ShE) : Prop where
  len : es.length = I.length + n
  slen : ss.length = I.length + n
  wk : ∀ (j : Nat) s, ss[j]? = some s → ∃ e e', look p2 j = some e ∧ es[j]? = some e' ∧ WkE s e e'
  rng : ∀ j e, look p2 j = some e → j < I.length + n
  fresh : ∀ i, i < n → look h (key d (32 + i)) = none
  sh : ∀ (j kk : Nat), I[j]? = some kk → (∃ v s e rows, look h kk = some (.row v s e rows) ∧ ss[j]? = some (.row (startV h muts kk) s e)) ∨ (∃ sh c l, look h kk = some (.box sh c) ∧ ss[j]? = some (.box sh l)) ∨ ∃ l, look h kk = some (.map l) ∧ ss[j]? = some .map
def cvB (cv cv2 : CV) (K : List Nat) : CV := fun kk => if kk ∈ K then cv2 (idx K kk) else cv kk
section
variable {base : Nat} {wb w : World} {X : Nat → Prop} {cv : CV} {h : Heap} {muts I B : List Nat} {h1 : Heap} {d n : Nat} {p2 : Heap} {cv2 : CV} {es : List Ent} {ss : List ShE} {w2 : World} {X2 : Nat → Prop}
theorem Back.inj (D : Handed w X cv h muts I B h1) (K : Back h muts I B d n p2 cv2 es ss) : ∀ a b, a < I.length + n → b < I.length + n → backKey I d a = backKey I d b → a = b := by
  intro a b ha hb hab
  have g1 := backKey_get (d := d) ha
  have g2 := backKey_get (d := d) hb
  have hI : ∀ c, c < I.length → ∃ e, look h (backKey I d c) = some e := by
    intro c hc
    have g := backKey_get (I := I) (d := d) (n := n) (i := c) (by omega)
    rw [List.getElem?_append_left hc] at g
    rcases D.ent c _ g with ⟨v, s, e, rows, q, _⟩ | ⟨sh, cells, c1, q, _⟩ | ⟨ml, q, _⟩ <;> exact ⟨_, q⟩
  have hF : ∀ c, c < I.length + n → ¬ c < I.length → backKey I d c = key d (32 + (c - I.length)) := by
    intro c hc hn
    have g := backKey_get (I := I) (d := d) (n := n) hc
    rw [List.getElem?_append_right (by omega), keysFrom_get d n 0 _ (by omega)] at g
    injection g with g
    rw [← g]; simp
  by_cases h1 : a < I.length <;> by_cases h2 : b < I.length
  · rw [List.getElem?_append_left h1] at g1
    rw [List.getElem?_append_left h2, ← hab] at g2
    exact nodup_get D.nodup g1 g2
  · obtain ⟨e, he⟩ := hI a h1
    rw [hab, hF b hb h2, K.fresh _ (by omega)] at he
    cases he
  · obtain ⟨e, he⟩ := hI b h2
    rw [← hab, hF a ha h1, K.fresh _ (by omega)] at he
    cases he
  · rw [hF a ha h1, hF b hb h2] at hab
    have := key_inj hab
    omega
theorem Back.cvB_at (D : Handed w X cv h muts I B h1) (K : Back h muts I B d n p2 cv2 es ss) {j : Nat} (hj : j < I.length + n) : cvB cv cv2 (I ++ keysFrom d 0 n) (backKey I d j) = cv2 j := by
  have hm : backKey I d j ∈ I ++ keysFrom d 0 n := List.mem_of_getElem? (backKey_get hj)
  have h1 := idx_get hm
  have h2 : idx (I ++ keysFrom d 0 n) (backKey I d j) < I.length + n := by
    have := (List.getElem?_eq_some_iff.1 h1).1
    rwa [List.length_append, keysFrom_len] at this
  have h3 := backKey_get (I := I) (d := d) h2
  rw [h1] at h3
  injection h3 with h3
  unfold cvB
  rw [if_pos hm, ← K.inj D _ _ hj h2 h3]
theorem mem_K (I : List Nat) (d n : Nat) {kk : Nat} (hm : kk ∈ I ++ keysFrom d 0 n) : ∃ j, j < I.length + n ∧ kk = backKey I d j := by
  have h1 := idx_get hm
  have h2 := (List.getElem?_eq_some_iff.1 h1).1
  rw [List.length_append, keysFrom_len] at h2
  have h3 := backKey_get (I := I) (d := d) h2
  rw [h1] at h3
  injection h3 with h3
  exact ⟨_, h2, h3⟩

theorem back_ok (H : HRel base wb w X cv h) (D : Handed w X cv h muts I B h1) (K : Back h muts I B d n p2 cv2 es ss) (H2 : HRel base wb w2 X2 cv2 p2) (G : GoF w (X1of X cv B) (cv1of cv I) h1 w2 X2 cv2 p2) (hH1 : HRel base wb w (X1of X cv B) (cv1of cv I) h1) :
    HRel base wb w2 X2 (cvB cv cv2 (I ++ keysFrom d 0 n)) (freezeAll (backEs h I d 0 es h) B) ∧ Go1 (B ++ (I ++ keysFrom d 0 n)) w X cv h w2 X2 (cvB cv cv2 (I ++ keysFrom d 0 n)) (freezeAll (backEs h I d 0 es h) B) ∧
    ∀ val v, AR0 w2 X2 cv2 p2 val v → OutL v → AR0 w2 X2 (cvB cv cv2 (I ++ keysFrom d 0 n)) (freezeAll (backEs h I d 0 es h) B) val (backL h I d v) := by
  obtain ⟨b1, b2⟩ := backEs_look (h0 := h) (K.inj D) es 0 h (by rw [K.len]; omega)
  simp only [Nat.zero_add] at b1 b2
  have hinI : ∀ j, j < I.length → backKey I d j ∈ I := fun j hj => by
    have g := backKey_get (I := I) (d := d) (n := n) (i := j) (by omega)
    rw [List.getElem?_append_left hj] at g
    exact List.mem_of_getElem? g
  have hfresh : ∀ j, j < I.length + n → ¬ j < I.length → look h (backKey I d j) = none := by
    intro j hj hn
    have g := backKey_get (I := I) (d := d) (n := n) hj
    rw [List.getElem?_append_right (by omega), keysFrom_get d n 0 _ (by omega)] at g
    injection g with g
    rw [← g]
    simpa using K.fresh (j - I.length) (by omega)
  have hKB : ∀ j, j < I.length + n → backKey I d j ∉ B := by
    intro j hj hb
    by_cases h : j < I.length
    · exact D.apart _ hb (hinI j h)
    · obtain ⟨v, s, e, rows, hl⟩ := D.lent _ hb
      rw [hfresh j hj h] at hl
      cases hl
  have lookK : ∀ (j : Nat) e', es[j]? = some e' → look (freezeAll (backEs h I d 0 es h) B) (backKey I d j) = some (backE h I d (backKey I d j) e') := by
    intro j e' hj
    have hlt := (List.getElem?_eq_some_iff.1 hj).1
    rw [K.len] at hlt
    rw [(freezeAll_look B _ _).1 (hKB j hlt)]
    exact b1 j e' hj
  have notK : ∀ kk, kk ∉ I ++ keysFrom d 0 n → ∀ j, j < es.length → backKey I d j ≠ kk := by
    intro kk hk j hj he
    rw [K.len] at hj
    exact hk (he ▸ List.mem_of_getElem? (backKey_get hj))
  have hBK : ∀ kk, kk ∈ B → kk ∉ I ++ keysFrom d 0 n := by
    intro kk hb hk
    obtain ⟨j, hj, rfl⟩ := mem_K I d n hk
    exact hKB j hj hb
  have lookB : ∀ kk v s e rows, kk ∈ B → look h kk = some (.row v s e rows) → look (freezeAll (backEs h I d 0 es h) B) kk = some (.irow v s rows) := by
    intro kk v s e rows hb hl
    exact (freezeAll_look B _ _).2.1 v s e rows (by rw [b2 kk (notK kk (hBK kk hb))]; exact hl) hb
  have lookO : ∀ kk, kk ∉ B → kk ∉ I ++ keysFrom d 0 n → look (freezeAll (backEs h I d 0 es h) B) kk = look h kk := by
    intro kk hb hk
    rw [(freezeAll_look B _ _).1 hb, b2 kk (notK kk hk)]
  have cvO : ∀ kk, kk ∉ I ++ keysFrom d 0 n → cvB cv cv2 (I ++ keysFrom d 0 n) kk = cv kk := fun kk hk => by unfold cvB; rw [if_neg hk]
  have cvK : ∀ j, j < I.length + n → cvB cv cv2 (I ++ keysFrom d 0 n) (backKey I d j) = cv2 j := fun j hj => K.cvB_at D hj
  -- an entry that came back
  have hes : ∀ (j : Nat) e2, look p2 j = some e2 → j < I.length + n ∧ ∃ s e', ss[j]? = some s ∧ es[j]? = some e' ∧ WkE s e2 e' := by
    intro j e2 hl
    have hj := K.rng j e2 hl
    have hs : j < ss.length := by rw [K.slen]; exact hj
    obtain ⟨e, e', g1, g2, g3⟩ := K.wk j _ (List.getElem?_eq_getElem hs)
    rw [hl] at g1
    injection g1 with g1
    subst g1
    exact ⟨hj, _, e', List.getElem?_eq_getElem hs, g2, g3⟩
  have back : ∀ val v, AR0 w2 X2 cv2 p2 val v → OutL v → AR0 w2 X2 (cvB cv cv2 (I ++ keysFrom d 0 n)) (freezeAll (backEs h I d 0 es h) B) val (backL h I d v) := by
    intro val v hv ho
    cases v with
    | t x => exact hv
    | dead => trivial
    | rowp i ver m =>
      obtain ⟨hsl, e2, v', hl, hv', hle, hcut⟩ := hv
      obtain ⟨hj, s, e', g1, g2, g3⟩ := hes i e2 hl
      cases s with
      | box sh l => obtain ⟨_, _, _, rfl, _⟩ := g3; cases hv'
      | map => obtain ⟨_, rfl, _⟩ := g3; cases hv'
      | row v0 sz t =>
        obtain ⟨rows, rfl, rfl⟩ := g3
        simp only [rowVer] at hv'
        injection hv' with hv'
        refine ⟨hsl, _, verOf h (backKey I d i) + v0, lookK i _ g2, rfl, by omega, fun hq => ?_⟩
        rw [cvK i hj]
        exact hcut (by omega)
    | ptr i off =>
      obtain ⟨e2, b, hl, hbx, hc, rfl⟩ := hv
      obtain ⟨hj, s, e', g1, g2, g3⟩ := hes i e2 hl
      cases s with
      | row v0 sz t => obtain ⟨rows, rfl, rfl⟩ := g3; cases hbx
      | box sh l =>
        obtain ⟨_, _, c', _, rfl, _⟩ := g3
        exact ⟨_, b, lookK i _ g2, rfl, by rw [cvK i hj]; exact hc, rfl⟩
      | map =>
        obtain ⟨_, rfl, rfl⟩ := g3
        exact ⟨_, b, lookK i _ g2, rfl, by rw [cvK i hj]; exact hc, rfl⟩
    | mapp i =>
      obtain ⟨ml, b, hl, hc, rfl⟩ := hv
      obtain ⟨hj, s, e', g1, g2, g3⟩ := hes i _ hl
      cases s with
      | row v0 sz t => obtain ⟨rows, h0, _⟩ := g3; cases h0
      | box sh l => obtain ⟨_, _, _, h0, _⟩ := g3; cases h0
      | map =>
        obtain ⟨ml', h0, rfl⟩ := g3
        exact ⟨ml', b, lookK i _ g2, (cvK i hj).trans hc, rfl⟩
    | _ => exact ho.elim
  have mK : ∀ (j : Nat) e', es[j]? = some e' → ∃ e2, look p2 j = some e2 ∧ mblk (cvB cv cv2 (I ++ keysFrom d 0 n)) (backKey I d j) (backE h I d (backKey I d j) e') = mblk cv2 j e2 := by
    intro j e' hj
    have hlt := (List.getElem?_eq_some_iff.1 hj).1
    rw [K.len] at hlt
    obtain ⟨e2, e'', g1, g2, g3⟩ := K.wk j _ (List.getElem?_eq_getElem (by rw [K.slen]; exact hlt))
    rw [hj] at g2
    injection g2 with g2
    subst g2
    refine ⟨e2, g1, ?_⟩
    generalize ss[j]'(by rw [K.slen]; exact hlt) = s at g3
    cases s with
    | box sh l => obtain ⟨_, _, c', rfl, rfl, _⟩ := g3; simp only [backE, mblk, cvK j hlt]
    | row v0 sz t => obtain ⟨rows, rfl, rfl⟩ := g3; simp only [backE, mblk, cvK j hlt]
    | map => obtain ⟨ml, rfl, rfl⟩ := g3; simp only [backE, mblk, cvK j hlt]
  have esAt : ∀ j, j < I.length + n → ∃ e', es[j]? = some e' := fun j hj => ⟨_, List.getElem?_eq_getElem (by rw [K.len]; exact hj)⟩
  have x1 : ∀ b, b < w.heap.size → X2 b → X1of X cv B b := G.xold
  have go : Go1 (B ++ (I ++ keysFrom d 0 n)) w X cv h w2 X2 (cvB cv cv2 (I ++ keysFrom d 0 n)) (freezeAll (backEs h I d 0 es h) B) := by
    refine ⟨G.size, fun b hb hm => G.blk b hb fun hm' => hm (D.mof' hm'), fun b hb hx => (x1 b hb hx).1, fun b hb hx hm => ?_, fun b hb hm => ?_, fun k e hl => ?_, fun k hk => ?_⟩
    · refine G.xkeep b hb ⟨hx, fun kk hk hbk => hm ?_⟩ fun hm' => hm (D.mof' hm')
      obtain ⟨v, s, e, rows, hl⟩ := D.lent kk hk
      exact ⟨kk, _, hl, by simpa [mblk] using hbk⟩
    · obtain ⟨kk, e, hl, hbk⟩ := hm
      by_cases hk : kk ∈ I ++ keysFrom d 0 n
      · obtain ⟨j, hj, rfl⟩ := mem_K I d n hk
        obtain ⟨e', he'⟩ := esAt j hj
        obtain ⟨e2, g1, g2⟩ := mK j e' he'
        rw [lookK j e' he'] at hl
        injection hl with hl
        subst hl
        rw [g2] at hbk
        exact D.mof' (G.own b hb ⟨j, e2, g1, hbk⟩)
      · by_cases hB : kk ∈ B
        · obtain ⟨v, s, t, rows, hl0⟩ := D.lent kk hB
          rw [lookB kk v s t rows hB hl0] at hl
          injection hl with hl
          subst hl
          simp [mblk] at hbk
        · rw [lookO kk hB hk] at hl
          rw [mblk_cv (cvO kk hk)] at hbk
          exact ⟨kk, e, hl, hbk⟩
    · by_cases hk : k ∈ I ++ keysFrom d 0 n
      · obtain ⟨j, hj, rfl⟩ := mem_K I d n hk
        obtain ⟨e', he'⟩ := esAt j hj
        have hjI : j < I.length := by
          by_cases h0 : j < I.length
          · exact h0
          · rw [hfresh j hj h0] at hl; cases hl
        have hIj : I[j]? = some (backKey I d j) := by
          have g := backKey_get (I := I) (d := d) (n := n) (i := j) hj
          rwa [List.getElem?_append_left hjI] at g
        obtain ⟨e2, e'', g1, g2, g3⟩ := K.wk j _ (List.getElem?_eq_getElem (by rw [K.slen]; exact hj))
        rw [he'] at g2
        injection g2 with g2
        subst g2
        have hsj : ss[j]? = some (ss[j]'(by rw [K.slen]; exact hj)) := List.getElem?_eq_getElem (by rw [K.slen]; exact hj)
        generalize ss[j]'(by rw [K.slen]; exact hj) = s at g3 hsj
        refine ⟨_, lookK j e' he', ?_⟩
        have hcv1 : cv1of cv I j = cv (backKey I d j) := cv1of_at cv hIj
        rcases K.sh j _ hIj with ⟨v, sz, t, rows, q1, q2⟩ | ⟨sh, c, l, q1, q2⟩ | ⟨ml, q1, q2⟩
        · rw [hl] at q1
          injection q1 with q1
          subst q1
          rw [hsj] at q2
          injection q2 with q2
          subst q2
          obtain ⟨rows', rfl, rfl⟩ := g3
          obtain ⟨e2', f1, f2, f3⟩ := G.ent j _ (D.tgt.row j _ v sz t rows hIj hl)
          rw [g1] at f1
          injection f1 with f1
          subst f1
          have hvo := verOf_row hl
          refine ⟨⟨by rw [hvo]; omega, rfl⟩, fun hb => by simp [isBox] at hb, fun hv => ?_⟩
          simp only [backE, rowVer, hvo] at hv
          injection hv with hv
          have h0 : startV h muts (backKey I d j) = 0 := by omega
          rw [cvK j hj, f3 (by simp only [rowVer]; rw [h0]), hcv1]
        · rw [hl] at q1
          injection q1 with q1
          subst q1
          rw [hsj] at q2
          injection q2 with q2
          subst q2
          obtain ⟨_, _, c', rfl, rfl, _⟩ := g3
          obtain ⟨c1, hc1⟩ := D.tgt.box j _ sh c hIj hl
          obtain ⟨e2', f1, f2, f3⟩ := G.ent j _ hc1
          have hcv : cvB cv cv2 (I ++ keysFrom d 0 n) (backKey I d j) = cv (backKey I d j) := by rw [cvK j hj, f2 rfl, hcv1]
          exact ⟨trivial, fun _ => hcv, fun _ => hcv⟩
        · rw [hl] at q1
          injection q1 with q1
          subst q1
          rw [hsj] at q2
          injection q2 with q2
          subst q2
          obtain ⟨ml', rfl, rfl⟩ := g3
          obtain ⟨e2', f1, f2, f3⟩ := G.ent j _ (D.tgt.map j _ ml hIj hl)
          have hcv : cvB cv cv2 (I ++ keysFrom d 0 n) (backKey I d j) = cv (backKey I d j) := by rw [cvK j hj, f2 rfl, hcv1]
          exact ⟨trivial, fun _ => hcv, fun _ => hcv⟩
      · by_cases hB : k ∈ B
        · obtain ⟨v, s, t, rows, hl0⟩ := D.lent k hB
          rw [hl] at hl0
          injection hl0 with hl0
          subst hl0
          exact ⟨_, lookB k v s t rows hB hl, ⟨Nat.le_refl _, rfl⟩, fun _ => cvO k hk, fun _ => cvO k hk⟩
        · exact ⟨e, by rw [lookO k hB hk]; exact hl, .refl e, fun _ => cvO k hk, fun _ => cvO k hk⟩
    · simp only [List.mem_append, not_or] at hk
      have hk2 : k ∉ I ++ keysFrom d 0 n := by simp only [List.mem_append, not_or]; exact hk.2
      exact ⟨lookO k hk.1 hk2, cvO k hk2⟩
  refine ⟨⟨H2.below, H2.bsz, H2.xge, fun kk e hl => ?_, fun kk kk' e e' b hl hl' hb hb' => ?_⟩, go, back⟩
  · by_cases hk : kk ∈ I ++ keysFrom d 0 n
    · obtain ⟨j, hj, rfl⟩ := mem_K I d n hk
      obtain ⟨e', he'⟩ := esAt j hj
      rw [lookK j e' he'] at hl
      injection hl with hl
      subst hl
      obtain ⟨e2, e'', g1, g2, g3⟩ := K.wk j _ (List.getElem?_eq_getElem (by rw [K.slen]; exact hj))
      rw [he'] at g2
      injection g2 with g2
      subst g2
      generalize ss[j]'(by rw [K.slen]; exact hj) = s at g3
      have hE := H2.ent j e2 g1
      cases s with
      | box sh l =>
        obtain ⟨_, c, c', rfl, rfl, hw⟩ := g3
        obtain ⟨b, arr, t, r1, r2, r3, r4⟩ := hE
        refine ⟨b, arr, t, by rw [cvK j hj]; exact r1, r2, r3, ?_⟩
        have hlen1 := r4.length
        have hlen2 := hw.length
        refine All2.of_get (by simp; simp at hlen1; omega) fun i x y hx hy => ?_
        rw [List.getElem?_map] at hy
        cases hc' : c'[i]? with
        | none => rw [hc'] at hy; cases hy
        | some y0 =>
          rw [hc'] at hy
          injection hy with hy
          subst hy
          have hci : i < c.length := by have := (List.getElem?_eq_some_iff.1 hc').1; omega
          have hwi := All2.get i _ _ hw (List.getElem?_eq_getElem hci) hc'
          exact (back x y0 (hwi.ar0 (All2.get i _ _ r4 hx (List.getElem?_eq_getElem hci))) hwi.1).to1
      | row v0 sz t =>
        obtain ⟨rows, rfl, rfl⟩ := g3
        obtain ⟨xs, o1, o2, o3, o4⟩ := hE
        exact ⟨xs, by rw [cvK j hj]; exact o1, fun b hb => o2 b (by rw [cvK j hj] at hb; exact hb), o3, o4⟩
      | map =>
        obtain ⟨ml, rfl, rfl⟩ := g3
        obtain ⟨b, es', cl, r1, r2, r3, r4⟩ := hE
        exact ⟨b, es', cl, (cvK j hj).trans r1, r2, r3, r4⟩
    · by_cases hB : kk ∈ B
      · obtain ⟨v, s, t, rows, hl0⟩ := D.lent kk hB
        rw [lookB kk v s t rows hB hl0] at hl
        injection hl with hl
        subst hl
        show TR w2 X2 (cvB cv cv2 (I ++ keysFrom d 0 n) kk) (.sl s rows)
        rw [cvO kk hk]
        obtain ⟨xs, o1, o2, o3, o4⟩ := H.ent kk _ hl0
        have h3 := row_TR o1 o3 (X' := X1of X cv B) (fun b hb => hb.1) (fun b hb hx => hx.2 kk hB hb)
        exact h3.mono ⟨G.size, fun b hb hx => G.blk b hb fun hm => hx (hH1.mx hm), fun b hb hx => G.xold b hb hx⟩
      · rw [lookO kk hB hk] at hl
        refine (H.ent kk e hl).mono H go (cvO kk hk) fun b hb => ?_
        have hx := H.mx ⟨kk, e, hl, hb⟩
        have hlt := (H.xge b hx).2
        have hnm : ¬ Mof h1 (cv1of cv I) b := by
          intro hm
          obtain ⟨j, kk', e0, g1, g2, g3⟩ := D.mof hm
          have := H.sep kk kk' e e0 b hl g2 hb g3
          subst this
          exact hk (List.mem_append_left _ (List.mem_of_getElem? g1))
        refine ⟨G.blk b hlt hnm, G.xkeep b hlt ⟨hx, fun k' hk' hbk => ?_⟩ hnm⟩
        obtain ⟨v, s, t, rows, hl0⟩ := D.lent k' hk'
        have := H.sep kk k' e _ b hl hl0 hb (by simpa [mblk] using hbk)
        subst this
        exact hB hk'
  · have old : ∀ kk e b, look (freezeAll (backEs h I d 0 es h) B) kk = some e → kk ∉ I ++ keysFrom d 0 n → mblk (cvB cv cv2 (I ++ keysFrom d 0 n)) kk e = some b → look h kk = some e ∧ mblk cv kk e = some b := by
      intro kk e b hl hk hb
      by_cases hB : kk ∈ B
      · obtain ⟨v, s, t, rows, hl0⟩ := D.lent kk hB
        rw [lookB kk v s t rows hB hl0] at hl
        injection hl with hl
        subst hl
        simp [mblk] at hb
      · rw [lookO kk hB hk] at hl
        rw [mblk_cv (cvO kk hk)] at hb
        exact ⟨hl, hb⟩
    have mixed : ∀ kk kk' e e' b, look (freezeAll (backEs h I d 0 es h) B) kk = some e → look (freezeAll (backEs h I d 0 es h) B) kk' = some e' → mblk (cvB cv cv2 (I ++ keysFrom d 0 n)) kk e = some b → mblk (cvB cv cv2 (I ++ keysFrom d 0 n)) kk' e' = some b →
        kk ∈ I ++ keysFrom d 0 n → kk' ∉ I ++ keysFrom d 0 n → False := by
      intro kk kk' e e' b hl hl' hb hb' hk hk'
      obtain ⟨q1, q2⟩ := old kk' e' b hl' hk' hb'
      have hlt := (H.xge b (H.mx ⟨kk', e', q1, q2⟩)).2
      obtain ⟨j, hj, rfl⟩ := mem_K I d n hk
      obtain ⟨e0, he0⟩ := esAt j hj
      obtain ⟨e2, g1, g2⟩ := mK j e0 he0
      rw [lookK j e0 he0] at hl
      injection hl with hl
      subst hl
      rw [g2] at hb
      obtain ⟨j', kk1, e1, f1, f2, f3⟩ := D.mof (G.own b hlt ⟨j, e2, g1, hb⟩)
      have := H.sep kk' kk1 e' e1 b q1 f2 q2 f3
      subst this
      exact hk' (List.mem_append_left _ (List.mem_of_getElem? f1))
    by_cases hk : kk ∈ I ++ keysFrom d 0 n <;> by_cases hk' : kk' ∈ I ++ keysFrom d 0 n
    · obtain ⟨j, hj, rfl⟩ := mem_K I d n hk
      obtain ⟨j', hj', rfl⟩ := mem_K I d n hk'
      obtain ⟨e0, he0⟩ := esAt j hj
      obtain ⟨e0', he0'⟩ := esAt j' hj'
      obtain ⟨e2, g1, g2⟩ := mK j e0 he0
      obtain ⟨e2', g1', g2'⟩ := mK j' e0' he0'
      rw [lookK j e0 he0] at hl
      injection hl with hl
      subst hl
      rw [lookK j' e0' he0'] at hl'
      injection hl' with hl'
      subst hl'
      rw [g2] at hb
      rw [g2'] at hb'
      rw [H2.sep j j' e2 e2' b g1 g1' hb hb']
    · exact (mixed kk kk' e e' b hl hl' hb hb' hk hk').elim
    · exact (mixed kk' kk e' e b hl' hl hb' hb hk' hk).elim
    · obtain ⟨q1, q2⟩ := old kk e b hl hk hb
      obtain ⟨q1', q2'⟩ := old kk' e' b hl' hk' hb'
      exact H.sep kk kk' e e' b q1 q1' q2 q2'
end
end Go.AS
