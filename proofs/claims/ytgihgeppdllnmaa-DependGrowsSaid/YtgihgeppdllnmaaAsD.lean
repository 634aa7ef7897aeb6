/- AS: regions whose order is open. -/
import Derived.Test.YtgihgeppdllnmaaAsN
import Derived.Orders
namespace Go.AS
open Go.RowKit
set_option linter.all false

theorem HRel.congr {base wb w X cv h h'} (H : HRel base wb w X cv h) (he : ∀ k, look h' k = look h k) : HRel base wb w X cv h' := by
  have a0 : ∀ {val v}, AR0 w X cv h val v → AR0 w X cv h' val v := by
    intro val v hv
    cases v <;> first | exact hv | (unfold AR0 at hv ⊢; simp only [he]; exact hv)
  have a1 : ∀ {val v}, AR1 w X cv h val v → AR1 w X cv h' val v := by
    intro val v hv
    rcases hv.parts with hv | ⟨f, caps, l, rfl, h1, h2⟩
    · exact (a0 hv).to1
    · exact ⟨l, h1, h2.imp fun _ _ => a0⟩
  refine ⟨H.below, H.bsz, H.xge, fun k e hl => ?_, fun k k' e e' b hl hl' => ?_⟩
  · rw [he] at hl
    have hE := H.ent k e hl
    cases e with
    | box sh cells =>
      obtain ⟨b, arr, t, r1, r2, r3, r4⟩ := hE
      exact ⟨b, arr, t, r1, r2, r3, r4.imp fun _ _ => a1⟩
    | ibox _ => exact hE
    | map _ => exact hE
    | row _ _ _ _ => exact hE
    | irow _ _ _ => exact hE
  · rw [he] at hl hl'
    exact H.sep k k' e e' b hl hl'

/-! ### From one heap to another that knows no less of what matters -/
/-- What is known of the keys of l. -/
def Kn (h h' : Heap) (l : List Nat) : Prop := ∀ k, k ∈ l → look h' k = look h k
section
variable {w : World} {X : Nat → Prop} {cv : CV} {h h' : Heap}
theorem kn0 {val v} (hk : Kn h h' (refsA1 v)) (hv : AR0 w X cv h val v) : AR0 w X cv h' val v := by
  cases v with
  | rowp k ver n => obtain ⟨a, e, v', b, c⟩ := hv; exact ⟨a, e, v', (hk k (by simp [refsA1])).trans b, c⟩
  | ptr k off => obtain ⟨e, b, q, c⟩ := hv; exact ⟨e, b, (hk k (by simp [refsA1])).trans q, c⟩
  | elp k ver i off => obtain ⟨a, e, v', b, c⟩ := hv; exact ⟨a, e, v', (hk k (by simp [refsA1])).trans b, c⟩
  | mapp k => obtain ⟨l, b, q, c⟩ := hv; exact ⟨l, b, (hk k (by simp [refsA1])).trans q, c⟩
  | _ => exact hv
theorem kn0s : ∀ {l : List Value} {m : List AV}, Kn h h' (refsA1s m) → All2 (AR0 w X cv h) l m → All2 (AR0 w X cv h') l m
  | [], [], _, _ => trivial
  | v :: l, a :: m, hk, hv => ⟨kn0 (fun k hm => hk k (by simp [refsA1s, hm])) hv.1, kn0s (fun k hm => hk k (by simp [refsA1s, hm])) hv.2⟩
theorem kn1 {val v} (hk : Kn h h' (refsA2 v)) (hv : AR1 w X cv h val v) : AR1 w X cv h' val v := by
  rcases hv.parts with hv' | ⟨f, caps, l, rfl, h1, h2⟩
  · have h0 : Kn h h' (refsA1 v) := by cases v <;> first | exact hk | exact hv'.elim
    exact (kn0 h0 hv').to1
  · exact ⟨l, h1, kn0s hk h2⟩
theorem kn1s : ∀ {l : List Value} {m : List AV}, Kn h h' (refsA2s m) → All2 (AR1 w X cv h) l m → All2 (AR1 w X cv h') l m
  | [], [], _, _ => trivial
  | v :: l, a :: m, hk, hv => ⟨kn1 (fun k hm => hk k (by simp [refsA2s, hm])) hv.1, kn1s (fun k hm => hk k (by simp [refsA2s, hm])) hv.2⟩
theorem kn2 {val v} (hk : Kn h h' (refsA3 v)) (hv : AR2 w X cv h val v) : AR2 w X cv h' val v := by
  rcases hv.parts with hv' | ⟨cells, l, rfl, h1, h2⟩
  · have h0 : Kn h h' (refsA2 v) := by cases v <;> first | exact hk | exact absurd hv' (by simp [AR1, AR0])
    exact (kn1 h0 hv').to2
  · exact ⟨l, h1, kn1s hk h2⟩
theorem kn2s : ∀ {l : List Value} {m : List AV}, Kn h h' (refsA3s m) → All2 (AR2 w X cv h) l m → All2 (AR2 w X cv h') l m
  | [], [], _, _ => trivial
  | v :: l, a :: m, hk, hv => ⟨kn2 (fun k hm => hk k (by simp [refsA3s, hm])) hv.1, kn2s (fun k hm => hk k (by simp [refsA3s, hm])) hv.2⟩
theorem kn3 {val v} (hk : Kn h h' (refsA v)) (hv : AR3 w X cv h val v) : AR3 w X cv h' val v := by
  rcases hv.parts with hv' | ⟨ps, l, rfl, h1, h2⟩
  · have h0 : Kn h h' (refsA3 v) := by cases v <;> first | exact hk | exact absurd hv' (by simp [AR2, AR1, AR0])
    exact (kn2 h0 hv').to3
  · exact ⟨l, h1, kn2s hk h2⟩
theorem kn3s : ∀ {l : List Value} {m : List AV}, Kn h h' (refsAs m) → All2 (AR3 w X cv h) l m → All2 (AR3 w X cv h') l m
  | [], [], _, _ => trivial
  | v :: l, a :: m, hk, hv => ⟨kn3 (fun k hm => hk k (by simp [refsAs, hm])) hv.1, kn3s (fun k hm => hk k (by simp [refsAs, hm])) hv.2⟩
end
/-- More entries do no harm. -/
theorem ext3 {w X cv h h'} (he : ∀ k e, look h k = some e → look h' k = some e) {val v} (hv : AR3 w X cv h val v) : AR3 w X cv h' val v := by
  have e0 : ∀ {val v}, AR0 w X cv h val v → AR0 w X cv h' val v := by
    intro val v hv
    cases v with
    | rowp k ver n => obtain ⟨a, e, v', b, c⟩ := hv; exact ⟨a, e, v', he k e b, c⟩
    | ptr k off => obtain ⟨e, b, q, c⟩ := hv; exact ⟨e, b, he k e q, c⟩
    | elp k ver i off => obtain ⟨a, e, v', b, c⟩ := hv; exact ⟨a, e, v', he k e b, c⟩
    | mapp k => obtain ⟨l, b, q, c⟩ := hv; exact ⟨l, b, he k _ q, c⟩
    | _ => exact hv
  have e1 : ∀ {val v}, AR1 w X cv h val v → AR1 w X cv h' val v := by
    intro val v hv
    rcases hv.parts with hv | ⟨f, caps, l, rfl, h1, h2⟩
    · exact (e0 hv).to1
    · exact ⟨l, h1, h2.imp fun _ _ => e0⟩
  have e2 : ∀ {val v}, AR2 w X cv h val v → AR2 w X cv h' val v := by
    intro val v hv
    rcases hv.parts with hv | ⟨f, l, rfl, h1, h2⟩
    · exact (e1 hv).to2
    · exact ⟨l, h1, h2.imp fun _ _ => e1⟩
  rcases hv.parts with hv | ⟨f, l, rfl, h1, h2⟩
  · exact (e2 hv).to3
  · exact ⟨l, h1, h2.imp fun _ _ => e2⟩
theorem ext1 {w X cv h h'} (he : ∀ k e, look h k = some e → look h' k = some e) {val v} (hv : AR1 w X cv h val v) : AR1 w X cv h' val v := by
  have h3 := ext3 he hv.to2.to3
  cases v <;> first | exact h3 | exact absurd hv (by simp [AR1, AR0])

theorem look_pickH (M : List Nat) : ∀ (h : Heap) (k : Nat), look (pickH M h) k = if k ∈ M then look h k else none
  | [], k => by simp [pickH, look, asc]
  | (k0, e) :: h, k => by
    have ih := look_pickH M h k
    simp only [look] at ih
    simp only [pickH]
    cases hm : mem M k0 with
    | true =>
      have hk0 := (mem_iff M k0).1 hm
      simp only [cond_true, look, asc]
      cases hb : Nat.beq k0 k with
      | true => have := beq_eq hb; subst this; simp [hk0]
      | false => simpa using ih
    | false =>
      have hk0 : k0 ∉ M := fun h => by rw [(mem_iff M k0).2 h] at hm; cases hm
      simp only [cond_false, look, asc]
      cases hb : Nat.beq k0 k with
      | true =>
        have := beq_eq hb
        subst this
        rw [ih]
        simp [hk0]
      | false => simpa using ih
theorem subN_ok : ∀ {l m : List Nat}, subN l m = true → ∀ k, k ∈ l → k ∈ m
  | a :: l, m, h, k, hk => by
    simp only [subN] at h
    cases hb : mem m a with
    | true =>
      rw [hb] at h
      rcases List.mem_cons.1 hk with rfl | hk
      · exact (mem_iff _ _).1 hb
      · exact subN_ok h k hk
    | false => rw [hb] at h; cases h
theorem closedH_ok {M : List Nat} : ∀ {h : Heap}, closedH M h = true → ∀ k sh cells, look h k = some (.box sh cells) → ∀ j, j ∈ refsA2s cells → j ∈ M
  | (k0, e0) :: h, hc, k, sh, cells, hl, j, hj => by
    have tail : closedH M h = true → look h k = some (.box sh cells) → j ∈ M := fun h1 h2 => closedH_ok h1 k sh cells h2 j hj
    simp only [look, asc] at hl
    cases hb : Nat.beq k0 k with
    | true =>
      rw [hb] at hl
      injection hl with hl
      subst hl
      simp only [closedH] at hc
      cases hs : subN (refsA2s cells) M with
      | true => exact subN_ok hs j hj
      | false => rw [hs] at hc; cases hc
    | false =>
      rw [hb] at hl
      refine tail ?_ hl
      cases e0 with
      | box sh0 c0 =>
        simp only [closedH] at hc
        cases hs : subN (refsA2s c0) M with
        | true => rw [hs] at hc; exact hc
        | false => rw [hs] at hc; cases hc
      | _ => exact hc
/-- The heap that an operation sees. -/
theorem HRel.pick {base wb w X cv h hm} {M : List Nat} (H : HRel base wb w X cv h) (hl : ∀ k, look hm k = if k ∈ M then look h k else none) (hc : closedH M hm = true) : HRel base wb w X cv hm := by
  have sub : ∀ k e, look hm k = some e → k ∈ M ∧ look h k = some e := by
    intro k e hk
    rw [hl] at hk
    split at hk
    · rename_i hm; exact ⟨hm, hk⟩
    · cases hk
  refine ⟨H.below, H.bsz, H.xge, fun k e hk => ?_, fun k k' e e' b hk hk' => H.sep k k' e e' b (sub k e hk).2 (sub k' e' hk').2⟩
  have hE := H.ent k e (sub k e hk).2
  cases e with
  | box sh cells =>
    obtain ⟨b, arr, t, r1, r2, r3, r4⟩ := hE
    exact ⟨b, arr, t, r1, r2, r3, kn1s (fun j hj => by rw [hl, if_pos (closedH_ok hc k sh cells hk j hj)]) r4⟩
  | ibox _ => exact hE
  | map _ => exact hE
  | row _ _ _ _ => exact hE
  | irow _ _ _ => exact hE
theorem freshWr_ok {M : List Nat} {h h1 : Heap} : ∀ {wr : List Nat}, freshWr M h h1 wr = true → ∀ k, k ∈ wr → (∃ e, look h1 k = some e) ∧ (k ∈ M ∨ look h k = none)
  | a :: wr, hf, k, hk => by
    simp only [freshWr] at hf
    split at hf
    · cases hf
    · rename_i e he
      cases hb : mem M a with
      | true =>
        rw [hb] at hf
        rcases List.mem_cons.1 hk with rfl | hk
        · exact ⟨⟨e, he⟩, .inl ((mem_iff _ _).1 hb)⟩
        · exact freshWr_ok hf k hk
      | false =>
        rw [hb] at hf
        simp only [cond_false] at hf
        split at hf
        · rename_i hn
          rcases List.mem_cons.1 hk with rfl | hk
          · exact ⟨⟨e, he⟩, .inr hn⟩
          · exact freshWr_ok hf k hk
        · cases hf
theorem look_mergeH {h1 : Heap} : ∀ (wr : List Nat) (h : Heap) (k : Nat), (∀ k, k ∈ wr → ∃ e, look h1 k = some e) → look (mergeH h h1 wr) k = if k ∈ wr then look h1 k else look h k
  | [], h, k, _ => by simp [mergeH]
  | a :: wr, h, k, hw => by
    obtain ⟨e, he⟩ := hw a (by simp)
    simp only [mergeH, he]
    rw [look_mergeH wr _ k fun k hk => hw k (by simp [hk]), look_upd]
    by_cases hk : k ∈ wr
    · simp [hk]
    · by_cases ha : a = k
      · subst ha; simp [hk, he]
      · simp [hk, ha, Ne.symm ha]
/-- What an operation did to the heap that it saw, done to the whole. -/
theorem frame_ok {base wb w X cv h hm w' X' cv' h1} {M wr : List Nat} (H : HRel base wb w X cv h) (hl : ∀ k, look hm k = if k ∈ M then look h k else none) (H1 : HRel base wb w' X' cv' h1) (G : Go1 wr w X cv hm w' X' cv' h1)
    (hw : ∀ k, k ∈ wr → (∃ e, look h1 k = some e) ∧ (k ∈ M ∨ look h k = none)) :
    HRel base wb w' X' cv' (mergeH h h1 wr) ∧ Go1 wr w X cv h w' X' cv' (mergeH h h1 wr) ∧ ∀ k e, look h1 k = some e → look (mergeH h h1 wr) k = some e := by
  have lm : ∀ k, look (mergeH h h1 wr) k = if k ∈ wr then look h1 k else look h k := fun k => look_mergeH wr h k fun k hk => (hw k hk).1
  have sub : ∀ k e, look hm k = some e → k ∈ M ∧ look h k = some e := by
    intro k e hk
    rw [hl] at hk
    split at hk
    · rename_i hm; exact ⟨hm, hk⟩
    · cases hk
  have mofm : ∀ b, Mof hm cv b → Mof h cv b := fun b ⟨k, e, hk, hb⟩ => ⟨k, e, (sub k e hk).2, hb⟩
  have ext : ∀ k e, look h1 k = some e → look (mergeH h h1 wr) k = some e := by
    intro k e hk
    rw [lm]
    split
    · exact hk
    · rename_i hn
      obtain ⟨g1, _⟩ := G.wr k hn
      rw [g1] at hk
      exact (sub k e hk).2
  -- an entry of the whole: of what was seen, or as it was
  have cases1 : ∀ k e, look (mergeH h h1 wr) k = some e → look h1 k = some e ∨ (k ∉ wr ∧ k ∉ M ∧ look h k = some e ∧ cv' k = cv k) := by
    intro k e hk
    rw [lm] at hk
    split at hk
    · exact .inl hk
    · rename_i hn
      obtain ⟨g1, g2⟩ := G.wr k hn
      by_cases hM : k ∈ M
      · left; rw [g1, hl, if_pos hM]; exact hk
      · exact .inr ⟨hn, hM, hk, g2⟩
  have go : Go1 wr w X cv h w' X' cv' (mergeH h h1 wr) := by
    refine ⟨G.size, fun b hb hm => G.blk b hb fun h' => hm (mofm b h'), G.xold, fun b hb hx hm => G.xkeep b hb hx fun h' => hm (mofm b h'), fun b hb hm => ?_, fun k e hk => ?_, fun k hk => ?_⟩
    · obtain ⟨k, e, hk, hbk⟩ := hm
      rcases cases1 k e hk with h' | ⟨_, _, h', hc⟩
      · exact mofm b (G.own b hb ⟨k, e, h', hbk⟩)
      · rw [mblk_cv hc] at hbk
        exact ⟨k, e, h', hbk⟩
    · by_cases hM : k ∈ M
      · obtain ⟨e', g1, g2⟩ := G.ent k e (by rw [hl, if_pos hM]; exact hk)
        exact ⟨e', ext k e' g1, g2⟩
      · have hn : k ∉ wr := by
          intro hk'
          rcases (hw k hk').2 with h' | h'
          · exact hM h'
          · rw [hk] at h'; cases h'
        obtain ⟨_, g2⟩ := G.wr k hn
        exact ⟨e, by rw [lm, if_neg hn]; exact hk, .refl e, fun _ => g2, fun _ => g2⟩
    · obtain ⟨_, g2⟩ := G.wr k hk
      exact ⟨by rw [lm, if_neg hk], g2⟩
  -- a block that was not seen
  have old : ∀ k e b, k ∉ M → look h k = some e → mblk cv k e = some b → b < w.heap.size ∧ X b ∧ ¬ Mof hm cv b := by
    intro k e b hM hk hb
    have hx := H.mx ⟨k, e, hk, hb⟩
    refine ⟨(H.xge b hx).2, hx, ?_⟩
    rintro ⟨k', e', hk', hb'⟩
    obtain ⟨q1, q2⟩ := sub k' e' hk'
    have := H.sep k k' e e' b hk q2 hb hb'
    subst this
    exact hM q1
  refine ⟨⟨H1.below, H1.bsz, H1.xge, fun k e hk => ?_, fun k k' e e' b hk hk' hb hb' => ?_⟩, go, ext⟩
  · rcases cases1 k e hk with h' | ⟨hn, hM, h', hc⟩
    · have hE := H1.ent k e h'
      cases e with
      | box sh cells =>
        obtain ⟨b, arr, t, r1, r2, r3, r4⟩ := hE
        exact ⟨b, arr, t, r1, r2, r3, r4.imp fun _ _ => ext1 ext⟩
      | ibox _ => exact hE
      | map _ => exact hE
      | row _ _ _ _ => exact hE
      | irow _ _ _ => exact hE
    · refine (H.ent k e h').mono H go hc fun b hb => ?_
      obtain ⟨o1, o2, o3⟩ := old k e b hM h' hb
      exact ⟨G.blk b o1 o3, G.xkeep b o1 o2 o3⟩
  · have mixed : ∀ k k' e e', look h1 k = some e → mblk cv' k e = some b → k' ∉ M → look h k' = some e' → cv' k' = cv k' → mblk cv' k' e' = some b → False := by
      intro k k' e e' hk hb hM hk' hc hb'
      rw [mblk_cv hc] at hb'
      obtain ⟨o1, o2, o3⟩ := old k' e' b hM hk' hb'
      exact o3 (G.own b o1 ⟨k, e, hk, hb⟩)
    rcases cases1 k e hk with h' | ⟨hn, hM, h', hc⟩ <;> rcases cases1 k' e' hk' with g' | ⟨gn, gM, g', gc⟩
    · exact H1.sep k k' e e' b h' g' hb hb'
    · exact (mixed k k' e e' h' hb gM g' gc hb').elim
    · exact (mixed k' k e' e g' hb' hM h' hc hb).elim
    · rw [mblk_cv hc] at hb
      rw [mblk_cv gc] at hb'
      exact H.sep k k' e e' b h' g' hb hb'
end Go.AS
