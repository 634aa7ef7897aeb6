/- AS: regions whose order is open: whichever order. -/
import Derived.Test.YtgihgeppdllnmaaAsF
namespace Go.AS
open Go.RowKit
set_option linter.all false

theorem foldR_false : ∀ (recs : List Rec) (i : Nat) (s : St), foldR (fun _ => false) i recs s = s
  | [], _, _ => rfl
  | rc :: recs, i, s => foldR_false recs (i + 1) s
theorem foldR_last_heap {L : Nat → Bool} {k : Nat} (recs : List Rec) : ∀ (i i0 : Nat) (s : St) (rc : Rec), (∀ (j : Nat) rc, recs[j]? = some rc → ∀ k, k ∈ rc.wr → ∃ e, look rc.h1 k = some e) → recs[i0]? = some rc → k ∈ rc.wr → L (i + i0) = true →
    (∀ (j : Nat) rc', recs[j]? = some rc' → i0 < j → k ∈ rc'.wr → L (i + j) = false) → look (foldR L i recs s).heap k = look rc.h1 k := by
  induction recs with
  | nil => intro i i0 s rc _ h0; simp at h0
  | cons rc0 recs ih =>
    intro i i0 s rc hw h0 hk hL hrest
    have hw' : ∀ (j : Nat) rc, recs[j]? = some rc → ∀ k, k ∈ rc.wr → ∃ e, look rc.h1 k = some e := fun j rc hj => hw (j + 1) rc (by simpa using hj)
    cases i0 with
    | zero =>
      simp at h0
      subst h0
      rw [Nat.add_zero] at hL
      have h1 : ∀ (j : Nat) rc, recs[j]? = some rc → k ∈ rc.wr → L (i + 1 + j) = (fun _ => false) (i + 1 + j) := by
        intro j rc hj hk
        have := hrest (j + 1) rc (by simpa using hj) (by omega) hk
        rwa [show i + (j + 1) = i + 1 + j by omega] at this
      have h2 := foldR_heap (L := L) (L' := fun _ => false) (k := k) recs (i + 1) (rc0.app s) (rc0.app s) hw' rfl h1
      have h3 : look (rc0.app s).heap k = look rc0.h1 k := by
        show look (mergeH s.heap rc0.h1 rc0.wr) k = _
        rw [look_mergeH rc0.wr s.heap k (hw 0 rc0 rfl), if_pos hk]
      simp only [foldR, hL, cond_true]
      rw [h2, foldR_false, h3]
    | succ i0 =>
      simp only [foldR]
      refine ih (i + 1) i0 _ rc hw' (by simpa using h0) hk ?_ ?_
      · rwa [show i + 1 + i0 = i + (i0 + 1) by omega]
      · intro j rc' hj hlt hk'
        have := hrest (j + 1) rc' (by simpa using hj) (by omega) hk'
        rwa [show i + (j + 1) = i + 1 + j by omega] at this
theorem foldR_last_slot {L : Nat → Bool} {t : Nat} (recs : List Rec) : ∀ (i i0 : Nat) (s : St) (rc : Rec), recs[i0]? = some rc → rc.o.dst = some t → L (i + i0) = true → t < s.slots.length →
    (∀ (j : Nat) rc', recs[j]? = some rc' → i0 < j → rc'.o.dst = some t → L (i + j) = false) → (foldR L i recs s).slots[t]? = some rc.v := by
  induction recs with
  | nil => intro i i0 s rc h0; simp at h0
  | cons rc0 recs ih =>
    intro i i0 s rc h0 hk hL ht hrest
    cases i0 with
    | zero =>
      simp at h0
      subst h0
      rw [Nat.add_zero] at hL
      have h1 : ∀ (j : Nat) rc, recs[j]? = some rc → rc.o.dst = some t → L (i + 1 + j) = (fun _ => false) (i + 1 + j) := by
        intro j rc hj hk
        have := hrest (j + 1) rc (by simpa using hj) (by omega) hk
        rwa [show i + (j + 1) = i + 1 + j by omega] at this
      have h2 := foldR_slot (L := L) (L' := fun _ => false) (t := t) recs (i + 1) (rc0.app s) (rc0.app s) rfl h1
      have h3 : (rc0.app s).slots[t]? = some rc0.v := by
        simp only [Rec.app, hk, setN_set, List.getElem?_set, if_true]
        rw [if_pos ht]
      simp only [foldR, hL, cond_true]
      rw [h2, foldR_false, h3]
    | succ i0 =>
      simp only [foldR]
      refine ih (i + 1) i0 _ rc (by simpa using h0) hk ?_ ?_ ?_
      · rwa [show i + 1 + i0 = i + (i0 + 1) by omega]
      · cases L i with
        | false => exact ht
        | true =>
          simp only [cond_true, Rec.app]
          split
          · rw [setN_set]; simpa using ht
          · exact ht
      · intro j rc' hj hlt hk'
        have := hrest (j + 1) rc' (by simpa using hj) (by omega) hk'
        rwa [show i + (j + 1) = i + 1 + j by omega] at this

/-! ### The trace, read off -/
theorem clash_ok {bn : List Nat} {f : FP} : ∀ {n : Nat} {fs : List FP}, clash bn f n fs = false → ∀ (q : Nat) g, fs[q]? = some g → q < n → n - 1 - q ∈ bn ∨ FP.apart f g = true
  | 0, _, _, q, g, _, h => by omega
  | n + 1, [], _, q, g, h, _ => by simp at h
  | n + 1, g0 :: fs, hc, q, g, h, hq => by
    simp only [clash] at hc
    cases hb : cond (mem bn n) true (FP.apart f g0) with
    | false => rw [hb] at hc; cases hc
    | true =>
      rw [hb] at hc
      cases q with
      | zero =>
        simp at h
        subst h
        cases hm : mem bn n with
        | true => left; simpa using (mem_iff _ _).1 hm
        | false => rw [hm] at hb; exact .inr hb
      | succ q =>
        have := clash_ok hc q g (by simpa using h) (by omega)
        rwa [show n - 1 - q = n + 1 - 1 - (q + 1) by omega] at this
theorem foldR_congr {L L' : Nat → Bool} : ∀ (recs : List Rec) (i : Nat) (s : St), (∀ j, i ≤ j → L j = L' j) → foldR L i recs s = foldR L' i recs s
  | [], _, _, _ => rfl
  | rc :: recs, i, s, h => by simp only [foldR, h i (Nat.le_refl _)]; exact foldR_congr recs (i + 1) _ fun j hj => h j (by omega)
section
variable {P : Program} {all : Array Oper} {bs : List (List Nat)}
theorem Tr.read {os : List Oper} : ∀ {n : Nat} {fs : List FP} {s : St} {recs : List Rec} {sN : St}, Tr P all bs n fs os s recs sN → fs.length = n →
    recs.length = os.length ∧ sN = foldR (fun _ => true) n recs s ∧
    ∀ (j : Nat) rc, recs[j]? = some rc → os[j]? = some rc.o ∧ rc.Fits P all (foldR (fun q => Nat.blt q (n + j)) n recs s) (n + j) ∧
      (∀ (j' : Nat) rc', recs[j']? = some rc' → j' < j → n + j' ∈ nth [] bs (n + j) ∨ FP.apart rc.fp rc'.fp = true) ∧ (∀ (q : Nat) g, fs[q]? = some g → n - 1 - q ∈ nth [] bs (n + j) ∨ FP.apart rc.fp g = true) := by
  induction os with
  | nil =>
    intro n fs s recs sN h hl
    cases recs with
    | nil => exact ⟨rfl, h, fun j rc hj => by simp at hj⟩
    | cons _ _ => exact h.elim
  | cons o os ih =>
    intro n fs s recs sN h hl
    cases recs with
    | nil => exact h.elim
    | cons rc recs =>
      obtain ⟨h1, h2, h3, h4⟩ := h
      obtain ⟨q1, q2, q3⟩ := ih h4 (by simp [hl])
      refine ⟨by simp [q1], by rw [q2]; rfl, fun j rc' hj => ?_⟩
      cases j with
      | zero =>
        simp at hj
        subst hj
        have h0 : ∀ j, n ≤ j → Nat.blt j (n + 0) = false := by
          intro j hj
          cases hb : Nat.blt j (n + 0) with
          | true =>
            have : j < n + 0 := by simpa [Nat.blt_eq] using hb
            omega
          | false => rfl
        have e : foldR (fun q => Nat.blt q (n + 0)) n (rc :: recs) s = s := by
          rw [foldR_congr (L' := fun _ => false) _ n s h0, foldR_false]
        refine ⟨by simp [h1], by rw [e]; exact h2, fun j' rc' _ hlt => by omega, fun q g hq => ?_⟩
        exact clash_ok h3 q g hq (by have := (List.getElem?_eq_some_iff.1 hq).1; omega)
      | succ j =>
        obtain ⟨g1, g2, g3, g4⟩ := q3 j rc' (by simpa using hj)
        have hnj : n + (j + 1) = n + 1 + j := by omega
        have e : foldR (fun q => Nat.blt q (n + (j + 1))) n (rc :: recs) s = foldR (fun q => Nat.blt q (n + 1 + j)) (n + 1) recs (rc.app s) := by
          have h0 : Nat.blt n (n + 1 + j) = true := by simp [Nat.blt_eq]; omega
          simp only [hnj, foldR, h0, cond_true]
        rw [e, hnj]
        refine ⟨by simpa using g1, g2, fun j' rc'' hj' hlt => ?_, fun q g hq => ?_⟩
        · cases j' with
          | zero =>
            simp at hj'
            subst hj'
            have := g4 0 rc.fp (by simp)
            rwa [show n + 1 - 1 - 0 = n + 0 by omega] at this
          | succ j' =>
            have := g3 j' rc'' (by simpa using hj') (by omega)
            rwa [show n + 1 + j' = n + (j' + 1) by omega] at this
        · have := g4 (q + 1) g (by simpa using hq)
          rwa [show n + 1 - 1 - (q + 1) = n - 1 - q by omega] at this
end
end Go.AS
