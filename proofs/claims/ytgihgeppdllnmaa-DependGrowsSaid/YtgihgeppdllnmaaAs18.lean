/- AS, part 18: slices at a loop's head. -/
import Derived.Test.YtgihgeppdllnmaaAs17
namespace Go.AS
open Go.RowKit
set_option linter.all false

def BoxKeep (h h1 : Heap) : Prop := ∀ k sh c, look h k = some (.box sh c) → look h1 k = some (.box sh c)
section
variable {base : Nat} {wb w : World} {lv : Lv}
theorem tokAt_ok {X cv h} (H : HRel base wb w X cv h) {val : Value} {v : AV} (hv : AR1 w X cv h val v) (kk : Nat) :
    ∃ X1 cv1 wr, HRel base wb w X1 cv1 (tokAt lv kk v h).2 ∧ Go1 wr w X cv h w X1 cv1 (tokAt lv kk v h).2 ∧ AR1 w X1 cv1 (tokAt lv kk v h).2 val (tokAt lv kk v h).1 ∧ BoxKeep h (tokAt lv kk v h).2 := by
  have stay : ∃ X1 cv1 wr, HRel base wb w X1 cv1 h ∧ Go1 wr w X cv h w X1 cv1 h ∧ AR1 w X1 cv1 h val v ∧ BoxKeep h h := ⟨X, cv, [], H, .refl .., hv, fun _ _ _ h => h⟩
  unfold tokAt
  split
  · split
    · rename_i x h1 w1 hs
      obtain ⟨⟨X1, H1, G1, t1⟩, b1⟩ := strip0_ok H hv hs
      exact ⟨X1, cv, w1, H1, G1, t1, b1⟩
    · exact stay
  · split
    · rename_i e s
      cases hb : Nat.ble 1 s with
      | false => exact stay
      | true =>
        simp only [cond_true]
        split
        · rename_i hn
          have hval : val = .slice none 0 0 := hv
          obtain ⟨X1, cv1, H1, G1, a1⟩ := nilRow_ok H hn (e := e) (ble_le hb)
          refine ⟨X1, cv1, _, H1, G1, by rw [hval]; exact a1, fun k sh c hl => ?_⟩
          show look (upd h kk _) k = _
          rw [look_upd_other _ _ (fun he => ?_)]
          · exact hl
          · subst he; rw [hn] at hl; cases hl
        · exact stay
    · exact stay
theorem tokAt_agg {X cv h} {val : Value} {v : AV} (hv : AR3 w X cv h val v) (kk : Nat) : AR1 w X cv h val v ∨ tokAt lv kk v h = (v, h) := by
  rcases hv.parts with hv | ⟨ps, l, rfl, _, _⟩
  · rcases hv.parts with hv | ⟨cells, l, rfl, _, _⟩
    · exact .inl hv
    · right; unfold tokAt; split <;> rfl
  · right; unfold tokAt; split <;> rfl
theorem tokSlots_ok : ∀ {vals : List Value} {l : List AV} {i : Nat} {X cv h} (H : HRel base wb w X cv h) (hv : All2 (AR3 w X cv h) vals l),
    ∃ X1 cv1 wr, HRel base wb w X1 cv1 (tokSlots lv i l h).2 ∧ Go1 wr w X cv h w X1 cv1 (tokSlots lv i l h).2 ∧ All2 (AR3 w X1 cv1 (tokSlots lv i l h).2) vals (tokSlots lv i l h).1
  | [], [], i, X, cv, h, H, _ => ⟨X, cv, [], H, .refl .., trivial⟩
  | val :: vals, v :: l, i, X, cv, h, H, hv => by
    have h1 : ∃ X1 cv1 wr, HRel base wb w X1 cv1 (tokAt lv (key i 63) v h).2 ∧ Go1 wr w X cv h w X1 cv1 (tokAt lv (key i 63) v h).2 ∧ AR3 w X1 cv1 (tokAt lv (key i 63) v h).2 val (tokAt lv (key i 63) v h).1 := by
      rcases tokAt_agg (lv := lv) hv.1 (key i 63) with h1 | h1
      · obtain ⟨X1, cv1, wr, a, b, c, _⟩ := tokAt_ok (lv := lv) H h1 (key i 63)
        exact ⟨X1, cv1, wr, a, b, c.to2.to3⟩
      · rw [h1]; exact ⟨X, cv, [], H, .refl .., hv.1⟩
    obtain ⟨X1, cv1, wr1, H1, G1, a1⟩ := h1
    obtain ⟨X2, cv2, wr2, H2, G2, a2⟩ := tokSlots_ok (i := i + 1) H1 (hv.2.imp fun _ _ => AR3.mono (G1.keep H) G1)
    exact ⟨X2, cv2, _, H2, G1.trans G2, a1.mono (G2.keep H1) G2, a2⟩
theorem tokCells_ok {k : Nat} : ∀ {vals : List Value} {l : List AV} {j : Nat} {X cv h} (H : HRel base wb w X cv h) (hv : All2 (AR1 w X cv h) vals l),
    ∃ X1 cv1 wr, HRel base wb w X1 cv1 (tokCells lv k j l h).2 ∧ Go1 wr w X cv h w X1 cv1 (tokCells lv k j l h).2 ∧ All2 (AR1 w X1 cv1 (tokCells lv k j l h).2) vals (tokCells lv k j l h).1 ∧ BoxKeep h (tokCells lv k j l h).2
  | [], [], j, X, cv, h, H, _ => ⟨X, cv, [], H, .refl .., trivial, fun _ _ _ h => h⟩
  | val :: vals, v :: l, j, X, cv, h, H, hv => by
    obtain ⟨X1, cv1, wr1, H1, G1, a1, b1⟩ := tokAt_ok (lv := lv) H hv.1 (k + 1 + j)
    obtain ⟨X2, cv2, wr2, H2, G2, a2, b2⟩ := tokCells_ok (k := k) (j := j + 1) H1 (hv.2.imp fun _ _ => AR1.mono (G1.keep H) G1)
    exact ⟨X2, cv2, _, H2, G1.trans G2, ⟨a1.mono (G2.keep H1) G2, a2⟩, fun k sh c hl => b2 k sh c (b1 k sh c hl)⟩
theorem tokHeap_ok : ∀ {l : Heap} {X cv h} (H : HRel base wb w X cv h), ∃ X1 cv1 wr, HRel base wb w X1 cv1 (tokHeap lv l h) ∧ Go1 wr w X cv h w X1 cv1 (tokHeap lv l h)
  | [], X, cv, h, H => ⟨X, cv, [], H, .refl ..⟩
  | (k, e) :: l, X, cv, h, H => by
    unfold tokHeap
    split
    · rename_i sh cells hl
      obtain ⟨b, arr, t, r1, r2, r3, r4⟩ := H.ent k _ hl
      obtain ⟨X1, cv1, wr1, H1, G1, a1, b1⟩ := tokCells_ok (lv := lv) (k := k) (j := 0) H r4
      have hl1 := b1 k sh cells hl
      obtain ⟨b', arr', t', s1, s2, s3, s4⟩ := H1.ent k _ hl1
      have hcv : cv1 k = cv k := by
        obtain ⟨e', g1, g2, g3, g4⟩ := G1.ent k _ hl
        exact g3 rfl
      rw [hcv, r1] at s1
      injection s1 with s1; injection s1 with s1; injection s1 with s1
      subst s1
      rw [r2] at s2
      injection s2 with s2; injection s2 with s2 s2' s2''
      subst s2 s2'
      have hnew : ∀ b', mblk (setCV cv1 k (cv1 k)) k (.box sh (tokCells lv k 0 cells h).1) = some b' → mblk cv1 k (.box sh cells) = some b' := by
        intro b' hb
        rw [setCV_self] at hb
        exact hb
      have G2 := H1.putGo (e' := .box sh (tokCells lv k 0 cells h).1) (c := cv1 k) hl1 trivial (Nat.le_refl _) (fun _ _ _ => rfl) (fun _ => rfl) (fun _ => rfl) (fun b' hb => .inl (hnew b' hb))
      have H2 := H1.put (e' := .box sh (tokCells lv k 0 cells h).1) (c := cv1 k) hl1 trivial (Nat.le_refl _) (fun _ _ _ => rfl) ⟨rfl, rfl, rfl⟩ (fun _ => rfl) (fun _ => rfl) (fun b' hb => .inl (hnew b' hb)) (by
        rw [setCV_self] at G2 ⊢
        exact ⟨b, arr, t, hcv.trans r1, r2, .inl s3, a1.imp fun _ _ => AR1.mono (G2.keep H1) G2⟩)
      obtain ⟨X3, cv3, wr3, H3, G3⟩ := tokHeap_ok (l := l) H2
      exact ⟨X3, cv3, _, H3, (G1.trans G2).trans G3⟩
    · exact tokHeap_ok (l := l) H
end
theorem tok_ok {E : Start} {a : Act} {w : World} {s : St} (hi : Inv E a w s) (lv : Lv) : Inv E a w (tok lv s) := by
  obtain ⟨h0, X, cv, H, hs, p⟩ := hi
  obtain ⟨X1, cv1, wr1, H1, G1, a1⟩ := tokSlots_ok (lv := lv) (i := 0) H hs
  obtain ⟨X2, cv2, wr2, H2, G2⟩ := tokHeap_ok (lv := lv) (l := (tokSlots lv 0 s.slots s.heap).2) H1
  exact ⟨h0, X2, cv2, H2, a1.imp fun _ _ => AR3.mono (G2.keep H1) G2, (p.go G1).go G2⟩

/-! ### Steps of a region -/
section
variable {P : Program} {cx : Cx} {C : CallF} {β : Type} {r : β}
theorem slot_at {R : Value → AV → Prop} {l : List Value} {m : List AV} (h : All2 R l m) {g : Nat} (hn : nth .dead m g ≠ .dead) : ∃ v, l[g]? = some v ∧ R v (nth .dead m g) := by
  have hl := h.length
  have hg : g < m.length := by
    by_cases hg : g < m.length
    · exact hg
    · exfalso; apply hn; rw [nth_get, List.getElem?_eq_none (by omega)]; rfl
  exact ⟨_, List.getElem?_eq_getElem (by omega), All2.get g _ _ h (List.getElem?_eq_getElem (by omega)) (nth_of _ hg)⟩
theorem put_ok {R : Value → AV → Prop} {a : Act} {s : List AV} {v : Value} {av : AV} (h : All2 R a.tmps.toList s) (hr : R v av) (dst : Option Tmp) (hp : Heap) : All2 R (a.put dst v).tmps.toList (St.putd ⟨s, hp⟩ dst av hp).slots := by
  cases dst with
  | none => exact h
  | some d =>
    simp only [Act.put, St.putd, Array.toList_setIfInBounds]
    exact All2.set d v av h hr
theorem guard_ok {all : Array Oper} {w X cv h} {tmps : Array Value} {s : List AV} (hs : All2 (AR3 w X cv h) tmps.toList s) {j g : Nat} (hg : (nth default all.toList j).dst = some g) (hn : nth .dead s g ≠ .dead) :
    ∃ v, (((all[j]?).bind (·.dst)).bind (tmps[·]?)) = some v ∧ AR3 w X cv h v (nth .dead s g) := by
  obtain ⟨v, h1, h2⟩ := slot_at hs hn
  refine ⟨v, ?_, h2⟩
  have hj : (all[j]?).bind (·.dst) = some g := by
    rw [nth_get] at hg
    cases hl : all.toList[j]? with
    | none => rw [hl] at hg; cases hg
    | some o =>
      rw [hl] at hg
      have : all[j]? = some o := by simpa using hl
      rw [this]
      exact hg
  rw [hj]
  simpa using h1
theorem setN_self {α : Type} (d : α) : ∀ (l : List α) (i : Nat), setN l i (nth d l i) = l
  | [], _ => rfl
  | _ :: _, 0 => rfl
  | x :: l, i + 1 => by simp only [setN, nth]; rw [setN_self d l i]

/-- One operation of a region, taken as the abstract state says. -/
theorem stepK_ok (E : EnvOk P cx C) {all : Array Oper} {o : Oper} {s : St} {a : Act} {base wb w X cv} (H : HRel base wb w X cv s.heap) (hs : All2 (AR3 w X cv s.heap) a.tmps.toList s.slots) {k : St → List Nat → List Nat → Option β} (hk : stepK cx C all.toList o s k = some r) :
    ∃ v h' rd wr, k (s.putd o.dst v h') rd wr = some r ∧ ((Region.wanted o (yielded all a.tmps) = true ∧ OpOk P o a base wb w X cv s.heap v h' wr) ∨ (Region.wanted o (yielded all a.tmps) = false ∧ v = .undef ∧ h' = s.heap)) := by
  unfold stepK at hk
  cases hgd : o.guard with
  | none =>
    rw [hgd] at hk
    obtain ⟨v, h', rd, wr, hk, ho⟩ := opK_ok E H hs hk
    exact ⟨v, h', rd, wr, hk, .inl ⟨by simp [Region.wanted, hgd], ho⟩⟩
  | some q =>
    obtain ⟨j, want⟩ := q
    rw [hgd] at hk
    simp only at hk
    cases hd : (nth default all.toList j).dst with
    | none => rw [hd] at hk; cases hk
    | some g =>
      rw [hd] at hk
      simp only at hk
      split at hk
      · rename_i hu
        obtain ⟨v, h1, h2⟩ := guard_ok (all := all) hs hd (by rw [hu]; simp)
        rw [hu] at h2
        have h2 : v = undef := h2
        refine ⟨_, _, _, _, hk, .inr ⟨?_, rfl, rfl⟩⟩
        simp [Region.wanted, hgd, yielded, h1, h2, undef]
      · rename_i x hx
        obtain ⟨v, h1, h2⟩ := guard_ok (all := all) hs hd (by rw [hx]; simp)
        rw [hx] at h2
        cases x <;> simp only [T.boolK] at hk <;> first | cases hk; done | skip
        rename_i b
        have h2 : v = .bool b := by cases (show TR w X v (.bool b) from h2); rfl
        have hy : yielded all a.tmps j = some b := by simp [yielded, h1, h2]
        have same : ∀ c, b = c → (⟨setN s.slots g (.t (.bool c)), s.heap⟩ : St) = s := by
          rintro c rfl
          have := setN_self .dead s.slots g
          rw [hx] at this
          rw [this]
        have yes : b = want → opK cx C o s (fun v h rd wr => k (s.putd o.dst v h) rd wr) = some r → ∃ v h' rd wr, k (s.putd o.dst v h') rd wr = some r ∧ ((Region.wanted o (yielded all a.tmps) = true ∧ OpOk P o a base wb w X cv s.heap v h' wr) ∨ (Region.wanted o (yielded all a.tmps) = false ∧ v = .undef ∧ h' = s.heap)) := by
          intro hb hk
          obtain ⟨v, h', rd, wr, hk, ho⟩ := opK_ok E H hs hk
          exact ⟨v, h', rd, wr, hk, .inl ⟨by simp [Region.wanted, hgd, hy, hb], ho⟩⟩
        have no : b ≠ want → k (s.putd o.dst .undef s.heap) [] [] = some r → ∃ v h' rd wr, k (s.putd o.dst v h') rd wr = some r ∧ ((Region.wanted o (yielded all a.tmps) = true ∧ OpOk P o a base wb w X cv s.heap v h' wr) ∨ (Region.wanted o (yielded all a.tmps) = false ∧ v = .undef ∧ h' = s.heap)) := by
          intro hb hk
          exact ⟨_, _, _, _, hk, .inr ⟨by simp [Region.wanted, hgd, hy, hb], rfl, rfl⟩⟩
        cases want <;> cases b <;> simp only [cond_true, cond_false] at hk
        · rw [same false rfl] at hk; exact yes rfl hk
        · rw [same true rfl] at hk; exact no (by simp) hk
        · rw [same false rfl] at hk; exact no (by simp) hk
        · rw [same true rfl] at hk; exact yes rfl hk
      · cases hk
end
end Go.AS
