/- AS, part 3: the ways in which memory goes on: a new box or row, a row or box that is fixed, a store, an append. -/
import Derived.Test.YtgihgeppdllnmaaAs2
namespace Go.AS
open Go.RowKit
set_option linter.all false

theorem ownsRow_same {w w' : World} {base s n : Nat} {e : TypeId} {v : Value} {xs : List Value} (H : w.ownsRow base e s v n xs) (hb : ∀ b, v.ownBlock = some b → w'.heap[b]? = w.heap[b]?) : w'.ownsRow base e s v n xs := by
  refine ⟨H.1, ?_⟩
  rcases H.2 with h | ⟨g, cap, cur, rfl, h1, h2, h3⟩
  · exact .inl h
  · exact .inr ⟨g, cap, cur, rfl, h1, (hb g rfl).trans h2, h3⟩
theorem EntR.mono {base wb w X cv h wr w' X' cv' h' k e} (H : HRel base wb w X cv h) (G : Go1 wr w X cv h w' X' cv' h') (E : EntR w X cv h k e) (hcv : cv' k = cv k)
    (hun : ∀ b, mblk cv k e = some b → w'.heap[b]? = w.heap[b]? ∧ X' b) : EntR w' X' cv' h' k e := by
  have K := G.keep H
  cases e with
  | box sh cells =>
    obtain ⟨b, arr, t, h1, h2, h3, h4⟩ := E
    obtain ⟨g1, g2⟩ := hun b (by simp [mblk, h1, ptrBlock])
    exact ⟨b, arr, t, hcv.trans h1, g1.trans h2, g2, h4.imp fun _ _ => AR1.mono K G⟩
  | ibox cells =>
    obtain ⟨b, h1, h2⟩ := E
    exact ⟨b, hcv.trans h1, by rw [hcv]; exact h2.mono K⟩
  | row v s t rows =>
    obtain ⟨xs, h1, h2, h3, h4⟩ := E
    refine ⟨xs, ?_, ?_, h3.mono K, h4⟩
    · rw [hcv]; exact ownsRow_same h1 fun b hb => (hun b hb).1
    · intro b hb; rw [hcv] at hb; exact (hun b hb).2
  | irow v s rows =>
    show TR _ _ (cv' k) _
    rw [hcv]
    exact TR.mono K E
  | map l =>
    obtain ⟨b, es, cl, h1, h2, h3, h4⟩ := E
    obtain ⟨g1, g2⟩ := hun b (by simp [mblk, h1, mapBlock])
    exact ⟨b, es, cl, hcv.trans h1, g1.trans h2, g2, h4⟩

theorem Go1.below {base wb w X cv h wr w' X' cv' h'} (H : HRel base wb w X cv h) (G : Go1 wr w X cv h w' X' cv' h') (ho : w'.os = w.os ∧ w'.tape = w.tape ∧ w'.output = w.output) : Below base wb w' := by
  refine H.below.trans ⟨ho.1, ho.2.1, ho.2.2, G.size, fun k hk => G.blk k (Nat.lt_of_lt_of_le hk H.bsz) fun hm => ?_⟩
  have := (H.xge k (H.mx hm)).1
  omega

theorem HRel.step {base wb w X cv h wr w' X' cv' h'} (H : HRel base wb w X cv h) (G : Go1 wr w X cv h w' X' cv' h') (ho : w'.os = w.os ∧ w'.tape = w.tape ∧ w'.output = w.output)
    (hx : ∀ b, X' b → base ≤ b ∧ b < w'.heap.size)
    (hun : ∀ k e b, k ∉ wr → look h k = some e → mblk cv k e = some b → w'.heap[b]? = w.heap[b]? ∧ X' b)
    (hent : ∀ k, k ∈ wr → ∀ e, look h' k = some e → EntR w' X' cv' h' k e)
    (hsep : ∀ k k' e e' b, k ∈ wr → look h' k = some e → look h' k' = some e' → mblk cv' k e = some b → mblk cv' k' e' = some b → k = k') : HRel base wb w' X' cv' h' := {
  below := G.below H ho
  bsz := Nat.le_trans H.bsz G.size
  xge := hx
  ent k e hk := by
    by_cases hm : k ∈ wr
    · exact hent k hm e hk
    · obtain ⟨g1, g2⟩ := G.wr k hm
      rw [g1] at hk
      exact (H.ent k e hk).mono H G g2 fun b hb => hun k e b hm hk hb
  sep k k' e e' b hk hk' hb hb' := by
    by_cases hm : k ∈ wr
    · exact hsep k k' e e' b hm hk hk' hb hb'
    · by_cases hm' : k' ∈ wr
      · exact (hsep k' k e' e b hm' hk' hk hb' hb).symm
      · obtain ⟨g1, g2⟩ := G.wr k hm
        obtain ⟨g3, g4⟩ := G.wr k' hm'
        rw [g1] at hk
        rw [g3] at hk'
        have e1 : mblk cv k e = some b := by
          cases e <;> simp only [mblk, g2] at hb ⊢ <;> exact hb
        have e2 : mblk cv k' e' = some b := by
          cases e' <;> simp only [mblk, g4] at hb' ⊢ <;> exact hb'
        exact H.sep k k' e e' b hk hk' e1 e2 }

def setCV (cv : CV) (k : Nat) (v : Value) : CV := fun k' => if k' = k then v else cv k'
theorem setCV_same (cv : CV) (k : Nat) (v : Value) : setCV cv k v k = v := by simp [setCV]
theorem setCV_other (cv : CV) {k k' : Nat} (v : Value) (h : k' ≠ k) : setCV cv k v k' = cv k' := by simp [setCV, h]
theorem mblk_cv {cv cv' : CV} {k : Nat} (h : cv' k = cv k) (e : Ent) : mblk cv' k e = mblk cv k e := by cases e <;> simp [mblk, h]

/-- A new entry: what was there stays; the block that it holds is new. -/
theorem HRel.addGo {base wb w X cv h w' k c e} (H : HRel base wb w X cv h) (hk : look h k = none) (hs : w.heap.size ≤ w'.heap.size) (hb : ∀ b, b < w.heap.size → w'.heap[b]? = w.heap[b]?)
    (hnew : ∀ b, mblk (setCV cv k c) k e = some b → w.heap.size ≤ b) :
    Go1 [k] w X cv h w' (fun b => X b ∨ mblk (setCV cv k c) k e = some b) (setCV cv k c) (upd h k e) := {
  size := hs
  blk b hlt _ := hb b hlt
  xold b hlt hx := hx.resolve_right fun hm => by have := hnew b hm; omega
  xkeep b hlt hx _ := .inl hx
  own b hlt hm := by
    obtain ⟨k', e', h1, h2⟩ := hm
    by_cases hkk : k' = k
    · subst hkk
      rw [look_upd_same] at h1
      injection h1 with h1
      subst h1
      have := hnew b h2
      omega
    · rw [look_upd_other _ _ (Ne.symm hkk)] at h1
      rw [mblk_cv (setCV_other cv c hkk)] at h2
      exact ⟨k', e', h1, h2⟩
  ent k' e' h1 := by
    have hkk : k' ≠ k := fun he => by subst he; rw [hk] at h1; cases h1
    exact ⟨e', by rw [look_upd_other _ _ (Ne.symm hkk)]; exact h1, .refl e', fun _ => setCV_other cv c hkk, fun _ => setCV_other cv c hkk⟩
  wr k' h1 := by
    have hkk : k' ≠ k := by simpa using h1
    exact ⟨look_upd_other _ _ (Ne.symm hkk), setCV_other cv c hkk⟩ }
theorem HRel.add {base wb w X cv h w' k c e} (H : HRel base wb w X cv h) (hk : look h k = none) (hs : w.heap.size ≤ w'.heap.size) (hb : ∀ b, b < w.heap.size → w'.heap[b]? = w.heap[b]?)
    (ho : w'.os = w.os ∧ w'.tape = w.tape ∧ w'.output = w.output)
    (hnew : ∀ b, mblk (setCV cv k c) k e = some b → w.heap.size ≤ b ∧ b < w'.heap.size)
    (hent : EntR w' (fun b => X b ∨ mblk (setCV cv k c) k e = some b) (setCV cv k c) (upd h k e) k e) :
    HRel base wb w' (fun b => X b ∨ mblk (setCV cv k c) k e = some b) (setCV cv k c) (upd h k e) := by
  refine H.step (H.addGo hk hs hb fun b hm => (hnew b hm).1) ho (fun b hx => ?_) (fun k' e' b h1 h2 h3 => ?_) (fun k' h1 e' h2 => ?_) (fun k1 k2 e1 e2 b h1 h2 h3 h4 h5 => ?_)
  · rcases hx with hx | hx
    · have := H.xge b hx; omega
    · have := hnew b hx; have := H.bsz; omega
  · have hx := H.mx ⟨k', e', h2, h3⟩
    have := H.xge b hx
    exact ⟨hb b this.2, .inl hx⟩
  · have hkk : k' = k := by simpa using h1
    subst hkk
    rw [look_upd_same] at h2
    injection h2 with h2
    subst h2
    exact hent
  · have hkk : k1 = k := by simpa using h1
    subst hkk
    rw [look_upd_same] at h2
    injection h2 with h2
    subst h2
    by_cases hkk : k2 = k1
    · exact hkk.symm
    · rw [look_upd_other _ _ (Ne.symm hkk)] at h3
      rw [mblk_cv (setCV_other cv c hkk)] at h5
      have h6 := H.xge b (H.mx ⟨k2, e2, h3, h5⟩)
      have := hnew b h4
      omega

/-- An entry whose open block is given up for good (or that held none) and that goes on fixed. -/
theorem HRel.fixGo {base wb w X cv h k e e'} (H : HRel base wb w X cv h) (hk : look h k = some e) (hle : EntLe e e') (hm : ∀ b, mblk cv k e' ≠ some b) :
    Go1 [k] w X cv h w (fun b => X b ∧ mblk cv k e ≠ some b) cv (upd h k e') := {
  size := Nat.le_refl _
  blk _ _ _ := rfl
  xold _ _ hx := hx.1
  xkeep b hlt hx hn := ⟨hx, fun hb => hn ⟨k, e, hk, hb⟩⟩
  own b hlt hmo := by
    obtain ⟨k', e1, h1, h2⟩ := hmo
    by_cases hkk : k' = k
    · subst hkk
      rw [look_upd_same] at h1
      injection h1 with h1
      subst h1
      exact absurd h2 (hm b)
    · rw [look_upd_other _ _ (Ne.symm hkk)] at h1
      exact ⟨k', e1, h1, h2⟩
  ent k' e1 h1 := by
    by_cases hkk : k' = k
    · subst hkk
      rw [hk] at h1
      injection h1 with h1
      subst h1
      exact ⟨e', look_upd_same .., hle, fun _ => rfl, fun _ => rfl⟩
    · exact ⟨e1, by rw [look_upd_other _ _ (Ne.symm hkk)]; exact h1, .refl _, fun _ => rfl, fun _ => rfl⟩
  wr k' h1 := by
    have hkk : k' ≠ k := by simpa using h1
    exact ⟨look_upd_other _ _ (Ne.symm hkk), rfl⟩ }
theorem HRel.fix {base wb w X cv h k e e'} (H : HRel base wb w X cv h) (hk : look h k = some e) (hle : EntLe e e') (hm : ∀ b, mblk cv k e' ≠ some b)
    (hent : EntR w (fun b => X b ∧ mblk cv k e ≠ some b) cv (upd h k e') k e') :
    HRel base wb w (fun b => X b ∧ mblk cv k e ≠ some b) cv (upd h k e') := by
  refine H.step (H.fixGo hk hle hm) ⟨rfl, rfl, rfl⟩ (fun b hx => H.xge b hx.1) (fun k' e1 b h1 h2 h3 => ?_) (fun k' h1 e1 h2 => ?_) (fun k1 k2 e1 e2 b h1 h2 h3 h4 h5 => ?_)
  · have hkk : k' ≠ k := by simpa using h1
    exact ⟨rfl, H.mx ⟨k', e1, h2, h3⟩, fun hb => hkk (H.sep k' k e1 e b h2 hk h3 hb)⟩
  · have hkk : k' = k := by simpa using h1
    subst hkk
    rw [look_upd_same] at h2
    injection h2 with h2
    subst h2
    exact hent
  · have hkk : k1 = k := by simpa using h1
    subst hkk
    rw [look_upd_same] at h2
    injection h2 with h2
    subst h2
    exact absurd h4 (hm b)

/-- An entry that goes on open in its own block, or in a new one. -/
theorem HRel.putGo {base wb w X cv h w' k c e e'} (H : HRel base wb w X cv h) (hk : look h k = some e) (hle : EntLe e e') (hs : w.heap.size ≤ w'.heap.size)
    (hb : ∀ b, b < w.heap.size → mblk cv k e ≠ some b → w'.heap[b]? = w.heap[b]?)
    (hc1 : isBox e = true → c = cv k) (hc2 : rowVer e = rowVer e' → c = cv k)
    (hnew : ∀ b, mblk (setCV cv k c) k e' = some b → mblk cv k e = some b ∨ w.heap.size ≤ b) :
    Go1 [k] w X cv h w' (fun b => X b ∨ mblk (setCV cv k c) k e' = some b) (setCV cv k c) (upd h k e') := {
  size := hs
  blk b hlt hn := hb b hlt fun hm => hn ⟨k, e, hk, hm⟩
  xold b hlt hx := by
    rcases hx with hx | hx
    · exact hx
    · rcases hnew b hx with h1 | h1
      · exact H.mx ⟨k, e, hk, h1⟩
      · omega
  xkeep b hlt hx _ := .inl hx
  own b hlt hmo := by
    obtain ⟨k', e1, h1, h2⟩ := hmo
    by_cases hkk : k' = k
    · subst hkk
      rw [look_upd_same] at h1
      injection h1 with h1
      subst h1
      rcases hnew b h2 with h1 | h1
      · exact ⟨k', e, hk, h1⟩
      · omega
    · rw [look_upd_other _ _ (Ne.symm hkk)] at h1
      rw [mblk_cv (setCV_other cv c hkk)] at h2
      exact ⟨k', e1, h1, h2⟩
  ent k' e1 h1 := by
    by_cases hkk : k' = k
    · subst hkk
      rw [hk] at h1
      injection h1 with h1
      subst h1
      exact ⟨e', look_upd_same .., hle, fun h => (setCV_same ..).trans (hc1 h), fun h => (setCV_same ..).trans (hc2 h)⟩
    · exact ⟨e1, by rw [look_upd_other _ _ (Ne.symm hkk)]; exact h1, .refl _, fun _ => setCV_other cv c hkk, fun _ => setCV_other cv c hkk⟩
  wr k' h1 := by
    have hkk : k' ≠ k := by simpa using h1
    exact ⟨look_upd_other _ _ (Ne.symm hkk), setCV_other cv c hkk⟩ }
theorem HRel.put {base wb w X cv h w' k c e e'} (H : HRel base wb w X cv h) (hk : look h k = some e) (hle : EntLe e e') (hs : w.heap.size ≤ w'.heap.size)
    (hb : ∀ b, b < w.heap.size → mblk cv k e ≠ some b → w'.heap[b]? = w.heap[b]?)
    (ho : w'.os = w.os ∧ w'.tape = w.tape ∧ w'.output = w.output)
    (hc1 : isBox e = true → c = cv k) (hc2 : rowVer e = rowVer e' → c = cv k)
    (hnew : ∀ b, mblk (setCV cv k c) k e' = some b → mblk cv k e = some b ∨ w.heap.size ≤ b ∧ b < w'.heap.size)
    (hent : EntR w' (fun b => X b ∨ mblk (setCV cv k c) k e' = some b) (setCV cv k c) (upd h k e') k e') :
    HRel base wb w' (fun b => X b ∨ mblk (setCV cv k c) k e' = some b) (setCV cv k c) (upd h k e') := by
  refine H.step (H.putGo hk hle hs hb hc1 hc2 fun b hm => (hnew b hm).imp id And.left) ho (fun b hx => ?_) (fun k' e1 b h1 h2 h3 => ?_) (fun k' h1 e1 h2 => ?_) (fun k1 k2 e1 e2 b h1 h2 h3 h4 h5 => ?_)
  · rcases hx with hx | hx
    · have := H.xge b hx; omega
    · rcases hnew b hx with h1 | h1
      · have := H.xge b (H.mx ⟨k, e, hk, h1⟩); omega
      · have := H.bsz; omega
  · have hkk : k' ≠ k := by simpa using h1
    have hx := H.mx ⟨k', e1, h2, h3⟩
    have := H.xge b hx
    exact ⟨hb b this.2 fun hm => hkk (H.sep k' k e1 e b h2 hk h3 hm), .inl hx⟩
  · have hkk : k' = k := by simpa using h1
    subst hkk
    rw [look_upd_same] at h2
    injection h2 with h2
    subst h2
    exact hent
  · have hkk : k1 = k := by simpa using h1
    subst hkk
    rw [look_upd_same] at h2
    injection h2 with h2
    subst h2
    by_cases hkk : k2 = k1
    · exact hkk.symm
    · rw [look_upd_other _ _ (Ne.symm hkk)] at h3
      rw [mblk_cv (setCV_other cv c hkk)] at h5
      rcases hnew b h4 with h6 | h6
      · exact H.sep k1 k2 e e2 b hk h3 h6 h5
      · have h7 := H.xge b (H.mx ⟨k2, e2, h3, h5⟩)
        omega

/-! ### A row that is fixed reads as it did -/
theorem row_TR {w : World} {X X' : Nat → Prop} {e : TypeId} {s : Nat} {c : Value} {rows : List (List T)} {xs : List Value} (h1 : w.ownsRow 0 e s c rows.length xs) (h3 : RowsR w X s xs rows)
    (hx : ∀ b, X' b → X b) (hb : ∀ b, c.ownBlock = some b → ¬ X' b) : TR w X' c (.sl s rows) := by
  have K : Keep w X w X' := ⟨Nat.le_refl _, fun _ _ _ => rfl, fun b _ h => hx b h⟩
  rcases h1.2 with ⟨hc, hn⟩ | ⟨g, cap, cur, hc, _, hg, hcap, hm, hsz, htake⟩
  · have : rows = [] := List.eq_nil_of_length_eq_zero hn
    subst this
    rw [hc]
    exact .sl none ⟨0, 0, none⟩ 0 0 s [] (fun _ _ => undef) rfl (Nat.le_refl _) (by simp) (by simp) (by simp) (by simp)
  · have hgl : g < w.heap.size := (Array.getElem?_eq_some_iff.1 hg).1
    have hgx : ¬ X' g := hb g (by simp [hc, Value.ownBlock])
    rw [hc]
    refine .sl (some ⟨g, 0, none⟩) ⟨g, 0, none⟩ rows.length cap s rows (fun j i => (xs[j * s + i]?).getD undef) rfl hcap (fun j r hj => (h3 j r hj).1) (fun _ => ⟨rfl, hgx, hgl⟩) (fun j r i x hj hi => ?_) (fun j r i x hj hi => ?_)
    · obtain ⟨u, hu, _⟩ := (h3 j r hj).2 i x hi
      have := h1.cells (g := g) (by simp [hc, Value.ownBlock]) (j * s + i) u hu
      simpa [hu] using this
    · obtain ⟨u, hu, ht⟩ := (h3 j r hj).2 i x hi
      simpa [hu] using ht.mono K
theorem TR.take {w X base len cap s rows} (H : TR w X (.slice base len cap) (.sl s rows)) {n : Nat} (hn : n ≤ len) : TR w X (.slice base n cap) (.sl s (takeN n rows)) := by
  cases H with
  | sl _ ad _ _ _ _ vals hl hc hs hb hv ht =>
    rw [takeN_take]
    refine .sl base ad n cap s (rows.take n) vals (by simp; omega) (by omega) (fun j r hj => ?_) (fun h0 => hb (by omega)) (fun j r i x hj hi => ?_) (fun j r i x hj hi => ?_)
    · rw [List.getElem?_take] at hj; split at hj <;> first | exact hs j r hj | cases hj
    · rw [List.getElem?_take] at hj; split at hj <;> first | exact hv j r i x hj hi | cases hj
    · rw [List.getElem?_take] at hj; split at hj <;> first | exact ht j r i x hj hi | cases hj
theorem TR.tk {w X base len cap s rows} {c v : Value} {n : Option Nat} (hc : c = .slice base len cap) (H : TR w X c (.sl s rows)) (hv : CutOf c n v) : TR w X v (.sl s (tk n rows)) := by
  cases n with
  | none => simp only [CutOf] at hv; subst hv; exact H
  | some n =>
    obtain ⟨b, l, cp, h1, h2, h3, h4⟩ := hv
    rw [h4]
    rw [h1] at H
    exact H.take h2
theorem HRel.fixRow {base wb w X cv h k v s e rows} (H : HRel base wb w X cv h) (hk : look h k = some (.row v s e rows)) :
    HRel base wb w (fun b => X b ∧ (cv k).ownBlock ≠ some b) cv (upd h k (.irow v s rows)) ∧ Go1 [k] w X cv h w (fun b => X b ∧ (cv k).ownBlock ≠ some b) cv (upd h k (.irow v s rows)) := by
  obtain ⟨xs, h1, h2, h3, _⟩ := H.ent k _ hk
  refine ⟨H.fix (e' := .irow v s rows) hk ⟨Nat.le_refl _, rfl⟩ (by simp [mblk]) ?_, H.fixGo (e' := .irow v s rows) hk ⟨Nat.le_refl _, rfl⟩ (by simp [mblk])⟩
  exact row_TR h1 h3 (fun b hb => hb.1) fun b hb hx => hx.2 hb
theorem RowsR.of_TR {w X s rows v} (H : TR w X v (.sl s rows)) : ∀ (j : Nat) r, rows[j]? = some r → r.length = s := by
  cases H with
  | sl _ ad _ _ _ _ vals hl hc hs hb hv ht => exact hs

end Go.AS
