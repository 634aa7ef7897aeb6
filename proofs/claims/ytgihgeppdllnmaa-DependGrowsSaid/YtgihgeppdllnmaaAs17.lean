/- AS, part 17: memory anew where ways meet. -/
import Derived.Test.YtgihgeppdllnmaaAs16
namespace Go.AS
open Go.RowKit
set_option linter.all false

/-- Where a function began. -/
structure Start where
  base : Nat
  wb : World
  w : World
  X : Nat → Prop
  cv : CV
  h : Heap
/-- How memory stands to where the function began. -/
structure Prog (E : Start) (w : World) (X : Nat → Prop) (cv : CV) (h : Heap) : Prop where
  size : E.w.heap.size ≤ w.heap.size
  blk : ∀ b, b < E.w.heap.size → ¬ Mof E.h E.cv b → w.heap[b]? = E.w.heap[b]?
  xold : ∀ b, b < E.w.heap.size → X b → E.X b
  xkeep : ∀ b, b < E.w.heap.size → E.X b → ¬ Mof E.h E.cv b → X b
  own : ∀ b, b < E.w.heap.size → Mof h cv b → Mof E.h E.cv b
  ent : ∀ k e, look E.h k = some e → ∃ e', look h k = some e' ∧ (isBox e = true → isBox e' = true ∧ cv k = E.cv k) ∧ (rowVer e' = some 0 → cv k = E.cv k)
theorem Prog.go {E : Start} {w X cv h wr w' X' cv' h'} (p : Prog E w X cv h) (G : Go1 wr w X cv h w' X' cv' h') : Prog E w' X' cv' h' := {
  size := Nat.le_trans p.size G.size
  blk b hb hm := by rw [G.blk b (Nat.lt_of_lt_of_le hb p.size) fun h => hm (p.own b hb h)]; exact p.blk b hb hm
  xold b hb hx := p.xold b hb (G.xold b (Nat.lt_of_lt_of_le hb p.size) hx)
  xkeep b hb hx hm := G.xkeep b (Nat.lt_of_lt_of_le hb p.size) (p.xkeep b hb hx hm) fun h => hm (p.own b hb h)
  own b hb hm := p.own b hb (G.own b (Nat.lt_of_lt_of_le hb p.size) hm)
  ent k e hl := by
    obtain ⟨e', h1, h2, h3⟩ := p.ent k e hl
    obtain ⟨e'', g1, g2, g3, g4⟩ := G.ent k e' h1
    refine ⟨e'', g1, fun hb => ⟨g2.box (h2 hb).1, (g3 (h2 hb).1).trans (h2 hb).2⟩, fun hv => ?_⟩
    have hv' : rowVer e' = some 0 := by
      cases hr : rowVer e' with
      | none => exfalso; cases e' <;> cases e'' <;> simp [EntLe, rowVer] at *
      | some v =>
        obtain ⟨v', q1, q2, _⟩ := g2.ver hr
        rw [hv] at q1
        injection q1 with q1
        congr 1
        omega
    rw [g4 (by rw [hv, hv']), h3 hv'] }

def Inv (E : Start) (a : Act) (w : World) (s : St) : Prop :=
  a.defers = [] ∧ ∃ X cv, HRel E.base E.wb w X cv s.heap ∧ All2 (AR3 w X cv s.heap) a.tmps.toList s.slots ∧ Prog E w X cv s.heap

/-! ### Masks -/
theorem look_normHeap (h0 : Heap) (keys : List Nat) : ∀ (h : Heap) (k : Nat), look (normHeap h0 keys h) k = if k ∈ keys then (look h k).map (normE h0 keys) else none
  | [], k => by simp [normHeap, look, asc]
  | (k0, e) :: h, k => by
    have ih := look_normHeap h0 keys h k
    simp only [look] at ih
    simp only [normHeap]
    cases hm : mem keys k0 with
    | true =>
      have hk0 := (mem_iff keys k0).1 hm
      simp only [cond_true, look, asc]
      cases hb : Nat.beq k0 k with
      | true => have := beq_eq hb; subst this; simp [hk0]
      | false => simpa using ih
    | false =>
      have hk0 : k0 ∉ keys := fun h => by rw [(mem_iff keys k0).2 h] at hm; cases hm
      simp only [cond_false, look, asc]
      cases hb : Nat.beq k0 k with
      | true =>
        have := beq_eq hb
        subst this
        rw [ih]
        simp [hk0]
      | false => simpa using ih
theorem normE_ver {h0 keys e v} (hv : rowVer e = some v) : rowVer (normE h0 keys e) = some (if v = 0 then 0 else 1) := by
  cases e with
  | row v' s t rows =>
    simp only [rowVer] at hv
    injection hv with hv
    subst hv
    simp only [normE, rowVer]
    by_cases h0 : v' = 0
    · subst h0; rfl
    · have : Nat.beq v' 0 = false := by
        cases hb : Nat.beq v' 0 with
        | true => exact absurd (beq_eq hb) h0
        | false => rfl
      simp [this, h0]
  | irow v' s rows =>
    simp only [rowVer] at hv
    injection hv with hv
    subst hv
    simp only [normE, rowVer]
    by_cases h0 : v' = 0
    · subst h0; rfl
    · have : Nat.beq v' 0 = false := by
        cases hb : Nat.beq v' 0 with
        | true => exact absurd (beq_eq hb) h0
        | false => rfl
      simp [this, h0]
  | box _ _ => cases hv
  | ibox _ => cases hv
  | map _ => cases hv
theorem normE_box (h0 keys e) : isBox (normE h0 keys e) = isBox e := by cases e <;> rfl
theorem mblk_norm (cv : CV) (k : Nat) (h0 keys e) : mblk cv k (normE h0 keys e) = mblk cv k e := by cases e <;> rfl
theorem beq_zero (v : Nat) : (cond (Nat.beq v 0) 0 1 : Nat) = if v = 0 then 0 else 1 := by
  by_cases h0 : v = 0
  · subst h0; rfl
  · have : Nat.beq v 0 = false := by
      cases hb : Nat.beq v 0 with
      | true => exact absurd (beq_eq hb) h0
      | false => rfl
    simp [this, h0]
section
variable {w : World} {X : Nat → Prop} {cv : CV} {h : Heap} {keys : List Nat}
theorem look_n {k : Nat} {e : Ent} (hk : mem keys k = true) (hl : look h k = some e) : look (normHeap h keys h) k = some (normE h keys e) := by
  rw [look_normHeap, if_pos ((mem_iff _ _).1 hk), hl]
  rfl
theorem normL_ok {val : Value} {v : AV} (hv : AR0 w X cv h val v) : AR0 w X cv (normHeap h keys h) val (normL h keys v) := by
  cases v with
  | rowp k ver n =>
    obtain ⟨hsl, e, v', hl, hv', hle, hcut⟩ := hv
    simp only [normL]
    cases hm : mem keys k with
    | false => trivial
    | true =>
      have hln := look_n hm hl
      have hvn := normE_ver (h0 := h) (keys := keys) hv'
      have fin : ∀ (w1 : Nat), ver = v' → (w1 = if v' = 0 then 0 else 1) → AR0 w X cv (normHeap h keys h) val (.rowp k w1 n) := fun w1 h1 h2 => ⟨hsl, _, _, hln, hvn, by omega, fun _ => hcut h1⟩
      have fin2 : ∀ (x : AV), (x = cond (Nat.beq ver v') (cond (Nat.beq ver 0) (.rowp k 0 n) (.rowp k 1 n)) .dead) → AR0 w X cv (normHeap h keys h) val x := by
        intro x hx
        subst hx
        cases hb : Nat.beq ver v' with
        | false => trivial
        | true =>
          have hvv := beq_eq hb
          cases hb0 : Nat.beq ver 0 with
          | true => exact fin 0 hvv (by rw [if_pos (by have := beq_eq hb0; omega)])
          | false =>
            have h0 : ¬ v' = 0 := by
              intro h0
              rw [hvv, h0] at hb0
              cases hb0
            exact fin 1 hvv (by rw [if_neg h0])
      simp only [cond_true, hl]
      cases e with
      | row v1 s t rows => simp only [rowVer] at hv'; injection hv' with hv'; subst hv'; exact fin2 _ rfl
      | irow v1 s rows => simp only [rowVer] at hv'; injection hv' with hv'; subst hv'; exact fin2 _ rfl
      | box _ _ => trivial
      | ibox _ => trivial
      | map _ => trivial
  | ptr k off =>
    obtain ⟨e, b, hl, hb, hc, rfl⟩ := hv
    simp only [normL]
    cases hm : mem keys k with
    | false => trivial
    | true => exact ⟨_, b, look_n hm hl, by rw [normE_box]; exact hb, hc, rfl⟩
  | elp k ver i off => trivial
  | t x => exact hv
  | nils e s => exact hv
  | tel s row off => exact hv
  | mapp k =>
    obtain ⟨l, b, hl, hc, rfl⟩ := hv
    simp only [normL]
    cases hm : mem keys k with
    | false => trivial
    | true => exact ⟨l, b, look_n hm hl, hc, rfl⟩
  | undef => exact hv
  | dead => trivial
  | agg _ => exact hv.elim
  | tup _ => exact hv.elim
  | clo _ _ => exact hv.elim
theorem norm_list {R R' : Value → AV → Prop} {g : AV → AV} (hg : ∀ val v, R val v → R' val (g v)) : ∀ {l : List Value} {m : List AV}, All2 R l m → All2 R' l (m.map g)
  | [], [], _ => trivial
  | _ :: _, _ :: _, h => ⟨hg _ _ h.1, norm_list hg h.2⟩
theorem normC_ok {val : Value} {v : AV} (hv : AR1 w X cv h val v) : AR1 w X cv (normHeap h keys h) val (normC h keys v) := by
  rcases hv.parts with hv | ⟨f, caps, l, rfl, h1, h2⟩
  · have := normL_ok (keys := keys) hv
    cases v <;> first | exact this.to1 | exact hv.elim
  · simp only [normC]
    cases allAlive (caps.map (normL h keys)) with
    | true => exact ⟨l, h1, norm_list (fun _ _ h => normL_ok h) h2⟩
    | false => trivial
theorem normV_ok {val : Value} {v : AV} (hv : AR3 w X cv h val v) : AR3 w X cv (normHeap h keys h) val (normV h keys v) := by
  rcases hv.parts with hv | ⟨ps, l, rfl, h1, h2⟩
  · rcases hv.parts with hv | ⟨cells, l, rfl, h1, h2⟩
    · have := (normC_ok (keys := keys) hv).to2.to3
      cases v <;> first | exact this | exact absurd hv (by simp [AR1, AR0])
    · simp only [normV]
      cases allAlive (cells.map (normC h keys)) with
      | true => exact ⟨l, h1, norm_list (fun _ _ h => normC_ok h) h2⟩
      | false => trivial
  · trivial
theorem normSlots_ok : ∀ (m : List Bool) {l : List Value} {s : List AV}, All2 (AR3 w X cv h) l s → All2 (AR3 w X cv (normHeap h keys h)) l (normSlots h keys m s)
  | m, [], [], _ => by cases m <;> trivial
  | b :: m, v :: l, a :: s, hs => by
    refine ⟨?_, normSlots_ok m hs.2⟩
    cases b with
    | true => exact normV_ok hs.1
    | false => trivial
  | [], v :: l, a :: s, hs => ⟨trivial, normSlots_ok [] hs.2⟩
theorem normHeap_ok {base wb} (H : HRel base wb w X cv h) : HRel base wb w X cv (normHeap h keys h) := {
  below := H.below
  bsz := H.bsz
  xge := H.xge
  ent k e hl := by
    rw [look_normHeap] at hl
    split at hl
    · cases h0 : look h k with
      | none => rw [h0] at hl; cases hl
      | some e0 =>
        rw [h0] at hl
        injection hl with hl
        subst hl
        have he := H.ent k e0 h0
        cases e0 with
        | box sh cells =>
          obtain ⟨b, arr, t, r1, r2, r3, r4⟩ := he
          exact ⟨b, arr, t, r1, r2, r3, norm_list (fun _ _ h => normC_ok h) r4⟩
        | ibox cells => exact he
        | row v s t rows => exact he
        | irow v s rows => exact he
        | map l => exact he
    · cases hl
  sep k k' e e' b hl hl' hb hb' := by
    rw [look_normHeap] at hl hl'
    split at hl
    · split at hl'
      · cases h0 : look h k with
        | none => rw [h0] at hl; cases hl
        | some e0 =>
          cases h0' : look h k' with
          | none => rw [h0'] at hl'; cases hl'
          | some e0' =>
            rw [h0] at hl
            rw [h0'] at hl'
            injection hl with hl
            injection hl' with hl'
            subst hl hl'
            rw [mblk_norm] at hb hb'
            exact H.sep k k' e0 e0' b h0 h0' hb hb'
      · cases hl'
    · cases hl }
end
theorem normHeap_mof {cv : CV} {h : Heap} {keys : List Nat} {b : Nat} (hm : Mof (normHeap h keys h) cv b) : Mof h cv b := by
  obtain ⟨k, e, hl, hb⟩ := hm
  rw [look_normHeap] at hl
  split at hl
  · cases h0 : look h k with
    | none => rw [h0] at hl; cases hl
    | some e0 =>
      rw [h0] at hl
      injection hl with hl
      subst hl
      rw [mblk_norm] at hb
      exact ⟨k, e0, h0, hb⟩
  · cases hl
theorem Prog.norm {E : Start} {w X cv h keys} (p : Prog E w X cv h) (hk : ∀ k e, look E.h k = some e → k ∈ keys) : Prog E w X cv (normHeap h keys h) := {
  size := p.size
  blk := p.blk
  xold := p.xold
  xkeep := p.xkeep
  own b hb hm := p.own b hb (normHeap_mof hm)
  ent k e hl := by
    obtain ⟨e', h1, h2, h3⟩ := p.ent k e hl
    refine ⟨normE h keys e', by rw [look_normHeap, if_pos (hk k e hl), h1]; rfl, fun hb => ⟨by rw [normE_box]; exact (h2 hb).1, (h2 hb).2⟩, fun hv => h3 ?_⟩
    cases hr : rowVer e' with
    | none => cases e' <;> simp [normE, rowVer] at hr hv
    | some v =>
      have := normE_ver (h0 := h) (keys := keys) hr
      rw [hv] at this
      injection this with this
      by_cases h0 : v = 0
      · rw [h0]
      · rw [if_neg h0] at this; cases this }
theorem norm_ok {E : Start} {a : Act} {w : World} {s : St} (hi : Inv E a w s) (m : Mask) (hk : ∀ k e, look E.h k = some e → k ∈ m.keys) : Inv E a w (norm m s) := by
  obtain ⟨h0, X, cv, H, hs, p⟩ := hi
  exact ⟨h0, X, cv, normHeap_ok H, normSlots_ok m.slots hs, p.norm hk⟩
end Go.AS
