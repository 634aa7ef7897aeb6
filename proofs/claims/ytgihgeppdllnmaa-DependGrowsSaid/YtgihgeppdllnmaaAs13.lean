/- AS, part 13: what a call hands back. -/
import Derived.Test.YtgihgeppdllnmaaAs12
namespace Go.AS
open Go.RowKit
set_option linter.all false

/-- How a function leaves memory, told by the entries that were handed over. -/
structure GoF (w : World) (X : Nat → Prop) (cv : CV) (h : Heap) (w' : World) (X' : Nat → Prop) (cv' : CV) (h' : Heap) : Prop where
  size : w.heap.size ≤ w'.heap.size
  blk : ∀ b, b < w.heap.size → ¬ Mof h cv b → w'.heap[b]? = w.heap[b]?
  xold : ∀ b, b < w.heap.size → X' b → X b
  xkeep : ∀ b, b < w.heap.size → X b → ¬ Mof h cv b → X' b
  own : ∀ b, b < w.heap.size → Mof h' cv' b → Mof h cv b
  ent : ∀ k e, look h k = some e → ∃ e', look h' k = some e' ∧ (isBox e = true → cv' k = cv k) ∧ (rowVer e' = some 0 → cv' k = cv k)
def CallSpec (P : Program) (f : FuncId) (args : List AV) (h : Heap) (p : Res) : Prop :=
  ∀ base wb w X cv vs, HRel base wb w X cv h → All2 (AR2 w X cv h) vs args →
    Calls P f vs.toArray w fun e w' => ∃ v X' cv', e = .returned v ∧ HRel base wb w' X' cv' p.2 ∧ AR3 w' X' cv' p.2 v p.1 ∧ GoF w X cv h w' X' cv' p.2
def CallOk (P : Program) (C : CallF) : Prop := ∀ f args h p, C f args h = some p → CallSpec P f args h p

/-! ### The state that the callee sees -/
def X1of (X : Nat → Prop) (cv : CV) (B : List Nat) : Nat → Prop := fun b => X b ∧ ∀ kk, kk ∈ B → (cv kk).ownBlock ≠ some b
def cv1of (cv : CV) (I : List Nat) : CV := fun i => cv (nth 0 I i)
theorem cv1of_at (cv : CV) {I : List Nat} {i kk : Nat} (h : I[i]? = some kk) : cv1of cv I i = cv kk := by
  unfold cv1of
  rw [nth_get, h]
  rfl
theorem meet_false : ∀ {l m : List Nat}, meet l m = false → ∀ k, k ∈ l → k ∉ m
  | [], _, _, _, hk, _ => by cases hk
  | a :: l, m, h, k, hk, hm => by
    simp only [meet] at h
    cases hb : mem m a with
    | true => rw [hb] at h; cases h
    | false =>
      rw [hb] at h
      rcases List.mem_cons.1 hk with rfl | hk
      · rw [(mem_iff m k).2 hm] at hb; cases hb
      · exact meet_false h k hk hm
theorem nodup_get {I : List Nat} (hn : I.Nodup) {i j k : Nat} (hi : I[i]? = some k) (hj : I[j]? = some k) : i = j := by
  obtain ⟨h1, h2⟩ := List.getElem?_eq_some_iff.1 hi
  obtain ⟨h3, h4⟩ := List.getElem?_eq_some_iff.1 hj
  rw [List.Nodup, List.pairwise_iff_getElem] at hn
  rcases Nat.lt_trichotomy i j with h | h | h
  · exact absurd (h2.trans h4.symm) (hn i j h1 h3 h)
  · exact h
  · exact absurd (h4.trans h2.symm) (hn j i h3 h1 h)

structure Handed (w : World) (X : Nat → Prop) (cv : CV) (h : Heap) (muts I B : List Nat) (h1 : Heap) : Prop where
  nodup : I.Nodup
  lent : ∀ k, k ∈ B → ∃ v s e rows, look h k = some (.row v s e rows)
  apart : ∀ k, k ∈ B → k ∉ I
  rng : ∀ j e, look h1 j = some e → j < I.length
  ent : ∀ j kk, I[j]? = some kk → (∃ v s e rows, look h kk = some (.row v s e rows) ∧ look h1 j = some (.row (startV h muts kk) s e rows)) ∨ (∃ sh cells c1, look h kk = some (.box sh cells) ∧ look h1 j = some (.box sh c1)) ∨ ∃ l, look h kk = some (.map l) ∧ look h1 j = some (.map l)
  tgt : Tgt w X cv h muts I B (X1of X cv B) (cv1of cv I) h1
theorem Handed.pair {w X cv h muts I B h1} (D : Handed w X cv h muts I B h1) {j : Nat} {e : Ent} (hl : look h1 j = some e) : ∃ (kk : Nat) (e0 : Ent), I[j]? = some kk ∧ look h kk = some e0 ∧ (∀ c, mblk c kk e0 = mblk (fun _ => c kk) j e) ∧ mblk (cv1of cv I) j e = mblk cv kk e0 := by
  have hj := D.rng j e hl
  have hI : I[j]? = some (nth 0 I j) := nth_of 0 hj
  rcases D.ent j _ hI with ⟨v, s, t, rows, g1, g2⟩ | ⟨sh, cells, c1, g1, g2⟩ | ⟨ml, g1, g2⟩
  · rw [hl] at g2
    injection g2 with g2
    subst g2
    exact ⟨_, _, hI, g1, fun c => rfl, by simp only [mblk, cv1of_at cv hI]⟩
  · rw [hl] at g2
    injection g2 with g2
    subst g2
    exact ⟨_, _, hI, g1, fun c => rfl, by simp only [mblk, cv1of_at cv hI]⟩
  · rw [hl] at g2
    injection g2 with g2
    subst g2
    exact ⟨_, _, hI, g1, fun c => rfl, by simp only [mblk, cv1of_at cv hI]⟩
theorem Handed.mof {w X cv h muts I B h1} (D : Handed w X cv h muts I B h1) {b : Nat} (hm : Mof h1 (cv1of cv I) b) : ∃ (j kk : Nat) (e0 : Ent), I[j]? = some kk ∧ look h kk = some e0 ∧ mblk cv kk e0 = some b := by
  obtain ⟨j, e, hl, hb⟩ := hm
  obtain ⟨kk, e0, g1, g2, _, g3⟩ := D.pair hl
  exact ⟨j, kk, e0, g1, g2, by rw [← g3]; exact hb⟩
theorem Handed.mof' {w X cv h muts I B h1} (D : Handed w X cv h muts I B h1) {b : Nat} (hm : Mof h1 (cv1of cv I) b) : Mof h cv b := by
  obtain ⟨j, kk, e0, _, g2, g3⟩ := D.mof hm
  exact ⟨kk, e0, g2, g3⟩

theorem conv_ok {base wb w X cv h muts own} (H : HRel base wb w X cv h) {vals : List Value} {args args1 : List AV} {i1 b1 I b2 : List Nat} {h1 : Heap} {fuel : Nat} (hv : All2 (AR3 w X cv h) vals args)
    (ha : convArgs h muts own [] 0 args = some (args1, i1, b1)) (he : convEnts h muts fuel 0 i1 = some (h1, I, b2)) (hm : meet (b1 ++ b2) I = false) :
    Handed w X cv h muts I (b1 ++ b2) h1 ∧ HRel base wb w (X1of X cv (b1 ++ b2)) (cv1of cv I) h1 ∧ All2 (AR2 w (X1of X cv (b1 ++ b2)) (cv1of cv I) h1) vals args1 := by
  obtain ⟨p1, p2, p3, p4⟩ := convArgs_ok H hv ha
  obtain ⟨q1, q2, q3, q4, q5⟩ := convEnts_ok H he
  have hnd : I.Nodup := q2 (p2 List.nodup_nil)
  have hlent : ∀ k, k ∈ b1 ++ b2 → ∃ v s e rows, look h k = some (.row v s e rows) := fun k hk => (List.mem_append.1 hk).elim (p3 k) (q3 k)
  have hap := meet_false hm
  have hent : ∀ j kk, I[j]? = some kk → (∃ v s e rows, look h kk = some (.row v s e rows) ∧ look h1 j = some (.row (startV h muts kk) s e rows)) ∨ (∃ sh cells c1, look h kk = some (.box sh cells) ∧ look h1 j = some (.box sh c1)) ∨ ∃ l, look h kk = some (.map l) ∧ look h1 j = some (.map l) := by
    intro j kk hj
    rcases q5 j kk (Nat.zero_le _) hj with g | ⟨sh, cells, c1, ia, ib, bb, g1, g2, _⟩ | g
    · exact .inl g
    · exact .inr (.inl ⟨sh, cells, c1, g1, g2⟩)
    · exact .inr (.inr g)
  have T : Tgt w X cv h muts I (b1 ++ b2) (X1of X cv (b1 ++ b2)) (cv1of cv I) h1 := by
    refine ⟨fun b hb => hb.1, fun kk hk b hb hx => hx.2 kk hk hb, fun i kk hi => cv1of_at cv hi, fun i kk v s e rows hi hl => ?_, fun i kk sh cells hi hl => ?_, fun i kk ml hi hl => ?_⟩
    · rcases hent i kk hi with ⟨v', s', e', rows', g1, g2⟩ | ⟨sh, cells, c1, g1, g2⟩ | ⟨ml, g1, g2⟩
      · rw [hl] at g1; cases g1; exact g2
      · rw [hl] at g1; cases g1
      · rw [hl] at g1; cases g1
    · rcases hent i kk hi with ⟨v', s', e', rows', g1, g2⟩ | ⟨sh', cells', c1, g1, g2⟩ | ⟨ml, g1, g2⟩
      · rw [hl] at g1; cases g1
      · rw [hl] at g1; cases g1; exact ⟨c1, g2⟩
      · rw [hl] at g1; cases g1
    · rcases hent i kk hi with ⟨v', s', e', rows', g1, g2⟩ | ⟨sh', cells', c1, g1, g2⟩ | ⟨ml', g1, g2⟩
      · rw [hl] at g1; cases g1
      · rw [hl] at g1; cases g1
      · rw [hl] at g1; cases g1; exact g2
  have D : Handed w X cv h muts I (b1 ++ b2) h1 := ⟨hnd, hlent, hap, fun j e hj => (q4 j e hj).2, hent, T⟩
  refine ⟨D, ⟨H.below, H.bsz, fun b hb => H.xge b hb.1, fun j e hl => ?_, fun j j' e e' b hl hl' hb hb' => ?_⟩, p4 I _ _ _ _ T q1 fun k hk => by simp [hk]⟩
  · have hj := (q4 j e hl).2
    have hI : I[j]? = some (nth 0 I j) := nth_of 0 hj
    have unlent : ∀ e0 b, look h (nth 0 I j) = some e0 → mblk cv (nth 0 I j) e0 = some b → ∀ kk, kk ∈ b1 ++ b2 → (cv kk).ownBlock ≠ some b := by
      intro e0 b hl0 hb0 kk hk hbk
      obtain ⟨v, s, t, rows, hlk⟩ := hlent kk hk
      have := H.sep _ kk e0 _ b hl0 hlk hb0 (by simpa [mblk] using hbk)
      exact hap kk hk (this ▸ List.mem_of_getElem? hI)
    rcases q5 j _ (Nat.zero_le _) hI with ⟨v, s, t, rows, g1, g2⟩ | ⟨sh, cells, c1, ia, ib, bb, g1, g2, g3, g4, g5⟩ | ⟨ml, g1, g2⟩
    · rw [hl] at g2
      injection g2 with g2
      subst g2
      obtain ⟨xs, o1, o2, o3, o4⟩ := H.ent _ _ g1
      exact ⟨xs, by rw [cv1of_at cv hI]; exact o1, fun b hb => by
        rw [cv1of_at cv hI] at hb
        exact ⟨o2 b hb, unlent _ b g1 (by simpa [mblk] using hb)⟩, o3.mono T.keep, o4⟩
    · rw [hl] at g2
      injection g2 with g2
      subst g2
      obtain ⟨b, arr, t, r1, r2, r3, r4⟩ := H.ent _ _ g1
      obtain ⟨_, _, _, s4⟩ := convLs_ok H r4 g3
      exact ⟨b, arr, t, by rw [cv1of_at cv hI]; exact r1, r2, ⟨r3, unlent _ b g1 (by simp [mblk, r1, ptrBlock])⟩, (s4 I _ _ _ _ T g4 fun k hk => by simp [g5 k hk]).imp fun _ _ => AR0.to1⟩
    · rw [hl] at g2
      injection g2 with g2
      subst g2
      obtain ⟨b, es, cl, r1, r2, r3, r4⟩ := H.ent _ _ g1
      exact ⟨b, es, cl, by rw [cv1of_at cv hI]; exact r1, r2, ⟨r3, unlent _ b g1 (by simp [mblk, r1, mapBlock])⟩, r4⟩
  · obtain ⟨kk, e0, g1, g2, _, g3⟩ := D.pair hl
    obtain ⟨kk', e0', g1', g2', _, g3'⟩ := D.pair hl'
    rw [g3] at hb
    rw [g3'] at hb'
    have := H.sep kk kk' e0 e0' b g2 g2' hb hb'
    subst this
    exact nodup_get hnd g1 g1'

/-! ### Reading what came back -/
def OutL : AV → Prop
  | .t _ | .rowp _ _ _ | .ptr _ _ | .mapp _ | .dead => True
  | _ => False
def OutV : AV → Prop
  | .agg l => ∀ v ∈ l, OutL v
  | v => OutL v
def OutR : AV → Prop
  | .tup l => ∀ v ∈ l, OutV v
  | v => OutV v
theorem OutL.toV {v : AV} (h : OutL v) : OutV v := by cases v <;> first | exact h | exact h.elim
theorem OutV.toR {v : AV} (h : OutV v) : OutR v := by cases v <;> first | exact h | exact h.elim

section
variable {β : Type} {r : β}
theorem decL_ok {s : ShL} {v : AV} {k : AV → Option β} (hk : decL s v k = some r) : ∃ v', k v' = some r ∧ OutL v' ∧ (v' = v ∨ v' = .dead) ∧ (s.scalar = true → ∃ x, v' = .t x ∧ v = .t x ∧ ∀ w X w' X' val, TR w X val x → TR w' X' val x) := by
  have tk : ∀ {k : T → Option β}, AV.tK v k = some r → ∃ x, v = .t x ∧ k x = some r := by
    intro k hk
    cases v <;> simp only [AV.tK] at hk <;> first | exact ⟨_, rfl, hk⟩ | cases hk
  cases s with
  | bool =>
    obtain ⟨x, rfl, hk1⟩ := tk hk
    clear hk tk
    have hk := hk1
    clear hk1
    cases x <;> simp only [T.boolK] at hk <;> first | cases hk; done | skip
    exact ⟨_, hk, trivial, .inl rfl, fun _ => ⟨_, rfl, rfl, fun w X w' X' val h => by cases h; exact .bool _⟩⟩
  | int j =>
    obtain ⟨x, rfl, hk1⟩ := tk hk
    clear hk tk
    have hk := hk1
    clear hk1
    cases x <;> simp only [T.intK] at hk <;> first | cases hk; done | skip
    obtain ⟨h1, hk2⟩ := cond_some hk
    have h1 := same_ok h1
    subst h1
    exact ⟨_, hk2, trivial, .inl rfl, fun _ => ⟨_, rfl, rfl, fun w X w' X' val h => by cases h; exact .int _ _⟩⟩
  | str =>
    obtain ⟨x, rfl, hk1⟩ := tk hk
    clear hk tk
    have hk := hk1
    clear hk1
    cases x <;> simp only [T.strK] at hk <;> first | cases hk; done | skip
    exact ⟨_, hk, trivial, .inl rfl, fun _ => ⟨_, rfl, rfl, fun w X w' X' val h => by cases h; exact .str _⟩⟩
  | sl s =>
    obtain ⟨x, rfl, hk1⟩ := tk hk
    clear hk tk
    have hk := hk1
    clear hk1
    cases x <;> simp only [T.slK] at hk <;> first | cases hk; done | skip
    obtain ⟨h1, hk2⟩ := cond_some hk
    have h1 := beq_eq h1
    subst h1
    exact ⟨_, hk2, trivial, .inl rfl, fun h => by simp [ShL.scalar] at h⟩
  | any =>
    obtain ⟨x, rfl, hk1⟩ := tk hk
    clear hk tk
    have hk := hk1
    clear hk1
    exact ⟨_, hk, trivial, .inl rfl, fun h => by simp [ShL.scalar] at h⟩
  | rowp kk vv =>
    simp only [decL, AV.rowpK] at hk
    split at hk
    · obtain ⟨h1, hk1⟩ := cond_some hk
      obtain ⟨h2, hk2⟩ := cond_some hk1
      have h1 := beq_eq h1
      have h2 := beq_eq h2
      subst h1 h2
      exact ⟨_, hk2, trivial, .inl rfl, fun h => by simp [ShL.scalar] at h⟩
    · cases hk
  | ptr kk off =>
    simp only [decL, AV.ptrK] at hk
    split at hk
    · obtain ⟨h1, hk1⟩ := cond_some hk
      obtain ⟨h2, hk2⟩ := cond_some hk1
      have h1 := beq_eq h1
      have h2 := beq_eq h2
      subst h1 h2
      exact ⟨_, hk2, trivial, .inl rfl, fun h => by simp [ShL.scalar] at h⟩
    · cases hk
  | mapp kk =>
    simp only [decL, AV.mappK] at hk
    split at hk
    · obtain ⟨h1, hk1⟩ := cond_some hk
      have h1 := beq_eq h1
      subst h1
      exact ⟨_, hk1, trivial, .inl rfl, fun h => by simp [ShL.scalar] at h⟩
    · cases hk
  | dead => exact ⟨_, hk, trivial, .inr rfl, fun h => by simp [ShL.scalar] at h⟩
/-- What is taken over: the same, or nothing. -/
def Wk (v v' : AV) : Prop := OutL v' ∧ (v' = v ∨ v' = .dead)
theorem Wk.ar0 {v v' : AV} (h : Wk v v') {w X cv hh val} (hv : AR1 w X cv hh val v) : AR0 w X cv hh val v' := by
  rcases h with ⟨h1, rfl | rfl⟩
  · cases v' <;> first | exact hv | exact h1.elim
  · trivial
def WkV (v v' : AV) : Prop := Wk v v' ∨ ∃ l l', v = .agg l ∧ v' = .agg l' ∧ All2 Wk l l'
def WkR (v v' : AV) : Prop := WkV v v' ∨ ∃ l l', v = .tup l ∧ v' = .tup l' ∧ All2 WkV l l'
/-- A value without ways into memory that changes. -/
def Bare (v v' : AV) : Prop := ∃ x, v' = .t x ∧ v = .t x ∧ ∀ w X w' X' val, TR w X val x → TR w' X' val x
def BareV (v v' : AV) : Prop := Bare v v' ∨ ∃ l l', v = .agg l ∧ v' = .agg l' ∧ All2 Bare l l'
def BareR (v v' : AV) : Prop := BareV v v' ∨ ∃ l l', v = .tup l ∧ v' = .tup l' ∧ All2 BareV l l'
theorem consK_ok {α : Type} {l : List α} {k : α → List α → Option β} (hk : consK l k = some r) : ∃ a m, l = a :: m ∧ k a m = some r := by
  cases l with
  | nil => cases hk
  | cons a m => exact ⟨a, m, rfl, hk⟩
theorem nilK_ok' {α : Type} {l : List α} {k : Option β} (hk : nilK l k = some r) : l = [] ∧ k = some r := by
  cases l with
  | nil => exact ⟨rfl, hk⟩
  | cons a m => cases hk
theorem decLs_ok : ∀ {ss : List ShL} {l : List AV} {k : List AV → Option β}, decLs ss l k = some r → ∃ l', k l' = some r ∧ All2 Wk l l' ∧ (ShL.scalars ss = true → All2 Bare l l')
  | [], l, k, hk => by
    obtain ⟨rfl, hk1⟩ := nilK_ok' hk
    exact ⟨[], hk1, trivial, fun _ => trivial⟩
  | s :: ss, l, k, hk => by
    obtain ⟨a, m, rfl, hk1⟩ := consK_ok hk
    obtain ⟨a', hk, h1, h2, h3⟩ := decL_ok hk1
    obtain ⟨l', hk, h4, h5⟩ := decLs_ok hk
    refine ⟨_, hk, ⟨⟨h1, h2⟩, h4⟩, fun hs => ?_⟩
    simp only [ShL.scalars] at hs
    cases hsc : s.scalar with
    | true => rw [hsc] at hs; exact ⟨h3 hsc, h5 hs⟩
    | false => rw [hsc] at hs; cases hs
theorem decV_ok {s : ShV} {v : AV} {k : AV → Option β} (hk : decV s v k = some r) : ∃ v', k v' = some r ∧ WkV v v' ∧ (s.scalar = true → BareV v v') := by
  cases s with
  | one s =>
    obtain ⟨v', hk, h1, h2, h3⟩ := decL_ok hk
    exact ⟨v', hk, .inl ⟨h1, h2⟩, fun h => .inl (h3 h)⟩
  | agg ss =>
    cases v <;> first | cases hk; done | skip
    obtain ⟨l', hk, h1, h2⟩ := decLs_ok hk
    exact ⟨_, hk, .inr ⟨_, _, rfl, rfl, h1⟩, fun h => .inr ⟨_, _, rfl, rfl, h2 h⟩⟩
theorem decVs_ok : ∀ {ss : List ShV} {l : List AV} {k : List AV → Option β}, decVs ss l k = some r → ∃ l', k l' = some r ∧ All2 WkV l l' ∧ (ShV.scalars ss = true → All2 BareV l l')
  | [], l, k, hk => by
    obtain ⟨rfl, hk1⟩ := nilK_ok' hk
    exact ⟨[], hk1, trivial, fun _ => trivial⟩
  | s :: ss, l, k, hk => by
    obtain ⟨a, m, rfl, hk1⟩ := consK_ok hk
    obtain ⟨a', hk, h1, h3⟩ := decV_ok hk1
    obtain ⟨l', hk, h4, h5⟩ := decVs_ok hk
    refine ⟨_, hk, ⟨h1, h4⟩, fun hs => ?_⟩
    simp only [ShV.scalars] at hs
    cases hsc : s.scalar with
    | true => rw [hsc] at hs; exact ⟨h3 hsc, h5 hs⟩
    | false => rw [hsc] at hs; cases hs
theorem decR_ok {s : ShR} {v : AV} {k : AV → Option β} (hk : decR s v k = some r) : ∃ v', k v' = some r ∧ WkR v v' ∧ (s.scalar = true → BareR v v') := by
  cases s with
  | val s =>
    obtain ⟨v', hk, h1, h3⟩ := decV_ok hk
    exact ⟨v', hk, .inl h1, fun h => .inl (h3 h)⟩
  | tup ss =>
    cases v <;> first | cases hk; done | skip
    obtain ⟨l', hk, h1, h2⟩ := decVs_ok hk
    exact ⟨_, hk, .inr ⟨_, _, rfl, rfl, h1⟩, fun h => .inr ⟨_, _, rfl, rfl, h2 h⟩⟩

/-- An entry as it came back. -/
def WkE (s : ShE) (e e' : Ent) : Prop := match s with
  | .box sh l => ∃ sh0 c c', e = .box sh0 c ∧ e' = .box sh c' ∧ All2 Wk c c'
  | .row v s t => ∃ rows, e = .row v s t rows ∧ e' = .row v s t rows
  | .map => ∃ l, e = .map l ∧ e' = .map l
theorem decE_ok {s : ShE} {e : Ent} {k : Ent → Option β} (hk : decE s e k = some r) : ∃ e', k e' = some r ∧ WkE s e e' := by
  cases s with
  | box sh l =>
    cases e <;> first | cases hk; done | skip
    obtain ⟨c', hk, h1, _⟩ := decLs_ok hk
    exact ⟨_, hk, _, _, _, rfl, rfl, h1⟩
  | row v s t =>
    simp only [decE, Ent.rowK] at hk
    split at hk
    · obtain ⟨h1, hk1⟩ := cond_some hk
      obtain ⟨h2, hk2⟩ := cond_some hk1
      obtain ⟨h3, hk3⟩ := cond_some hk2
      have h1 := beq_eq h1
      have h2 := beq_eq h2
      have h3 := beq_eq h3
      subst h1 h2 h3
      exact ⟨_, hk3, _, rfl, rfl⟩
    · cases hk
  | map =>
    cases e <;> first | cases hk; done | skip
    exact ⟨_, hk, _, rfl, rfl⟩
theorem decEs_ok : ∀ {ss : List ShE} {i : Nat} {h : Heap} {k : List Ent → Option β}, decEs i ss h k = some r → ∃ es, k es = some r ∧ es.length = ss.length ∧
    (∀ j s, ss[j]? = some s → ∃ e e', look h (i + j) = some e ∧ es[j]? = some e' ∧ WkE s e e') ∧ (∀ j e, look h j = some e → i ≤ j ∧ j < i + ss.length)
  | [], i, h, k, hk => by
    simp only [decEs] at hk
    obtain ⟨rfl, hk1⟩ := nilK_ok' hk
    exact ⟨[], hk1, rfl, by simp, fun j e hj => by simp [look, asc] at hj⟩
  | s :: ss, i, h, k, hk => by
    simp only [decEs] at hk
    obtain ⟨⟨n, e⟩, m, rfl, hk1⟩ := consK_ok hk
    clear hk
    obtain ⟨h1, hk2⟩ := cond_some hk1
    clear hk1
    have h1 := beq_eq h1
    simp only at h1
    subst h1
    obtain ⟨e', hk, h2⟩ := decE_ok hk2
    obtain ⟨es, hk, h3, h4, h5⟩ := decEs_ok hk
    have skip : ∀ j, n ≠ j → look ((n, e) :: m) j = look m j := by
      intro j hne
      have hb : Nat.beq n j = false := by
        cases hb : Nat.beq n j with
        | true => exact absurd (beq_eq hb) hne
        | false => rfl
      simp only [look, asc, hb, cond_false]
    refine ⟨_, hk, by simp [h3], fun j s' hj => ?_, fun j e'' hj => ?_⟩
    · cases j with
      | zero =>
        simp at hj
        subst hj
        exact ⟨e, e', by simp [look, asc], rfl, h2⟩
      | succ j =>
        obtain ⟨e1, e2, g1, g2, g3⟩ := h4 j s' (by simpa using hj)
        refine ⟨e1, e2, ?_, by simpa using g2, g3⟩
        rw [skip _ (by omega), show n + (j + 1) = n + 1 + j by omega]
        exact g1
    · by_cases hn : n = j
      · subst hn; simp
      · rw [skip j hn] at hj
        have := h5 j e'' hj
        simp
        omega
end
end Go.AS
