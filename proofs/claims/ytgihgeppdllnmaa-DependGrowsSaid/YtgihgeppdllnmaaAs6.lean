/- AS, part 6: closing for good; boxes; stores. -/
import Derived.Test.YtgihgeppdllnmaaAs5
namespace Go.AS
open Go.RowKit
set_option linter.all false

theorem AR1.slice {w X cv h v k ver n} (H : AR1 w X cv h v (.rowp k ver n)) : ∃ b l c, v = .slice b l c := H.1
theorem AR1.one {w X cv h v a} (H : AR1 w X cv h v a) (hs : a.storable = true) : v.oneCell' = true := by
  cases a with
  | t x => exact TR.one H
  | nils e s => have : v = _ := H; rw [this]; rfl
  | rowp k ver n => obtain ⟨b, l, c, rfl⟩ := H.1; rfl
  | ptr k off => obtain ⟨e, b, _, _, _, rfl⟩ := H; rfl
  | elp k ver i off => obtain ⟨⟨a, rfl⟩, _⟩ := H; rfl
  | tel s row off => obtain ⟨a, rfl, _⟩ := H; rfl
  | clo f caps => obtain ⟨l, rfl, _⟩ := H; rfl
  | mapp k => obtain ⟨l, b, _, _, rfl⟩ := H; rfl
  | _ => cases hs
theorem allStorable_iff : ∀ (l : List AV), allStorable l = true ↔ ∀ v ∈ l, v.storable = true
  | [] => by simp [allStorable]
  | v :: l => by
    simp only [allStorable]
    cases hv : v.storable with
    | true => simp [allStorable_iff l, hv]
    | false => simp [hv]
theorem one_all {w X cv h} : ∀ {cs : List Value} {l : List AV}, All2 (AR1 w X cv h) cs l → allStorable l = true → ∀ u ∈ cs, u.oneCell' = true
  | [], [], _, _, u, hu => by cases hu
  | c :: cs, v :: l, H, hs, u, hu => by
    simp only [allStorable] at hs
    obtain ⟨h1, h2⟩ := cond_some' hs
    rcases List.mem_cons.1 hu with rfl | hu
    · exact H.1.one h1
    · exact one_all H.2 h2 u hu
where cond_some' {c x : Bool} (H : cond c x false = true) : c = true ∧ x = true := by cases c <;> simp at H; exact ⟨rfl, H⟩
theorem cells_one {v : Value} (h : v.oneCell' = true) : v.cells = #[v] := by cases v <;> first | rfl | cases h
theorem cells_ok {w X cv h val v} (H : AR3 w X cv h val v) (hs : allStorable v.cells = true) : All2 (AR1 w X cv h) val.cells.toList v.cells ∧ ∀ u ∈ val.cells.toList, u.oneCell' = true := by
  have hone : ∀ (hh : AR1 w X cv h val v), v.cells = [v] → All2 (AR1 w X cv h) val.cells.toList v.cells ∧ ∀ u ∈ val.cells.toList, u.oneCell' = true := by
    intro hh hc
    rw [hc] at hs ⊢
    have h1 : v.storable = true := (allStorable_iff _).1 hs v (by simp)
    have h2 := hh.one h1
    rw [cells_one h2]
    exact ⟨⟨hh, trivial⟩, by simpa using h2⟩
  rcases H.parts with H | ⟨ps, l, rfl, _, _⟩
  · rcases H.parts with H | ⟨cells, l, rfl, rfl, h2⟩
    · cases v <;> first | exact hone H rfl | exact absurd H (by simp [AR1, AR0])
    · refine ⟨h2, fun u hu => one_all h2 hs u ?_⟩
      simpa [Value.cells] using hu
  · simp [AV.cells, allStorable, AV.storable] at hs

/-! ### Closing for good -/
theorem TR.nil_sl {w X s} : TR w X (.slice none 0 0) (.sl s []) := .sl none ⟨0, 0, none⟩ 0 0 s [] (fun _ _ => undef) rfl (Nat.le_refl _) (by simp) (by simp) (by simp) (by simp)
theorem All2.mono_TR {w w' X X'} (K : Keep w X w' X') {l : List Value} {m : List T} (h : All2 (TR w X) l m) : All2 (TR w' X') l m := h.imp fun _ _ => TR.mono K
theorem upd_look {h : Heap} {k : Nat} {e e0 : Ent} {k' : Nat} {e' : Ent} (h0 : look h k = some e0) (hne : e' ≠ e0) (hk : look h k' = some e') : look (upd h k e) k' = some e' := by
  rw [look_upd_other _ _ (fun he => ?_), hk]
  subst he
  rw [h0] at hk
  injection hk with hk
  exact hne hk.symm

theorem strip0_ok {base wb w X cv h} (H : HRel base wb w X cv h) {val : Value} {v : AV} (hv : AR1 w X cv h val v) {x : T} {h1 : Heap} {w1 : List Nat} (hs : strip0 h v = some (x, h1, w1)) :
    (∃ X1, HRel base wb w X1 cv h1 ∧ Go1 w1 w X cv h w X1 cv h1 ∧ TR w X1 val x) ∧ ∀ kk sh c, look h kk = some (.box sh c) → look h1 kk = some (.box sh c) := by
  cases v with
  | t y =>
    simp only [strip0] at hs
    injection hs with hs; injection hs with e1 hs; injection hs with e2 e3
    subst e1 e2 e3
    exact ⟨⟨X, H, .refl .., hv⟩, fun _ _ _ h => h⟩
  | nils e s =>
    simp only [strip0] at hs
    injection hs with hs; injection hs with e1 hs; injection hs with e2 e3
    subst e1 e2 e3
    have : val = _ := hv
    subst this
    exact ⟨⟨X, H, .refl .., TR.nil_sl⟩, fun _ _ _ h => h⟩
  | rowp kk ver n =>
    simp only [strip0] at hs
    obtain ⟨hsl, e, v', hlk, hv', hle, hcut⟩ := hv
    simp only [hlk] at hs
    cases e with
    | row v1 s t rows =>
      obtain ⟨hver, hs⟩ := cond_some hs
      have hver := beq_eq hver
      injection hs with hs; injection hs with e1 hs; injection hs with e2 e3
      subst e1 e2 e3
      simp only [rowVer] at hv'
      injection hv' with hv'
      have hc := hcut (by omega)
      obtain ⟨G1, G2⟩ := H.fixRow hlk
      refine ⟨⟨_, G1, G2, ?_⟩, fun k' sh c hk' => upd_look hlk (by simp) hk'⟩
      have h2 : TR w _ (cv kk) (.sl s rows) := G1.ent kk _ (look_upd_same ..)
      cases n with
      | none => simp only [CutOf] at hc; rw [hc]; exact h2
      | some n =>
        obtain ⟨b, len, cap, q1, q2, q3, q4⟩ := hc
        exact TR.tk q1 h2 ⟨b, len, cap, q1, q2, q3, q4⟩
    | irow v1 s rows =>
      obtain ⟨hver, hs⟩ := cond_some hs
      have hver := beq_eq hver
      injection hs with hs; injection hs with e1 hs; injection hs with e2 e3
      subst e1 e2 e3
      simp only [rowVer] at hv'
      injection hv' with hv'
      have hc := hcut (by omega)
      refine ⟨⟨X, H, .refl .., ?_⟩, fun _ _ _ h => h⟩
      have h2 : TR w _ (cv kk) (.sl s rows) := H.ent kk _ hlk
      cases n with
      | none => simp only [CutOf] at hc; rw [hc]; exact h2
      | some n =>
        obtain ⟨b, len, cap, q1, q2, q3, q4⟩ := hc
        exact TR.tk q1 h2 ⟨b, len, cap, q1, q2, q3, q4⟩
    | box _ _ => cases hs
    | ibox _ => cases hs
    | map _ => cases hs
  | _ => cases hs
theorem strip0s_ok {base wb w cv} : ∀ {vals : List Value} {l : List AV} {X h} (H : HRel base wb w X cv h) (hv : All2 (AR1 w X cv h) vals l) {xs : List T} {h1 : Heap} {w1 : List Nat} (hs : strip0s h l = some (xs, h1, w1)),
    (∃ X1, HRel base wb w X1 cv h1 ∧ Go1 w1 w X cv h w X1 cv h1 ∧ All2 (TR w X1) vals xs) ∧ ∀ kk sh c, look h kk = some (.box sh c) → look h1 kk = some (.box sh c)
  | [], [], X, h, H, hv, xs, h1, w1, hs => by
    simp only [strip0s] at hs
    injection hs with hs; injection hs with e1 hs; injection hs with e2 e3
    subst e1 e2 e3
    exact ⟨⟨X, H, .refl .., trivial⟩, fun _ _ _ h => h⟩
  | val :: vals, v :: l, X, h, H, hv, xs, h1, w1, hs => by
    simp only [strip0s] at hs
    split at hs
    · cases hs
    · rename_i x ha wa h2
      split at hs
      · cases hs
      · rename_i xs' hb wb' h3
        injection hs with hs; injection hs with e1 hs; injection hs with e2 e3
        subst e1 e2 e3
        obtain ⟨⟨X1, H1, G1, t1⟩, b1⟩ := strip0_ok H hv.1 h2
        obtain ⟨⟨X2, H2, G2, t2⟩, b2⟩ := strip0s_ok H1 (hv.2.imp fun _ _ => AR1.mono (G1.keep H) G1) h3
        exact ⟨⟨X2, H2, G1.trans G2, t1.mono (G2.keep H1), t2⟩, fun kk sh c hk => b2 kk sh c (b1 kk sh c hk)⟩

theorem cells_pt {w : World} {X : Nat → Prop} {b : Nat} {arr : Array Value} {t : TypeId} {fr : Nat × Nat} {xs : List T} (hb : w.heap[b]? = some (.cells arr t fr)) (hx : ¬ X b) (hv : All2 (TR w X) arr.toList xs) :
    TR w X (.pointer (some ⟨b, 0, none⟩)) (.pt xs.length xs) := by
  have hlt : b < w.heap.size := (Array.getElem?_eq_some_iff.1 hb).1
  have hl := hv.length
  refine .pt _ _ xs (fun i => (arr.toList[i]?).getD undef) rfl hx hlt (fun i x hi => ?_) (fun i x hi => ?_)
  · have hil : i < xs.length := (List.getElem?_eq_some_iff.1 hi).1
    have : i < arr.size := by simp at hl; omega
    rw [add_lit]
    simp [World.cell?, hb, this]
  · have hil : i < xs.length := (List.getElem?_eq_some_iff.1 hi).1
    have hia : i < arr.toList.length := by omega
    rw [List.getElem?_eq_getElem hia]
    exact All2.get i _ _ hv (List.getElem?_eq_getElem hia) hi
theorem strip1_ok {base wb w X cv h} (H : HRel base wb w X cv h) {val : Value} {v : AV} (hv : AR1 w X cv h val v) {x : T} {h1 : Heap} {w1 : List Nat} (hs : strip1 h v = some (x, h1, w1)) :
    ∃ X1, HRel base wb w X1 cv h1 ∧ Go1 w1 w X cv h w X1 cv h1 ∧ TR w X1 val x := by
  unfold strip1 at hs
  split at hs
  · rename_i kk
    obtain ⟨e, b, hlk, hbx, hcv, hpv⟩ := hv
    rw [add_zero'] at hpv
    simp only [hlk] at hs
    cases e with
    | box sh cells =>
      simp only at hs
      split at hs
      · cases hs
      · rename_i xs h2 w2 h3
        injection hs with hs; injection hs with e1 hs; injection hs with e2 e3
        subst e1 e2 e3
        obtain ⟨b', arr, t, q1, q2, q3, q4⟩ := H.ent kk _ hlk
        rw [hcv] at q1
        injection q1 with q1; injection q1 with q1; injection q1 with q1
        subst q1
        obtain ⟨⟨X1, H1, G1, t1⟩, b1⟩ := strip0s_ok H q4 h3
        have hlk1 := b1 kk sh cells hlk
        have hm : mblk cv kk (.box sh cells) = some b := by simp [mblk, hcv, ptrBlock]
        have K : Keep w X1 w (fun b' => X1 b' ∧ mblk cv kk (.box sh cells) ≠ some b') := ⟨Nat.le_refl _, fun _ _ _ => rfl, fun _ _ h => h.1⟩
        have htr : TR w (fun b' => X1 b' ∧ mblk cv kk (.box sh cells) ≠ some b') (cv kk) (.pt xs.length xs) := by
          rw [hcv]
          exact cells_pt q2 (fun hx => hx.2 hm) (t1.mono_TR K)
        have H2 := H1.fix (e' := .ibox xs) hlk1 trivial (by simp [mblk]) ⟨b, hcv, htr⟩
        have G2 := H1.fixGo (e' := .ibox xs) hlk1 trivial (by simp [mblk])
        refine ⟨_, H2, ?_, by rw [hpv, ← hcv]; exact htr⟩
        have G3 := G1.trans G2
        exact ⟨G3.size, G3.blk, G3.xold, G3.xkeep, G3.own, G3.ent, fun k hk => G3.wr k (by simp at hk ⊢; exact ⟨hk.2, hk.1⟩)⟩
    | ibox xs =>
      simp only at hs
      injection hs with hs; injection hs with e1 hs; injection hs with e2 e3
      subst e1 e2 e3
      obtain ⟨b', q1, q2⟩ := H.ent kk _ hlk
      exact ⟨X, H, .refl .., by rw [hpv, ← hcv]; exact q2⟩
    | row _ _ _ _ => cases hs
    | irow _ _ _ => cases hs
    | map _ => cases hs
  · exact (strip0_ok H hv hs).1
theorem strip1s_ok {base wb w cv} : ∀ {vals : List Value} {l : List AV} {X h} (H : HRel base wb w X cv h) (hv : All2 (AR1 w X cv h) vals l) {xs : List T} {h1 : Heap} {w1 : List Nat} (hs : strip1s h l = some (xs, h1, w1)),
    ∃ X1, HRel base wb w X1 cv h1 ∧ Go1 w1 w X cv h w X1 cv h1 ∧ All2 (TR w X1) vals xs
  | [], [], X, h, H, hv, xs, h1, w1, hs => by
    simp only [strip1s] at hs
    injection hs with hs; injection hs with e1 hs; injection hs with e2 e3
    subst e1 e2 e3
    exact ⟨X, H, .refl .., trivial⟩
  | val :: vals, v :: l, X, h, H, hv, xs, h1, w1, hs => by
    simp only [strip1s] at hs
    split at hs
    · cases hs
    · rename_i x ha wa h2
      split at hs
      · cases hs
      · rename_i xs' hb wb' h3
        injection hs with hs; injection hs with e1 hs; injection hs with e2 e3
        subst e1 e2 e3
        obtain ⟨X1, H1, G1, t1⟩ := strip1_ok H hv.1 h2
        obtain ⟨X2, H2, G2, t2⟩ := strip1s_ok H1 (hv.2.imp fun _ _ => AR1.mono (G1.keep H) G1) h3
        exact ⟨X2, H2, G1.trans G2, t1.mono (G2.keep H1), t2⟩

/-! ### A new box -/
theorem heap_old (w : World) (o : Obj) : ∀ b, b < w.heap.size → (w.alloc o).heap[b]? = w.heap[b]? := fun b hb => Below.heap_alloc w o b hb
theorem new_some {β : Type} {h : Heap} {kk : Nat} {e : Ent} {k : Heap → Option β} {r : β} (hk : new h kk e k = some r) : look h kk = none ∧ k (upd h kk e) = some r := by
  unfold new at hk
  split at hk
  · cases hk
  · rename_i hl; exact ⟨hl, hk⟩
theorem boxK_ok {β : Type} {r : β} {cx : Cx} {base wb w X cv h} (H : HRel base wb w X cv h) {d : Nat} {t : TypeId} {cs : List Value} {cells : List AV} (hcs : All2 (AR1 w X cv h) cs cells) {k : OpK β} (hk : boxK cx d t h cells k = some r) :
    ∃ h1, k (.ptr (key d 0) 0) h1 [] [key d 0] = some r ∧ cells.length = cx.sz t ∧ allStorable cells = true ∧ ∃ X' cv', HRel base wb (w.alloc (.cells cs.toArray t)) X' cv' h1 ∧ Go1 [key d 0] w X cv h (w.alloc (.cells cs.toArray t)) X' cv' h1 ∧
      AR3 (w.alloc (.cells cs.toArray t)) X' cv' h1 (.pointer (some ⟨w.heap.size, 0, none⟩)) (.ptr (key d 0) 0) := by
  unfold boxK at hk
  obtain ⟨c1, hk⟩ := cond_some hk
  obtain ⟨c2, hk⟩ := cond_some hk
  obtain ⟨hn, hk⟩ := new_some hk
  refine ⟨_, hk, beq_eq c1, c2, ?_⟩
  have hs : w.heap.size ≤ (w.alloc (.cells cs.toArray t)).heap.size := by simp
  have hnew : ∀ b, mblk (setCV cv (key d 0) (.pointer (some ⟨w.heap.size, 0, none⟩))) (key d 0) (.box (cx.tyi t).sh cells) = some b → w.heap.size ≤ b ∧ b < (w.alloc (.cells cs.toArray t)).heap.size := by
    intro b hb
    simp [mblk, setCV_same, ptrBlock] at hb
    subst hb
    simp
  have G := H.addGo (e := .box (cx.tyi t).sh cells) (c := .pointer (some ⟨w.heap.size, 0, none⟩)) hn hs (heap_old w _) fun b hb => (hnew b hb).1
  refine ⟨_, _, H.add hn hs (heap_old w _) ⟨rfl, rfl, rfl⟩ hnew ?_, G, ?_⟩
  · refine ⟨w.heap.size, cs.toArray, t, setCV_same .., heap_alloc_new w _, .inr (by simp [mblk, setCV_same, ptrBlock]), ?_⟩
    exact hcs.imp fun _ _ => AR1.mono (G.keep H) G
  · exact ⟨_, w.heap.size, look_upd_same .., rfl, setCV_same .., by rw [add_zero']⟩

/-! ### Stores -/
theorem setCells_cons {α : Type} : ∀ (xs l : List α) (a : α) (off : Nat), setCells (a :: l) (off + 1) xs = a :: setCells l off xs
  | [], _, _, _ => rfl
  | x :: xs, l, a, off => by simp only [setCells, setN]; exact setCells_cons xs _ a (off + 1)
theorem setCells_spec {α : Type} : ∀ (off : Nat) (xs l : List α), off + xs.length ≤ l.length → setCells l off xs = l.take off ++ xs ++ l.drop (off + xs.length)
  | 0, [], l, h => by simp [setCells]
  | 0, x :: xs, a :: l, h => by
    have hl : 0 + xs.length ≤ l.length := by simp at h; omega
    have := setCells_spec 0 xs l hl
    simp only [setCells, setN]
    rw [setCells_cons, this]
    simp
  | 0, x :: xs, [], h => by simp at h
  | off + 1, xs, a :: l, h => by
    have hl : off + xs.length ≤ l.length := by simp at h; omega
    rw [setCells_cons, setCells_spec off xs l hl, show off + 1 + xs.length = (off + xs.length) + 1 by omega]
    simp
  | off + 1, xs, [], h => by simp at h
theorem All2.take {α β : Type} {R : α → β → Prop} : ∀ (n : Nat) {l : List α} {m : List β}, All2 R l m → All2 R (l.take n) (m.take n)
  | 0, _, _, _ => by simp [All2]
  | n + 1, [], [], _ => by simp [All2]
  | n + 1, _ :: _, _ :: _, h => by simpa using ⟨h.1, All2.take n h.2⟩
theorem All2.drop {α β : Type} {R : α → β → Prop} : ∀ (n : Nat) {l : List α} {m : List β}, All2 R l m → All2 R (l.drop n) (m.drop n)
  | 0, _, _, h => by simpa using h
  | n + 1, [], [], _ => by simp [All2]
  | n + 1, _ :: _, _ :: _, h => by simpa using All2.drop n h.2
theorem run_storeVar_at {P : Program} {w : World} {g off : Nat} {arr : Array Value} {tt t : TypeId} {inf : TypeInfo} {val : Value} (hi : P.info? t = some inf) (hsz : val.cells.size = inf.size) (hg : w.heap[g]? = some (.cells arr tt (0, 0)))
    (hl : off + val.cells.size ≤ arr.size) (h1 : ∀ u ∈ val.cells.toList, u.oneCell' = true) :
    (storeVar t ⟨g, off, none⟩ val).run P w = .ok () (w.setRow g (setCells arr.toList off val.cells.toList).toArray) := by
  have hrun := run_storeCells_at P g off tt val.cells.toList 0 arr w hg (by simpa using hl) h1
  rw [setCells_spec off _ _ (by simpa using hl)]
  simp only [Nat.add_zero] at hrun
  simp [storeVar, run_size hi, hsz, hrun]

theorem All2.setCells {α β : Type} {R : α → β → Prop} {l : List α} {m : List β} {xs : List α} {ys : List β} {off : Nat} (h : All2 R l m) (h2 : All2 R xs ys) (hl : off + xs.length ≤ l.length) : All2 R (AS.setCells l off xs) (AS.setCells m off ys) := by
  have e1 := h.length
  have e2 := h2.length
  rw [setCells_spec off _ _ hl, setCells_spec off _ _ (by omega), e2]
  exact ((h.take off).append h2).append (h.drop _)
theorem setCells_get {α : Type} {xs l : List α} {off : Nat} (h : off + xs.length ≤ l.length) (i : Nat) : (setCells l off xs)[i]? = if off ≤ i ∧ i < off + xs.length then xs[i - off]? else l[i]? := by
  rw [setCells_spec off xs l h]
  have hm : min off l.length = off := by omega
  by_cases h1 : off ≤ i
  · by_cases h2 : i < off + xs.length
    · rw [if_pos ⟨h1, h2⟩, List.append_assoc, List.getElem?_append_right (by simp; omega), List.getElem?_append_left (by simp; omega)]
      simp [hm]
    · rw [if_neg (by omega), List.append_assoc, List.getElem?_append_right (by simp; omega), List.getElem?_append_right (by simp; omega), List.getElem?_drop]
      simp only [List.length_take, hm]
      congr 1
      omega
  · rw [if_neg (by omega), List.append_assoc, List.getElem?_append_left (by simp; omega), List.getElem?_take, if_pos (by omega)]
theorem setCells_length {α : Type} {xs l : List α} {off : Nat} (h : off + xs.length ≤ l.length) : (setCells l off xs).length = l.length := by
  rw [setCells_spec off xs l h]
  simp
  omega
theorem strip0_storable {h v x h1 w1} (H : strip0 h v = some (x, h1, w1)) : v.storable = true := by cases v <;> first | rfl | cases H
theorem strip1_storable {h v x h1 w1} (H : strip1 h v = some (x, h1, w1)) : v.storable = true := by
  unfold strip1 at H
  split at H
  · rfl
  · exact strip0_storable H
theorem strip1s_storable : ∀ {l : List AV} {h xs h1 w1}, strip1s h l = some (xs, h1, w1) → allStorable l = true
  | [], _, _, _, _, _ => rfl
  | v :: l, h, xs, h1, w1, H => by
    simp only [strip1s] at H
    split at H
    · cases H
    · rename_i h2
      split at H
      · cases H
      · rename_i h3
        simp [allStorable, strip1_storable h2, strip1s_storable h3]
theorem strip1s_length : ∀ {l : List AV} {h xs h1 w1}, strip1s h l = some (xs, h1, w1) → xs.length = l.length
  | [], _, _, _, _, H => by simp only [strip1s] at H; injection H with H; injection H with H; subst H; rfl
  | v :: l, h, xs, h1, w1, H => by
    simp only [strip1s] at H
    split at H
    · cases H
    · rename_i h2
      split at H
      · cases H
      · rename_i h3
        injection H with H; injection H with H; subst H
        simp [strip1s_length h3]
theorem place_iff {s m off i0 j i : Nat} (hi : i < s) (hm : off + m ≤ s) : (i0 * s + off ≤ j * s + i ∧ j * s + i < i0 * s + off + m) ↔ (j = i0 ∧ off ≤ i ∧ i < off + m) := by
  constructor
  · intro h
    have : j = i0 := by
      rcases Nat.lt_trichotomy j i0 with h1 | h1 | h1
      · have := Nat.mul_le_mul_right s (show j + 1 ≤ i0 from h1)
        rw [Nat.add_mul] at this
        omega
      · exact h1
      · have := Nat.mul_le_mul_right s (show i0 + 1 ≤ j from h1)
        rw [Nat.add_mul] at this
        omega
    subst this
    omega
  · rintro ⟨rfl, h1, h2⟩
    omega
theorem RowsR.setCells {w X s xs rows} (H : RowsR w X s xs rows) {i0 off : Nat} {vals : List Value} {ts : List T} (hv : All2 (TR w X) vals ts) (hm : off + ts.length ≤ s) (hi : i0 < rows.length) (hx : i0 * s + off + vals.length ≤ xs.length) :
    RowsR w X s (setCells xs (i0 * s + off) vals) (setN rows i0 (AS.setCells (nth [] rows i0) off ts)) := by
  have hlen := hv.length
  intro j r hj
  rw [setN_set, List.getElem?_set] at hj
  by_cases hji : i0 = j
  · subst hji
    rw [if_pos rfl, if_pos hi] at hj
    injection hj with hj
    subst hj
    obtain ⟨r1, r2⟩ := H i0 _ (nth_of [] hi)
    have hfit : off + ts.length ≤ (nth [] rows i0).length := by omega
    refine ⟨by rw [setCells_length hfit, r1], fun i x hix => ?_⟩
    have his : i < s := by
      have := (List.getElem?_eq_some_iff.1 hix).1
      rw [setCells_length hfit] at this
      omega
    rw [setCells_get hfit] at hix
    rw [setCells_get hx]
    by_cases hin : off ≤ i ∧ i < off + ts.length
    · rw [if_pos hin] at hix
      rw [if_pos ((place_iff his (by omega)).2 ⟨rfl, hin.1, by omega⟩), show i0 * s + i - (i0 * s + off) = i - off by omega]
      have hil : i - off < vals.length := by omega
      exact ⟨_, List.getElem?_eq_getElem hil, All2.get _ _ _ hv (List.getElem?_eq_getElem hil) hix⟩
    · rw [if_neg hin] at hix
      rw [if_neg (fun h => hin (by have := (place_iff his (by omega)).1 h; omega))]
      exact r2 i x hix
  · rw [if_neg hji] at hj
    obtain ⟨r1, r2⟩ := H j r hj
    refine ⟨r1, fun i x hix => ?_⟩
    have his : i < s := by have := (List.getElem?_eq_some_iff.1 hix).1; omega
    rw [setCells_get hx, if_neg (fun h => hji (by have := (place_iff his (by omega)).1 h; omega))]
    exact r2 i x hix
theorem setCV_self (cv : CV) (k : Nat) : setCV cv k (cv k) = cv := by
  funext k'
  unfold setCV
  split
  · rename_i h; rw [h]
  · rfl

section
variable {P : Program} {cx : Cx} (hcx : CxOk P cx) {β : Type} {r : β}
include hcx
theorem storeK_ok {base wb w X cv h} (H : HRel base wb w X cv h) {t : TypeId} {p v : AV} {pv val : Value} (hp : AR3 w X cv h pv p) (hv : AR3 w X cv h val v) {k : OpK β} (hk : storeK cx t h p v k = some r) :
    ∃ h' wr, k .undef h' [] wr = some r ∧ ∃ w' X', (Instr.storeAt t pv val).run P w = .ok () w' ∧ HRel base wb w' X' cv h' ∧ Go1 wr w X cv h w' X' cv h' := by
  unfold storeK at hk
  obtain ⟨hlen, hk⟩ := cond_some hk
  have hlen := beq_eq hlen
  obtain ⟨hpos, hk⟩ := cond_some hk
  have hpos := ble_le hpos
  obtain ⟨inf, hinf, hinf2, _⟩ := hcx.size (t := t) (.inr hpos)
  cases p with
  | ptr kk off =>
    obtain ⟨e, b, hlk, hbx, hcv, hpv⟩ := hp
    simp only [hlk] at hk
    cases e with
    | box sh cells =>
      obtain ⟨hle, hk⟩ := cond_some hk
      obtain ⟨hst, hk⟩ := cond_some hk
      have hle := ble_le hle
      obtain ⟨b', arr, tt, e1, e2, e3, e4⟩ := H.ent kk _ hlk
      rw [hcv] at e1
      injection e1 with e1; injection e1 with e1; injection e1 with e1
      subst e1
      obtain ⟨hc, hone⟩ := cells_ok hv hst
      have hl1 := hc.length
      have hl2 := e4.length
      simp only [Array.length_toList] at hl1 hl2
      rw [add_lit] at hpv
      have hrun := run_storeVar_at (P := P) (val := val) (off := off) hinf (by omega) e2 (by omega) hone
      have hm : mblk cv kk (.box sh cells) = some b := by simp [mblk, hcv, ptrBlock]
      have hm' : mblk cv kk (.box sh (setCells cells off v.cells)) = some b := by simp [mblk, hcv, ptrBlock]
      have hnew : ∀ b', mblk (setCV cv kk (cv kk)) kk (.box sh (setCells cells off v.cells)) = some b' → mblk cv kk (.box sh cells) = some b' := by
        intro b' hb
        rw [setCV_self, hm'] at hb
        rw [hm]; exact hb
      have hsz : w.heap.size ≤ (w.setRow b (setCells arr.toList off val.cells.toList).toArray).heap.size := by simp
      have hold : ∀ b', b' < w.heap.size → mblk cv kk (.box sh cells) ≠ some b' → (w.setRow b (setCells arr.toList off val.cells.toList).toArray).heap[b']? = w.heap[b']? := by
        intro b' _ hne
        exact setRow_other w b b' _ fun he => hne (by rw [he]; exact hm)
      have G := H.putGo (e' := .box sh (setCells cells off v.cells)) (c := cv kk) hlk trivial hsz hold (fun _ => rfl) (fun _ => rfl) (fun b' hb => .inl (hnew b' hb))
      refine ⟨_, _, hk, w.setRow b (setCells arr.toList off val.cells.toList).toArray, fun b' => X b' ∨ mblk cv kk (.box sh (setCells cells off v.cells)) = some b', by subst hpv; simp [Instr.storeAt, Instr.sureAddr, hrun], ?_, ?_⟩
      rotate_left
      · rw [setCV_self] at G; exact G
      · have H2 := H.put (e' := .box sh (setCells cells off v.cells)) (c := cv kk) hlk trivial hsz hold ⟨rfl, rfl, rfl⟩ (fun _ => rfl) (fun _ => rfl) (fun b' hb => .inl (hnew b' hb)) ?_
        · rw [setCV_self] at H2; exact H2
        · rw [setCV_self] at G ⊢
          refine ⟨b, _, tt, hcv, setRow_heap w b arr _ tt _ e2, .inl e3, ?_⟩
          exact All2.setCells (e4.imp fun _ _ => AR1.mono (G.keep H) G) (hc.imp fun _ _ => AR1.mono (G.keep H) G) (by simp; omega)
    | ibox _ => cases hk
    | row _ _ _ _ => cases hk
    | irow _ _ _ => cases hk
    | map _ => cases hk
  | elp kk ver i off =>
    simp only at hk
    split at hk
    · cases hk
    · rename_i ts h1 w1 hs
      obtain ⟨hc, hone⟩ := cells_ok hv (strip1s_storable hs)
      have hl0 := strip1s_length hs
      have hl1 := hc.length
      simp only [Array.length_toList] at hl1
      obtain ⟨X1, H1, G1, t1⟩ := strip1s_ok H hc hs
      have hp1 : AR0 w X1 cv h1 pv (.elp kk ver i off) := AR0.mono (G1.keep H) G1 hp
      obtain ⟨_, e, v', hlk, hv', hle, hcur⟩ := hp1
      simp only [hlk] at hk
      cases e with
      | row v1 s e rows =>
        obtain ⟨hver, hk⟩ := cond_some hk
        obtain ⟨hsz, hk⟩ := cond_some hk
        have hver := beq_eq hver
        have hsz := ble_le hsz
        simp only [rowVer] at hv'
        injection hv' with hv'
        obtain ⟨a, len, cap, q1, q2, q3⟩ := hcur (by omega)
        obtain ⟨xs, o1, o2, o3, o4⟩ := H1.ent kk _ hlk
        have o1' := o1
        rw [q1] at o1
        rcases o1.2 with ⟨hc0, _⟩ | ⟨g, cap', cur, hc0, hb0, hg, hn0, hcap, hcsz, htake⟩
        · cases hc0
        · have hlen' : len = rows.length := by cases hc0; rfl
          have ha : a = ⟨g, 0, none⟩ := by cases hc0; rfl
          have hcc : cap = cap' := by cases hc0; rfl
          subst ha hcc
          have hxl : xs.length = rows.length * s := o1.1
          have hplace : i * s + off + val.cells.size ≤ rows.length * s := by
            have := Nat.mul_le_mul_right s (show i + 1 ≤ rows.length by omega)
            rw [Nat.add_mul] at this
            omega
          have hcap2 : rows.length * s ≤ cur.size := by rw [hcsz]; exact Nat.mul_le_mul_right s hn0
          have hpv : pv = .pointer (some ⟨g, i * s + off, none⟩) := by rw [q3, add_lit]; rfl
          have hrun := run_storeVar_at (P := P) (val := val) (off := i * s + off) hinf (by omega) hg (by omega) hone
          have hm : mblk cv kk (.row v1 s e rows) = some g := by simp [mblk, q1, Value.ownBlock]
          have hnew : ∀ b', mblk (setCV cv kk (cv kk)) kk (.row v1 s e (setN rows i (setCells (nth [] rows i) off ts))) = some b' → mblk cv kk (.row v1 s e rows) = some b' := by
            intro b' hb
            rw [setCV_self] at hb
            exact hb
          have hsize : w.heap.size ≤ (w.setRow g (setCells cur.toList (i * s + off) val.cells.toList).toArray).heap.size := by simp
          have hold : ∀ b', b' < w.heap.size → mblk cv kk (.row v1 s e rows) ≠ some b' → (w.setRow g (setCells cur.toList (i * s + off) val.cells.toList).toArray).heap[b']? = w.heap[b']? := by
            intro b' _ hne
            exact setRow_other w g b' _ fun he => hne (by rw [he]; exact hm)
          have hle' : EntLe (.row v1 s e rows) (.row v1 s e (setN rows i (setCells (nth [] rows i) off ts))) := ⟨Nat.le_refl _, rfl⟩
          have G2 := H1.putGo (e' := .row v1 s e (setN rows i (setCells (nth [] rows i) off ts))) (c := cv kk) hlk hle' hsize hold (fun _ => rfl) (fun _ => rfl) (fun b' hb => .inl (hnew b' hb))
          have G3 := G1.trans G2
          rw [setCV_self] at G3
          refine ⟨_, _, hk, w.setRow g (setCells cur.toList (i * s + off) val.cells.toList).toArray, fun b' => X1 b' ∨ mblk cv kk (.row v1 s e (setN rows i (setCells (nth [] rows i) off ts))) = some b', by subst hpv; simp [Instr.storeAt, Instr.sureAddr, hrun], ?_, ⟨G3.size, G3.blk, G3.xold, G3.xkeep, G3.own, G3.ent, fun k hk => G3.wr k (by simp at hk ⊢; exact ⟨hk.2, hk.1⟩)⟩⟩
          have H2 := H1.put (e' := .row v1 s e (setN rows i (setCells (nth [] rows i) off ts))) (c := cv kk) hlk hle' hsize hold ⟨rfl, rfl, rfl⟩ (fun _ => rfl) (fun _ => rfl) (fun b' hb => .inl (hnew b' hb)) ?_
          · rw [setCV_self] at H2; exact H2
          · rw [setCV_self] at G2 ⊢
            have hrl : (setN rows i (setCells (nth [] rows i) off ts)).length = rows.length := by rw [setN_set]; simp
            have hvl : val.cells.toList.length = val.cells.size := by simp
            refine ⟨setCells xs (i * s + off) val.cells.toList, ⟨?_, .inr ⟨g, cap, _, ?_, Nat.zero_le _, setRow_heap w g cur _ e _ hg, ?_, hcap, ?_, ?_⟩⟩, fun b hb => .inl (o2 b hb), ?_, o4⟩
            · rw [setCells_length (by rw [hvl]; omega), hrl, hxl]
            · rw [hrl, q1, hlen']
            · rw [hrl]; exact hn0
            · simp only [List.size_toArray]
              rw [setCells_length (by simp; omega)]
              simpa using hcsz
            · rw [hrl, List.toList_toArray, ← htake]
              apply List.ext_getElem?
              intro q
              rw [List.getElem?_take, setCells_get (by simp; omega), setCells_get (by simp; omega), List.getElem?_take]
              by_cases hq : q < rows.length * s
              · simp [hq]
              · simp [hq]
                intro h1 h2
                omega
            · exact (o3.mono (G2.keep H1)).setCells (t1.mono_TR (G2.keep H1)) (by omega) (by omega) (by rw [hvl]; omega)
      | irow _ _ _ => cases hk
      | box _ _ => cases hk
      | ibox _ => cases hk
      | map _ => cases hk
  | _ => cases hk
end
end Go.AS
