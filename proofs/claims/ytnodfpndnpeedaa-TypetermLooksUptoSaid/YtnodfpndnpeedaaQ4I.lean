/- AS, the seat of law 4: types that came in. -/
import Derived.Test.YtnodfpndnpeedaaAs25
import Derived.Test.YtnodfpndnpeedaaQ4K
import Derived.ChangeArms
import Derived.SliceStrings
import Derived.ChangeSlices
import Derived.DataReads
namespace Go.AS.Q4
open Go.Proofs Go.RowKit
set_option linter.all false

theorem choose_list {α : Type} {Q : Nat → α → Prop} : ∀ n : Nat, (∀ i, i < n → ∃ a, Q i a) → ∃ l : List α, l.length = n ∧ ∀ (i : Nat) a, l[i]? = some a → Q i a
  | 0, _ => ⟨[], rfl, fun i a h => by simp at h⟩
  | n + 1, h => by
    obtain ⟨l, q1, q2⟩ := choose_list n fun i hi => h i (by omega)
    obtain ⟨a, ha⟩ := h n (by omega)
    refine ⟨l ++ [a], by simp [q1], fun i b hb => ?_⟩
    by_cases hi : i < n
    · rw [List.getElem?_append_left (by omega)] at hb
      exact q2 i b hb
    · have hin : i = n := by
        have := (List.getElem?_eq_some_iff.1 hb).1
        simp at this
        omega
      subst hin
      rw [List.getElem?_append_right (by omega), q1, Nat.sub_self] at hb
      simp at hb
      exact hb ▸ ha
mutual
/-- How many letters and types a type has. -/
def wt : Ty → Nat
  | .mk n l => n.length + 1 + wtL l
def wtL : List Ty → Nat
  | [] => 0
  | t :: l => wt t + wtL l
end
theorem wtL_le {β : Type} (m : β → Nat) : ∀ {l : List Ty} {e : List β}, l.length = e.length → (∀ (i : Nat) t x, l[i]? = some t → e[i]? = some x → wt t ≤ m x) → wtL l ≤ (e.map m).sum
  | [], [], _, _ => by simp [wtL]
  | t :: l, x :: e, h, hh => by
    have h1 := hh 0 t x rfl rfl
    have h2 := wtL_le m (l := l) (e := e) (by simpa using h) fun i t x ht hx => hh (i + 1) t x (by simpa using ht) (by simpa using hx)
    simp only [wtL, List.map_cons, List.sum_cons]
    omega
section
variable {H : Type} {enc : TypeId × Value → H} {W : World} {m : DataW H → Nat}
def Meas (m : DataW H → Nat) : Prop := (∀ b, b.length + 1 ≤ m (.lit (.string b))) ∧ (∀ a b, m a + m b ≤ m (.agg [a, b])) ∧ ∀ e s, (e.map m).sum ≤ m (.slice e s)
def Opened (enc : TypeId × Value → H) (W : World) (m : DataW H → Nat) (n : Nat) : Prop := ∀ cs x, DataW.trod enc Try.prog W 0 (fun _ => true) true n 27 cs = some x → ∃ t : Ty, All2 (TR W (fun _ => False)) cs t.row ∧ Nm t ∧ wt t ≤ m x.1
theorem two_cells {a : Addr} {cs : List Value} (h : W.cells? 0 a 2 = some cs) : ∃ c0 c1, cs = [c0, c1] ∧ W.cell? a = some c0 ∧ W.cell? (a.add 1) = some c1 := by
  obtain ⟨h1, h2, h3⟩ := World.cells?_some h
  match cs, h2 with
  | [c0, c1], _ =>
    refine ⟨c0, c1, rfl, ?_, ?_⟩
    · have := h3 0 (by omega)
      rw [add_zero'] at this
      exact this
    · exact h3 1 (by omega)
theorem open_tys (hm : Meas m) {n : Nat} (ih : ∀ k, k < n → Opened enc W m k) {cs : List Value} {x : DataW H × List MemPlace} (h : DataW.trod enc Try.prog W 0 (fun _ => true) true n 25 cs = some x) :
    ∃ (v : Value) (l : List Ty), cs = [v] ∧ TR W (fun _ => False) v (.sl 2 (rows l)) ∧ (∀ t, t ∈ l → Nm t) ∧ wtL l ≤ m x.1 := by
  have c27 : Try.prog.cellsOf 27 = 2 := by kernel_rfl
  rcases DataW.trod_slice Try.underlying25 h with ⟨rfl, rfl⟩ | ⟨a, len, cap, elems, rest, k, rfl, rfl, rfl, hb, hl, hcm, hlen, hel, _, _⟩
  · exact ⟨_, [], rfl, .sl none ⟨0, 0, none⟩ 0 0 2 [] (fun _ _ => .nilIface) rfl (Nat.le_refl _) (fun j r h => by simp at h) (fun h => absurd h (by omega)) (fun j r i x h => by simp at h) (fun j r i x h => by simp at h), fun t ht => by simp at ht, by simp [wtL]⟩
  · rw [c27] at hel
    obtain ⟨l, q1, q2⟩ := choose_list (α := Ty × Value × Value) (Q := fun i q => ∃ y, elems[i]? = some y ∧ W.cell? (a.add (i * 2)) = some q.2.1 ∧ W.cell? (a.add (i * 2 + 1)) = some q.2.2 ∧ All2 (TR W (fun _ => False)) [q.2.1, q.2.2] q.1.row ∧ Nm q.1 ∧ wt q.1 ≤ m y.1) len fun i hi => by
      have h1 := hel i hi
      obtain ⟨y, hy⟩ : ∃ y, elems[i]? = some y := ⟨elems[i]'(by omega), List.getElem?_eq_getElem (by omega)⟩
      rw [hy, Option.bind_eq_some_iff] at h1
      obtain ⟨cs', h2, h3⟩ := h1
      obtain ⟨c0, c1, rfl, h4, h5⟩ := two_cells h2
      obtain ⟨t, t1, t2, t3⟩ := ih k (by omega) _ _ h3
      rw [add_add] at h5
      exact ⟨(t, c0, c1), y, hy, h4, h5, t1, t2, t3⟩
    have hget : ∀ (j : Nat) r, (rows (l.map (·.1)))[j]? = some r → j < len ∧ ∃ t c0 c1 y, l[j]? = some (t, c0, c1) ∧ r = t.row ∧ elems[j]? = some y ∧ W.cell? (a.add (j * 2)) = some c0 ∧ W.cell? (a.add (j * 2 + 1)) = some c1 ∧ All2 (TR W (fun _ => False)) [c0, c1] t.row := by
      intro j r hj
      unfold rows at hj
      rw [List.map_map, List.getElem?_map] at hj
      cases hq : l[j]? with
      | none => rw [hq] at hj; cases hj
      | some q =>
        obtain ⟨t, c0, c1⟩ := q
        rw [hq] at hj
        injection hj with hj
        obtain ⟨y, y1, y2, y3, y4, _⟩ := q2 j _ hq
        have := (List.getElem?_eq_some_iff.1 hq).1
        exact ⟨by omega, t, c0, c1, y, rfl, hj.symm, y1, y2, y3, y4⟩
    have rlen : ∀ t : Ty, t.row.length = 2 := fun t => by obtain ⟨n, l⟩ := t; simp [row_mk]
    have cellv : ∀ (j : Nat) r (i : Nat) x, (rows (l.map (·.1)))[j]? = some r → r[i]? = some x → ∃ v, W.cell? (a.add (j * 2 + i)) = some v ∧ TR W (fun _ => False) v x := by
      intro j r i x hj hi
      obtain ⟨_, t, c0, c1, y, _, rfl, _, y2, y3, y4⟩ := hget j r hj
      have hil := (List.getElem?_eq_some_iff.1 hi).1
      rw [rlen] at hil
      match i, hil with
      | 0, _ => exact ⟨c0, y2, All2.get 0 c0 x y4 rfl hi⟩
      | 1, _ => exact ⟨c1, y3, All2.get 1 c1 x y4 rfl hi⟩
    refine ⟨_, l.map (·.1), rfl, ?_, fun t ht => ?_, ?_⟩
    · refine .sl (some a) a len cap 2 _ (fun j i => (W.cell? (a.add (j * 2 + i))).getD .nilIface) (by simp [rows, q1]) hl (fun j r hj => ?_) (fun h0 => ⟨rfl, fun h => h, ?_⟩) (fun j r i x hj hi => ?_) (fun j r i x hj hi => ?_)
      · obtain ⟨_, t, _, _, _, _, rfl, _⟩ := hget j r hj
        exact rlen t
      · obtain ⟨q, hq⟩ : ∃ q, l[0]? = some q := ⟨l[0]'(by omega), List.getElem?_eq_getElem (by omega)⟩
        obtain ⟨y, _, y2, _⟩ := q2 0 q hq
        have := cell_lt y2
        simpa [add_zero'] using this
      · obtain ⟨v, h1, _⟩ := cellv j r i x hj hi
        rw [h1]; rfl
      · obtain ⟨v, h1, h2⟩ := cellv j r i x hj hi
        rw [h1]; exact h2
    · obtain ⟨q, hq, rfl⟩ := List.mem_map.1 ht
      obtain ⟨i, hi⟩ := List.mem_iff_getElem?.1 hq
      obtain ⟨_, _, _, _, _, y5, _⟩ := q2 i q hi
      exact y5
    · refine Nat.le_trans (wtL_le (fun y : DataW H × List MemPlace => m y.1) (l := l.map (·.1)) (e := elems) (by simp; omega) fun i t y hi hy => ?_) (by
        have := hm.2.2 (elems.map (·.1)) (rest.map (·.1))
        rw [List.map_map] at this
        exact this)
      rw [List.getElem?_map] at hi
      cases hq : l[i]? with
      | none => rw [hq] at hi; cases hi
      | some q =>
        rw [hq] at hi
        injection hi with hi
        subst hi
        obtain ⟨y', y1, _, _, _, _, y6⟩ := q2 i q hq
        rw [hy] at y1
        injection y1 with y1
        exact y1 ▸ y6
theorem open_ty (hm : Meas m) : ∀ n : Nat, Opened enc W m n := by
  intro n
  induction n using Nat.strongRecOn with
  | _ n ih =>
    intro cs x h
    have c27 : Try.prog.cellsOf 27 = 2 := by kernel_rfl
    have c9 : Try.prog.cellsOf 9 = 1 := by kernel_rfl
    have c25 : Try.prog.cellsOf 25 = 1 := by kernel_rfl
    obtain ⟨xs, k, rfl, rfl, hcl, hxl, hf⟩ := DataW.trod_struct Try.underlying27 h
    rw [c27] at hcl
    have f0 := hf 0 _ rfl
    have f1 := hf 1 _ rfl
    match cs, hcl, xs, hxl with
    | [v0, v1], _, [x0, x1], _ =>
      have f0 : DataW.trod enc Try.prog W 0 (fun _ => true) true k 9 (([v0, v1].drop 0).take (Try.prog.cellsOf 9)) = some x0 := f0
      have f1 : DataW.trod enc Try.prog W 0 (fun _ => true) true k 25 (([v0, v1].drop 1).take (Try.prog.cellsOf 25)) = some x1 := f1
      rw [c9] at f0
      rw [c25] at f1
      have f0 : DataW.trod enc Try.prog W 0 (fun _ => true) true k 9 [v0] = some x0 := f0
      have f1 : DataW.trod enc Try.prog W 0 (fun _ => true) true k 25 [v1] = some x1 := f1
      obtain ⟨s, e1, rfl, hs⟩ := DataW.trod_string Try.underlying9 f0
      injection e1 with e1
      subst e1
      obtain ⟨v, l, e2, g1, g2, g3⟩ := open_tys hm (fun j hj => ih j (by omega)) f1
      injection e2 with e2
      subst e2
      have hlen : s.data.toList.length ≤ 9223372036854775807 := by
        have : s.data.toList.length = s.size := by rw [Array.length_toList]; rfl
        rw [this]
        unfold maxLen at hs
        omega
      refine ⟨.mk s.data.toList l, ?_, .mk _ _ hlen g2, ?_⟩
      · rw [row_mk]
        exact ⟨.str s, g1, trivial⟩
      · have h1 := hm.1 s.data.toList
        have h2 := hm.2.1 (.lit (.string s.data.toList)) x1.1
        simp only [wt, List.map_cons, List.map_nil]
        omega
theorem open_strs {n : Nat} {cs : List Value} {x : DataW H × List MemPlace} (h : DataW.trod enc Try.prog W 0 (fun _ => true) true n 35 cs = some x) : ∃ (v : Value) (l : List Str), cs = [v] ∧ TR W (fun _ => False) v (.sl 1 (strRows l)) := by
  rcases ChangeShapes.open_strings Try.underlying35 Try.underlying9 (by kernel_rfl) h with ⟨rfl, _⟩ | ⟨a, len, cap, ss, rfl, _, hl, _, hss, _, hc, _⟩
  · exact ⟨_, [], rfl, .sl none ⟨0, 0, none⟩ 0 0 1 [] (fun _ _ => .nilIface) rfl (Nat.le_refl _) (fun j r h => by simp at h) (fun h => absurd h (by omega)) (fun j r i x h => by simp at h) (fun j r i x h => by simp at h)⟩
  · have hss : ss.length = cap := by simpa using hss
    have hrow : ∀ (j : Nat) r, (strRows ((ss.take len).map (·.data.toList)))[j]? = some r → j < len ∧ r = [.str (ss.getD j ByteArray.empty).data.toList] := by
      intro j r hj
      unfold strRows at hj
      rw [List.map_map, List.getElem?_map] at hj
      cases hn : (ss.take len)[j]? with
      | none => rw [hn] at hj; cases hj
      | some n =>
        rw [hn] at hj
        injection hj with hj
        have hjl : j < len := by
          have := (List.getElem?_eq_some_iff.1 hn).1
          simp at this
          omega
        rw [List.getElem?_take_of_lt hjl] at hn
        refine ⟨hjl, ?_⟩
        rw [← hj, List.getD_eq_getElem?_getD, hn]
        rfl
    refine ⟨_, (ss.take len).map (·.data.toList), rfl, .sl (some a) a len cap 1 _ (fun j _ => .string (ss.getD j ByteArray.empty)) (by simp [strRows]; omega) hl (fun j r hj => by rw [(hrow j r hj).2]; rfl) (fun h0 => ?_) (fun j r i y hj hi => ?_) (fun j r i y hj hi => ?_)⟩
    · have := hc 0 (by omega)
      rw [add_zero'] at this
      exact ⟨rfl, fun h => h, cell_lt this⟩
    · obtain ⟨h1, rfl⟩ := hrow j r hj
      cases i with
      | zero => rw [Nat.mul_one, Nat.add_zero]; exact hc j (by omega)
      | succ i => simp at hi
    · obtain ⟨h1, rfl⟩ := hrow j r hj
      cases i with
      | zero => simp at hi; subst hi; exact .str _
      | succ i => simp at hi
theorem ar_ty {c : Array Value} {t : Ty} {cv : CV} (h : All2 (TR W (fun _ => False)) c.toList t.row) : AR2 W (fun _ => False) cv [] (.agg c) t.av := by
  obtain ⟨n, l⟩ := t
  rw [row_mk] at h
  refine ⟨c.toList, by simp, ?_⟩
  have hl := h.length
  match hc : c.toList, hl with
  | [c0, c1], _ =>
    rw [hc] at h
    exact ⟨h.1, h.2.1, trivial⟩
theorem one_cell {v c : Value} (h : ∃ a len cap, v = .slice a len cap) (hc : v.cells.toList = [c]) : v = c := by
  obtain ⟨a, len, cap, rfl⟩ := h
  simp [Value.cells] at hc
  exact hc
end
end Go.AS.Q4
