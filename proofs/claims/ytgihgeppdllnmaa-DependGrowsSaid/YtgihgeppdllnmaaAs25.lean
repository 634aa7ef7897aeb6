/- AS, part 25: what comes in. -/
import Derived.Test.YtgihgeppdllnmaaAs24
namespace Go.AS
open Go.RowKit
set_option linter.all false
/-- A slice of whole numbers that came in. -/
def IsInts (k : IntKind) (w : World) (a : Option Addr) (len cap : Nat) (zs : List Int) : Prop :=
  (a = none ∧ len = 0 ∧ cap = 0 ∧ zs = []) ∨
  ∃ x, a = some x ∧ len ≤ cap ∧ cap ≤ maxLen ∧ zs.length = cap ∧ (∀ i, i < zs.length → w.cell? (x.add i) = some (.int k (zs.getD i 0)))
theorem cell_lt {w : World} {a : Addr} {v : Value} (h : w.cell? a = some v) : a.block < w.heap.size := by
  unfold World.cell? at h
  split at h
  · rename_i c h1 h2 hb
    exact (Array.getElem?_eq_some_iff.1 hb).1
  · cases h
theorem tr_ints {k : IntKind} {w : World} {a : Option Addr} {len cap : Nat} {zs : List Int} (h : IsInts k w a len cap zs) : TR w (fun _ => False) (.slice a len cap) (.sl 1 ((zs.take len).map fun n => [.int k n])) := by
  rcases h with ⟨rfl, rfl, rfl, rfl⟩ | ⟨x, rfl, hl, _, hz, hc⟩
  · exact .sl none ⟨0, 0, none⟩ 0 0 1 [] (fun _ _ => .nilIface) rfl (Nat.le_refl _) (fun j r h => by simp at h) (fun h => absurd h (by omega)) (fun j r i x h => by simp at h) (fun j r i x h => by simp at h)
  · have hrow : ∀ (j : Nat) r, ((zs.take len).map fun n => [T.int k n])[j]? = some r → j < len ∧ r = [.int k (zs.getD j 0)] := by
      intro j r hj
      rw [List.getElem?_map] at hj
      cases hn : (zs.take len)[j]? with
      | none => rw [hn] at hj; cases hj
      | some n =>
        rw [hn] at hj
        injection hj with hj
        have hjl : j < len := by
          have := (List.getElem?_eq_some_iff.1 hn).1
          simp at this
          omega
        rw [List.getElem?_take_of_lt hjl] at hn
        refine ⟨hjl, ?_⟩
        rw [← hj, List.getD_eq_getElem?_getD, hn]
        rfl
    refine .sl (some x) x len cap 1 _ (fun j _ => .int k (zs.getD j 0)) (by simp; omega) hl (fun j r hj => by rw [(hrow j r hj).2]; rfl) (fun h0 => ?_) (fun j r i y hj hi => ?_) (fun j r i y hj hi => ?_)
    · have := hc 0 (by omega)
      rw [show x.add 0 = x from add_zero' x] at this
      exact ⟨rfl, fun h => h, cell_lt this⟩
    · obtain ⟨h1, rfl⟩ := hrow j r hj
      cases i with
      | zero => rw [Nat.mul_one, Nat.add_zero]; exact hc j (by omega)
      | succ i => simp at hi
    · obtain ⟨h1, rfl⟩ := hrow j r hj
      cases i with
      | zero => simp at hi; subst hi; exact .int k _
      | succ i => simp at hi
theorem u8_in {n : Int} (h : (Lit.int .u8 n).wf = true) : 0 ≤ n ∧ n ≤ 255 := by
  simp only [Lit.wf, IntKind.min, IntKind.max, IntKind.signed, IntKind.bits, Bool.and_eq_true, decide_eq_true_eq] at h
  simp at h
  omega
end Go.AS
