/- AS, part 5: loads, boxes, stores. -/
import Derived.Test.YtgihgeppdllnmaaAs4
namespace Go.AS
open Go.RowKit
set_option linter.all false

theorem slotsAt_get {α : Type} (d : α) (l : List α) : ∀ (n off : Nat), (slotsAt d l off n).length = n ∧ ∀ i, i < n → (slotsAt d l off n)[i]? = some (nth d l (off + i))
  | 0, off => ⟨rfl, fun i hi => absurd hi (by omega)⟩
  | n + 1, off => by
    obtain ⟨h1, h2⟩ := slotsAt_get d l n (off + 1)
    refine ⟨by simp [slotsAt, h1], fun i hi => ?_⟩
    cases i with
    | zero => simp [slotsAt]
    | succ i => simp only [slotsAt, List.getElem?_cons_succ]; rw [h2 i (by omega)]; congr 2; omega
theorem ble_le {a b : Nat} (h : Nat.ble a b = true) : a ≤ b := Nat.le_of_ble_eq_true h

section
variable {P : Program} {cx : Cx} (hcx : CxOk P cx)
include hcx
theorem run_loadVar {t : TypeId} (hl : loadOk cx t = true) {w X cv h} {a : Addr} {cs : List Value} {vs : List AV} (hn : cs.length = cx.sz t) (hc : ∀ (i : Nat) u, cs[i]? = some u → w.cell? (a.add i) = some u)
    (hv : All2 (AR1 w X cv h) cs vs) : ∃ val, (loadVar t a).run P w = .ok val w ∧ AR3 w X cv h val (loadV cx t vs) := by
  have hk := hcx.kind t
  have hs := fun h0 => hcx.size (t := t) h0
  unfold loadOk at hl
  unfold loadV
  cases hkind : (cx.tyi t).kind with
  | struct fs =>
    rw [hkind] at hk
    obtain ⟨fs', hu, _⟩ := hk
    obtain ⟨inf, hi, hi2, _⟩ := hs (.inl (by rw [hkind]; simp))
    refine ⟨.agg cs.toArray, ?_, cs, rfl, hv⟩
    have hrun := run_loadCells_list (P := P) w a cs hc
    rw [hn, ← hi2] at hrun
    simp [loadVar, isAgg, run_underlying hu, run_size hi, hrun]
  | arr n e =>
    rw [hkind] at hk
    simp only [KindOk] at hk
    obtain ⟨inf, hi, hi2, _⟩ := hs (.inl (by rw [hkind]; simp))
    refine ⟨.agg cs.toArray, ?_, cs, rfl, hv⟩
    have hrun := run_loadCells_list (P := P) w a cs hc
    rw [hn, ← hi2] at hrun
    simp [loadVar, isAgg, run_underlying hk, run_size hi, hrun]
  | other => rw [hkind] at hl; cases hl
  | tuple l => rw [hkind] at hl; cases hl
  | bool | int _ | str | slice _ | ptr _ | func | map _ _ =>
    rw [hkind] at hl hk
    have h1 : cx.sz t = 1 := beq_eq hl
    rw [h1] at hn
    match cs, vs, hn, hc, hv with
    | [c], [v], _, hc, hv =>
      have hcell := hc 0 c rfl
      rw [add_zero'] at hcell
      refine ⟨c, ?_, hv.1.to2.to3⟩
      have hu : ∃ d, P.underlying t = some d ∧ (∀ fs, d ≠ .struct fs) ∧ (∀ n e, d ≠ .array n e) := by
        first
        | exact ⟨_, hk, by simp, by simp⟩
        | exact ⟨_, hk.1, by simp, by simp⟩
        | (obtain ⟨a1, a2, a3, hk⟩ := hk; exact ⟨_, hk, by simp, by simp⟩)
      obtain ⟨d, hu, hd1, hd2⟩ := hu
      have : (isAgg t).run P w = .ok false w := by
        cases d <;> simp [isAgg, run_underlying hu]
        · exact absurd rfl (hd2 _ _)
        · exact absurd rfl (hd1 _)
      simp [loadVar, this, hcell]
end

/-- Cells that lie in a row and stay. -/
theorem pt_cells {w X cv h} {a : Addr} {row : List T} {vals : Nat → Value} (hv : ∀ (i : Nat) x, row[i]? = some x → w.cell? (a.add i) = some (vals i)) (ht : ∀ (i : Nat) x, row[i]? = some x → TR w X (vals i) x)
    {off n : Nat} (hn : off + n ≤ row.length) : ∃ cs : List Value, cs.length = n ∧ (∀ (i : Nat) u, cs[i]? = some u → w.cell? ((a.add off).add i) = some u) ∧ All2 (AR1 w X cv h) cs ((slotsAt .pnil row off n).map .t) := by
  obtain ⟨hl, hg⟩ := slotsAt_get T.pnil row n off
  refine ⟨(List.range n).map fun i => vals (off + i), by simp, fun i u hi => ?_, All2.of_get (by simp [hl]) fun i x y hx hy => ?_⟩
  · obtain ⟨hlt, hi⟩ := List.getElem?_eq_some_iff.1 hi
    simp at hlt hi
    rw [add_add, ← hi]
    exact hv (off + i) _ (List.getElem?_eq_getElem (by omega))
  · obtain ⟨hlt, hx⟩ := List.getElem?_eq_some_iff.1 hx
    simp at hlt hx
    rw [List.getElem?_map, hg i hlt] at hy
    simp at hy
    rw [← hy, ← hx]
    show TR w X _ _
    rw [nth_get, List.getElem?_eq_getElem (show off + i < row.length by omega)]
    exact ht (off + i) _ (List.getElem?_eq_getElem (by omega))
theorem TR.ptr_add {w X a s row} (H : TR w X (.pointer (some a)) (.pt s row)) : ∃ vals : Nat → Value, row.length = s ∧ (∀ (i : Nat) x, row[i]? = some x → w.cell? (a.add i) = some (vals i)) ∧ (∀ (i : Nat) x, row[i]? = some x → TR w X (vals i) x) := by
  cases H with
  | pt _ _ _ vals hs hx hb hv ht => exact ⟨vals, hs, hv, ht⟩
theorem nth_of {α : Type} (d : α) {l : List α} {i : Nat} (h : i < l.length) : l[i]? = some (nth d l i) := by
  rw [nth_get, List.getElem?_eq_getElem h]; rfl
theorem TR.sl_row {w X ad len cap s rows} (H : TR w X (.slice (some ad) len cap) (.sl s rows)) {i : Nat} (hi : i < len) : TR w X (.pointer (some (ad.add (i * s)))) (.pt s (nth [] rows i)) := by
  cases H with
  | sl _ ad' _ _ _ _ vals hl hc hs hb hv ht =>
    obtain ⟨h1, h2, h3⟩ := hb (by omega)
    injection h1 with h1
    subst h1
    have hr := nth_of ([] : List T) (l := rows) (i := i) (by omega)
    exact .pt _ s _ (fun j => vals i j) (hs i _ hr) (by rw [add_block]; exact h2) (by rw [add_block]; exact h3) (fun j x hj => by rw [add_add]; exact hv i _ j x hr hj) (fun j x hj => ht i _ j x hr hj)

section
variable {P : Program} {cx : Cx} (hcx : CxOk P cx) {β : Type} {r : β}
include hcx
theorem loadK_ok {base wb w X cv h} (H : HRel base wb w X cv h) {t : TypeId} {p : AV} {pv : Value} (hp : AR3 w X cv h pv p) {k : OpK β} (hk : loadK cx t h p k = some r) :
    ∃ v rd val, k v h rd [] = some r ∧ (Instr.loadAt t pv).run P w = .ok val w ∧ AR3 w X cv h val v := by
  unfold loadK at hk
  obtain ⟨hl, hk⟩ := cond_some hk
  have fin : ∀ {a : Addr} {cs : List Value} {vs : List AV}, pv = .pointer (some a) → cs.length = cx.sz t → (∀ (i : Nat) u, cs[i]? = some u → w.cell? (a.add i) = some u) → All2 (AR1 w X cv h) cs vs →
      ∃ val, (Instr.loadAt t pv).run P w = .ok val w ∧ AR3 w X cv h val (loadV cx t vs) := by
    intro a cs vs hpv hn hc hv
    obtain ⟨val, h1, h2⟩ := run_loadVar hcx hl hn hc hv
    exact ⟨val, by subst hpv; simp [Instr.loadAt, Instr.sureAddr, h1], h2⟩
  cases p with
  | ptr kk off =>
    obtain ⟨e, b, hlk, hbx, hcv, hpv⟩ := hp
    simp only [hlk] at hk
    cases e with
    | box sh cells =>
      obtain ⟨hle, hk⟩ := cond_some hk
      have hle := ble_le hle
      obtain ⟨b', arr, tt, e1, e2, e3, e4⟩ := H.ent kk _ hlk
      rw [hcv] at e1
      injection e1 with e1; injection e1 with e1; injection e1 with e1
      subst e1
      obtain ⟨sl, sg⟩ := slotsAt_get AV.dead cells (cx.sz t) off
      have hlen := e4.length
      obtain ⟨val, h1, h2⟩ := fin (cs := (arr.toList.drop off).take (cx.sz t)) (vs := slotsAt .dead cells off (cx.sz t)) hpv (by rw [List.length_take, List.length_drop]; omega) (fun i u hi => by
          rw [add_add, add_lit]
          rw [List.getElem?_take] at hi
          split at hi
          · rw [List.getElem?_drop] at hi
            simp only [World.cell?, e2]
            simpa using hi
          · cases hi) (All2.of_get (by rw [sl, List.length_take, List.length_drop]; omega) fun i x y hx hy => by
          rw [List.getElem?_take] at hx
          split at hx
          · rename_i hlt
            rw [List.getElem?_drop] at hx
            rw [sg i hlt] at hy
            injection hy with hy
            subst hy
            exact All2.get (off + i) _ _ e4 hx (nth_of _ (by omega))
          · cases hx)
      exact ⟨_, _, val, hk, h1, h2⟩
    | ibox xs =>
      obtain ⟨hle, hk⟩ := cond_some hk
      obtain ⟨b', e1, e2⟩ := H.ent kk _ hlk
      rw [hcv] at e2
      obtain ⟨vals, _, hv, ht⟩ := e2.ptr_add
      obtain ⟨cs, c1, c2, c3⟩ := pt_cells (cv := cv) (h := h) hv ht (ble_le hle)
      obtain ⟨val, h1, h2⟩ := fin hpv c1 c2 c3
      exact ⟨_, _, val, hk, h1, h2⟩
    | row _ _ _ _ => cases hk
    | irow _ _ _ => cases hk
    | map _ => cases hk
  | elp kk ver i off =>
    obtain ⟨_, e, v', hlk, hv', hle, hcur⟩ := hp
    simp only [hlk] at hk
    cases e with
    | row v1 s1 t1 rows =>
      obtain ⟨hver, hk⟩ := cond_some hk
      obtain ⟨hsz, hk⟩ := cond_some hk
      have hver := beq_eq hver
      simp only [rowVer] at hv'
      injection hv' with hv'
      obtain ⟨a, len, cap, h1, h2, h3⟩ := hcur (by omega)
      obtain ⟨xs, o1, o2, o3, _⟩ := H.ent kk _ hlk
      rw [h1] at o1
      rcases o1.2 with ⟨hc, _⟩ | ⟨g, cap', cur, hc, _, hg, _⟩
      · cases hc
      · have hlen : len = rows.length := by cases hc; rfl
        have ha : a = ⟨g, 0, none⟩ := by cases hc; rfl
        subst ha
        have hr := nth_of ([] : List T) (l := rows) (i := i) (by omega)
        obtain ⟨r1, r2⟩ := o3 i _ hr
        obtain ⟨cs, c1, c2, c3⟩ := pt_cells (w := w) (X := X) (cv := cv) (h := h) (a := (⟨g, 0, none⟩ : Addr).add (i * s1)) (row := nth [] rows i) (vals := fun j => (xs[i * s1 + j]?).getD undef) (fun j x hj => by
          obtain ⟨u, hu, _⟩ := r2 j x hj
          rw [add_add, hu]
          exact o1.cells (g := g) rfl _ u hu) (fun j x hj => by
          obtain ⟨u, hu, ht⟩ := r2 j x hj
          rw [hu]; exact ht) (off := off) (n := cx.sz t) (by rw [r1]; exact ble_le hsz)
        obtain ⟨val, h4, h5⟩ := fin (a := ((⟨g, 0, none⟩ : Addr).add (i * s1)).add off) (by rw [add_add]; exact h3) c1 c2 c3
        exact ⟨_, _, val, hk, h4, h5⟩
    | irow v1 s1 rows =>
      obtain ⟨hver, hk⟩ := cond_some hk
      obtain ⟨hsz, hk⟩ := cond_some hk
      have hver := beq_eq hver
      simp only [rowVer] at hv'
      injection hv' with hv'
      obtain ⟨a, len, cap, h1, h2, h3⟩ := hcur (by omega)
      have o1 : TR w X (cv kk) (.sl s1 rows) := H.ent kk _ hlk
      rw [h1] at o1
      obtain ⟨vals, vl, hv, ht⟩ := (o1.sl_row h2).ptr_add
      obtain ⟨cs, c1, c2, c3⟩ := pt_cells (cv := cv) (h := h) hv ht (off := off) (n := cx.sz t) (by rw [vl]; exact ble_le hsz)
      obtain ⟨val, h4, h5⟩ := fin (a := (a.add (i * s1)).add off) (by rw [add_add]; exact h3) c1 c2 c3
      exact ⟨_, _, val, hk, h4, h5⟩
    | box _ _ => cases hk
    | ibox _ => cases hk
    | map _ => cases hk
  | tel s row off =>
    obtain ⟨hsz, hk⟩ := cond_some hk
    obtain ⟨a, h1, h2⟩ := hp
    obtain ⟨vals, vl, hv, ht⟩ := h2.ptr_add
    obtain ⟨cs, c1, c2, c3⟩ := pt_cells (cv := cv) (h := h) hv ht (off := off) (n := cx.sz t) (by rw [vl]; exact ble_le hsz)
    obtain ⟨val, h4, h5⟩ := fin h1 c1 c2 c3
    exact ⟨_, _, val, hk, h4, h5⟩
  | t x =>
    obtain ⟨s, row, a, rfl, hk, h1⟩ := ptK_ok (w := w) (X := X) hk hp
    obtain ⟨hsz, hk⟩ := cond_some hk
    have h2 : TR w X pv (.pt s row) := hp
    rw [h1] at h2
    obtain ⟨vals, vl, hv, ht⟩ := h2.ptr_add
    obtain ⟨cs, c1, c2, c3⟩ := pt_cells (cv := cv) (h := h) hv ht (off := 0) (n := cx.sz t) (by rw [vl]; have := ble_le hsz; omega)
    rw [add_zero'] at c2
    obtain ⟨val, h4, h5⟩ := fin h1 c1 c2 c3
    exact ⟨_, _, val, hk, h4, h5⟩
  | _ => cases hk
end

end Go.AS
