/- AS, part 7: appends. -/
import Derived.Test.YtgihgeppdllnmaaAs6
namespace Go.AS
open Go.RowKit
set_option linter.all false

/-- A slice value whose cells can be read, row by row. -/
def Flat (w : World) (X : Nat → Prop) (s : Nat) (val : Value) (rows : List (List T)) : Prop :=
  ∃ base len cap news, val = .slice base len cap ∧ rows.length = len ∧ len ≤ cap ∧ news.length = len * s ∧ (0 < len → ∃ a, base = some a ∧ ∀ (j : Nat) u, news[j]? = some u → w.cell? (a.add j) = some u) ∧ RowsR w X s news rows

theorem TR.flat {w X val s rows} (H : TR w X val (.sl s rows)) (hs : 1 ≤ s) : Flat w X s val rows := by
  cases H with
  | sl base ad len cap _ _ vals hl hc hr hb hv ht =>
    have key : ∀ j i, i < s → j < len → ((List.range (len * s)).map fun q => vals (q / s) (q % s))[j * s + i]? = some (vals j i) := by
      intro j i hi hj
      have h1 : j * s + i < len * s := by
        have := Nat.mul_le_mul_right s (show j + 1 ≤ len from hj)
        rw [Nat.add_mul] at this
        omega
      rw [List.getElem?_map, List.getElem?_range h1]
      have h2 : (j * s + i) / s = j := by rw [Nat.mul_comm, Nat.mul_add_div (by omega), Nat.div_eq_of_lt hi]; omega
      have h3 : (j * s + i) % s = i := by rw [Nat.mul_comm, Nat.mul_add_mod, Nat.mod_eq_of_lt hi]
      simp [h2, h3]
    refine ⟨base, len, cap, (List.range (len * s)).map fun q => vals (q / s) (q % s), rfl, hl, hc, by simp, fun h0 => ⟨ad, (hb h0).1, fun q u hq => ?_⟩, fun j r hj => ⟨hr j r hj, fun i x hi => ?_⟩⟩
    · obtain ⟨hlt, hq⟩ := List.getElem?_eq_some_iff.1 hq
      simp at hlt hq
      have hj : q / s < len := Nat.div_lt_of_lt_mul (by rw [Nat.mul_comm]; exact hlt)
      have hi : q % s < s := Nat.mod_lt _ (by omega)
      have hrow := nth_of ([] : List T) (l := rows) (i := q / s) (by omega)
      have hrl := hr _ _ hrow
      have := hv _ _ (q % s) _ hrow (List.getElem?_eq_getElem (by omega))
      rw [← hq, ← this]
      congr 2
      rw [Nat.mul_comm]
      exact (Nat.div_add_mod q s).symm
    · have hjl : j < len := by have := (List.getElem?_eq_some_iff.1 hj).1; omega
      have his : i < s := by have := (List.getElem?_eq_some_iff.1 hi).1; have := hr j r hj; omega
      exact ⟨_, key j i his hjl, ht j r i x hj hi⟩
theorem Flat.nil {w X s} : Flat w X s (.slice none 0 0) [] := ⟨none, 0, 0, [], rfl, rfl, Nat.le_refl _, by simp, fun h => absurd h (by simp), fun j r hj => by simp at hj⟩
theorem RowsR.take {w X s xs rows} (H : RowsR w X s xs rows) (n : Nat) : RowsR w X s (xs.take (n * s)) (rows.take n) := by
  intro j r hj
  rw [List.getElem?_take] at hj
  split at hj
  · rename_i hlt
    obtain ⟨r1, r2⟩ := H j r hj
    refine ⟨r1, fun i x hi => ?_⟩
    obtain ⟨u, hu, ht⟩ := r2 i x hi
    refine ⟨u, ?_, ht⟩
    rw [List.getElem?_take, if_pos, hu]
    have his : i < s := by have := (List.getElem?_eq_some_iff.1 hi).1; omega
    have := Nat.mul_le_mul_right s (show j + 1 ≤ n from hlt)
    rw [Nat.add_mul] at this
    omega
  · cases hj
/-- The part of a row of one's own that a slice value shows. -/
theorem own_cut {w X s e c v n rows xs} (h1 : w.ownsRow 0 e s c rows.length xs) (h3 : RowsR w X s xs rows) (hc : CutOf c n v) :
    ∃ ys, w.ownsRow 0 e s v (tk n rows).length ys ∧ RowsR w X s ys (tk n rows) ∧ v.ownBlock = c.ownBlock := by
  cases n with
  | none =>
    simp only [CutOf] at hc
    subst hc
    exact ⟨xs, h1, h3, rfl⟩
  | some n =>
    obtain ⟨b, len, cap, q1, q2, q3, q4⟩ := hc
    subst q1 q4
    simp only [tk, takeN_take]
    have hl : len = rows.length := by
      rcases h1.2 with ⟨h, h'⟩ | ⟨g, cap', cur, h, _⟩
      · cases h; exact h'.symm
      · cases h; rfl
    have hnl : (rows.take n).length = n := by rw [List.length_take]; omega
    refine ⟨xs.take (n * s), ⟨?_, ?_⟩, h3.take n, by cases b <;> rfl⟩
    · rw [hnl, List.length_take, h1.1]
      have := Nat.mul_le_mul_right s (show n ≤ rows.length by omega)
      omega
    · rcases h1.2 with ⟨h, h'⟩ | ⟨g, cap', cur, h, hb, hg, hn, hm, hz, ht⟩
      · cases h
        left
        have : n = 0 := by omega
        subst this
        exact ⟨rfl, hnl⟩
      · cases h
        right
        refine ⟨g, cap, cur, by rw [hnl], hb, hg, by rw [hnl]; omega, hm, hz, ?_⟩
        rw [hnl, ← ht, List.take_take]
        congr 1
        have := Nat.mul_le_mul_right s (show n ≤ rows.length by omega)
        omega
theorem own_flat {w X s e v rows xs} (h1 : w.ownsRow 0 e s v rows.length xs) (h3 : RowsR w X s xs rows) : Flat w X s v rows := by
  have hc := fun g hg => h1.cells (g := g) hg
  rcases h1.2 with ⟨rfl, h'⟩ | ⟨g, cap, cur, rfl, hb, hg, hn, hm, hz, ht⟩
  · have : rows = [] := List.eq_nil_of_length_eq_zero h'
    subst this
    exact Flat.nil
  · exact ⟨some ⟨g, 0, none⟩, rows.length, cap, xs, rfl, rfl, hn, h1.1, fun _ => ⟨_, rfl, fun j u hj => hc g rfl j u hj⟩, h3⟩
theorem rowp_cur {w X cv h v k ver n} (H : AR0 w X cv h v (.rowp k ver n)) {e : Ent} (hlk : look h k = some e) (hv : rowVer e = some ver) : CutOf (cv k) n v := by
  obtain ⟨_, e', v', h1, h2, h3, h4⟩ := H
  rw [hlk] at h1
  injection h1 with h1
  subst h1
  rw [hv] at h2
  injection h2 with h2
  exact h4 h2

section
variable {P : Program} {cx : Cx} {β : Type} {r : β}
theorem rowsK_ok {base wb w X cv h} (H : HRel base wb w X cv h) {es : Nat} (hes : 1 ≤ es) {v : AV} {val : Value} (hv : AR3 w X cv h val v) {k : List (List T) → List Nat → Option β} (hk : rowsK h es v k = some r) :
    ∃ rows rd, k rows rd = some r ∧ Flat w X es val rows := by
  cases v with
  | t x =>
    simp only [rowsK] at hk
    obtain ⟨s, rows, rfl, hk1⟩ := slK_ok (w := w) (X := X) hk hv
    obtain ⟨h1, hk2⟩ := cond_some hk1
    clear hk hk1
    have h1 := beq_eq h1
    subst h1
    exact ⟨_, _, hk2, TR.flat hv hes⟩
  | nils e s =>
    obtain ⟨h1, hk⟩ := cond_some hk
    have : val = _ := hv
    subst this
    exact ⟨_, _, hk, Flat.nil⟩
  | rowp kk ver n =>
    simp only [rowsK] at hk
    have hv' : AR0 w X cv h val (.rowp kk ver n) := hv
    obtain ⟨hsl, e, v', hlk, _⟩ := hv'
    simp only [hlk] at hk
    cases e with
    | row v1 s t rows =>
      obtain ⟨h1, hk1⟩ := cond_some hk
      obtain ⟨h2, hk2⟩ := cond_some hk1
      clear hk hk1
      have h1 := beq_eq h1
      have h2 := beq_eq h2
      subst h1 h2
      obtain ⟨xs, o1, o2, o3, o4⟩ := H.ent kk _ hlk
      obtain ⟨ys, p1, p2, _⟩ := own_cut o1 o3 (rowp_cur (w := w) (X := X) hv hlk rfl)
      exact ⟨_, _, hk2, own_flat p1 p2⟩
    | irow v1 s rows =>
      obtain ⟨h1, hk1⟩ := cond_some hk
      obtain ⟨h2, hk2⟩ := cond_some hk1
      clear hk hk1
      have h1 := beq_eq h1
      have h2 := beq_eq h2
      subst h1 h2
      have o1 : TR w X (cv kk) (.sl s rows) := H.ent kk _ hlk
      have hc := rowp_cur (w := w) (X := X) hv hlk rfl
      refine ⟨_, _, hk2, TR.flat ?_ hes⟩
      cases n with
      | none => simp only [CutOf] at hc; rw [hc]; exact o1
      | some n =>
        obtain ⟨b, len, cap, q1, q2, q3, q4⟩ := hc
        exact TR.tk q1 o1 ⟨b, len, cap, q1, q2, q3, q4⟩
    | box _ _ => cases hk
    | ibox _ => cases hk
    | map _ => cases hk
  | _ => cases hk

theorem RowsR.append {w X s xs ys rows rows'} (H : RowsR w X s xs rows) (H' : RowsR w X s ys rows') (hl : xs.length = rows.length * s) : RowsR w X s (xs ++ ys) (rows ++ rows') := by
  intro j r hj
  by_cases h : j < rows.length
  · rw [List.getElem?_append_left h] at hj
    obtain ⟨r1, r2⟩ := H j r hj
    refine ⟨r1, fun i x hi => ?_⟩
    obtain ⟨u, hu, ht⟩ := r2 i x hi
    exact ⟨u, by rw [List.getElem?_append_left (List.getElem?_eq_some_iff.1 hu).1]; exact hu, ht⟩
  · rw [List.getElem?_append_right (by omega)] at hj
    obtain ⟨r1, r2⟩ := H' _ r hj
    refine ⟨r1, fun i x hi => ?_⟩
    obtain ⟨u, hu, ht⟩ := r2 i x hi
    have e : j * s + i - xs.length = (j - rows.length) * s + i := by
      rw [hl, Nat.sub_mul]
      have := Nat.mul_le_mul_right s (show rows.length ≤ j by omega)
      omega
    exact ⟨u, by rw [List.getElem?_append_right (by rw [hl]; have := Nat.mul_le_mul_right s (show rows.length ≤ j by omega); omega), e]; exact hu, ht⟩
theorem RowsR.ones {w X s xs rows} (H : RowsR w X s xs rows) (hl : xs.length = rows.length * s) (hs : 1 ≤ s) : ∀ u ∈ xs, u.oneCell' = true := by
  intro u hu
  obtain ⟨q, hq, rfl⟩ := List.getElem_of_mem hu
  have hj : q / s < rows.length := Nat.div_lt_of_lt_mul (by rw [Nat.mul_comm, ← hl]; exact hq)
  obtain ⟨r1, r2⟩ := H _ _ (nth_of [] hj)
  have hi : q % s < (nth [] rows (q / s)).length := by rw [r1]; exact Nat.mod_lt _ (by omega)
  obtain ⟨u, h1, h2⟩ := r2 _ _ (List.getElem?_eq_getElem hi)
  have : q / s * s + q % s = q := by rw [Nat.mul_comm]; exact Nat.div_add_mod q s
  rw [this, List.getElem?_eq_getElem hq] at h1
  injection h1 with h1
  rw [h1]
  exact h2.one

/-- What an append leaves. -/
theorem run_appendF {w : World} {t ty e : TypeId} {i : TypeInfo} {z : Value} (ht : P.underlying t = some (.slice e)) (hi : P.info? e = some i) (hz : i.zero = some z) (hzs : z.cells.size = i.size) (hsz : 0 < i.size)
    {X : Nat → Prop} {v y : Value} {rows ys : List (List T)} {xs : List Value} (hown : w.ownsRow 0 e i.size v rows.length xs) (hr : RowsR w X i.size xs rows) (hy : Flat w X i.size y ys)
    (hbytes : (rows.length + ys.length) * i.bytes ≤ 140737488355328) (hbp : 1 ≤ i.bytes) :
    ∃ v' w' xs', (Builtin.append_ #[t, t] ty #[v, y]).run P w = .ok v' w' ∧ w'.ownsRow 0 e i.size v' (rows ++ ys).length xs' ∧ RowsR w X i.size xs' (rows ++ ys) ∧ w.grownBy w' v.ownBlock ∧ (v'.ownBlock = v.ownBlock ∨ v'.ownBlock = some w.heap.size) := by
  obtain ⟨b, len, cap, news, rfl, hl, hlc, hn, hc, hr'⟩ := hy
  by_cases h0 : len = 0
  · subst h0
    have hys : ys = [] := List.eq_nil_of_length_eq_zero hl
    subst hys
    refine ⟨v, w, xs, ?_, by simpa using hown, by simpa using hr, ⟨rfl, rfl, rfl, Nat.le_refl _, fun _ _ _ => rfl⟩, .inl rfl⟩
    rcases hown.2 with ⟨rfl, _⟩ | ⟨g, cap', cur, rfl, _, hg, hnc, _⟩
    · cases b <;> simp [Builtin.append_, run_underlying ht, run_size hi, Builtin.lenOf, Builtin.firstCells, loadCells, loadCellsFrom]
    · cases b <;> simp [Builtin.append_, run_underlying ht, run_size hi, Builtin.lenOf, Builtin.firstCells, loadCells, loadCellsFrom, hnc, storeCells]
  · obtain ⟨a, rfl, hcell⟩ := hc (by omega)
    have hm : (rows.length + len) * 1 ≤ (rows.length + len) * i.bytes := Nat.mul_le_mul_left _ hbp
    rw [hl] at hbytes
    obtain ⟨v', w', h1, h2, h3, h4, h5⟩ := run_append_own_at (P := P) w 0 t ty e i z i.size i.bytes ht hi hz rfl rfl hzs hsz v rows.length xs hown a len cap news hn hcell (hr'.ones (by rw [hn, hl]) hsz)
      (by simp only [maxLen]; omega) hbytes (Nat.zero_le _)
    exact ⟨v', w', _, h1, by rw [List.length_append, hl]; exact h2, hr.append hr' hown.1, h3, h5⟩
end

section
variable {P : Program} {cx : Cx} (hcx : CxOk P cx) {β : Type} {r : β}
include hcx
omit hcx in
theorem lim_ok {n b : Nat} (h : n ≤ lim b) : n * b ≤ 140737488355328 := Nat.le_trans (Nat.mul_le_mul_right b h) (Nat.div_mul_le_self _ _)
theorem appendK_ok {base wb w X cv h} (H : HRel base wb w X cv h) {d : Nat} {t ty : TypeId} {x y : AV} {xv yv : Value} (hx : AR3 w X cv h xv x) (hy : AR3 w X cv h yv y) {k : OpK β} (hk : appendK cx d t h x y k = some r) :
    ∃ v h' rd wr, k v h' rd wr = some r ∧ ∃ val w' X' cv', (Builtin.append_ #[t, t] ty #[xv, yv]).run P w = .ok val w' ∧ HRel base wb w' X' cv' h' ∧ Go1 wr w X cv h w' X' cv' h' ∧ AR3 w' X' cv' h' val v := by
  unfold appendK at hk
  have hkind := hcx.kind t
  split at hk
  · rename_i e he
    rw [he] at hkind
    obtain ⟨hpos, hk⟩ := cond_some hk
    have hpos := ble_le hpos
    · obtain ⟨ys, ry, hk, hfl⟩ := rowsK_ok H hpos hy hk
      obtain ⟨hzl, hk⟩ := cond_some hk
      obtain ⟨hbp, hk⟩ := cond_some hk
      have hzl := ble_le hzl
      have hbp := ble_le hbp
      obtain ⟨inf, hi, hsz, hby, hzero⟩ := (hcx.at (t := e) (.inr hpos)).info
      obtain ⟨hzl2, z, hz, hzs⟩ := hzero (by intro h0; rw [h0] at hzl; simp at hzl)
      have hzsz : z.cells.size = inf.size := by have := hzs.length; simp at this; omega
      change inf.size = cx.sz e at hsz
      cases x with
      | nils e' s =>
        obtain ⟨c1, hk⟩ := cond_some hk
        obtain ⟨c2, hk⟩ := cond_some hk
        obtain ⟨c3, hk⟩ := cond_some hk
        obtain ⟨hn, hk⟩ := new_some hk
        have c1 := beq_eq c1
        have c2 := beq_eq c2
        have c3 := ble_le c3
        have hxv : xv = .slice none 0 0 := hx
        subst hxv
        rw [← hsz] at hfl
        obtain ⟨v', w', xs', g1, g2, g3, g4, g5⟩ := run_appendF (P := P) (t := t) (ty := ty) (rows := []) (xs := []) hkind hi hz hzsz (by omega) (World.ownsRow_nil w 0 e inf.size) (fun j r hj => by simp at hj) hfl
          (by rw [hby]; simpa using lim_ok c3) (by omega)
        simp only [List.nil_append] at g2 g3
        have hold : ∀ b, b < w.heap.size → w'.heap[b]? = w.heap[b]? := fun b hb => g4.block b hb (by simp [Value.ownBlock])
        have hnew : ∀ b, mblk (setCV cv (key d 0) v') (key d 0) (.row 1 s e ys) = some b → w.heap.size ≤ b ∧ b < w'.heap.size := by
          intro b hb
          simp only [mblk, setCV_same] at hb
          have h1 := (g2.lt b hb).2
          rcases g5 with g5 | g5
          · rw [g5] at hb; simp [Value.ownBlock] at hb
          · rw [g5] at hb; injection hb with hb; omega
        have G := H.addGo (e := .row 1 s e ys) (c := v') hn g4.size hold fun b hb => (hnew b hb).1
        refine ⟨_, _, _, _, hk, v', w', _, _, g1, H.add (e := .row 1 s e ys) (c := v') hn g4.size hold ⟨g4.os, g4.tape, g4.output⟩ hnew ?_, G, ?_⟩
        · refine ⟨xs', ?_, fun b hb => .inr ?_, ?_, by omega⟩
          · rw [setCV_same, c2, ← hsz]; exact g2
          · simpa [mblk] using hb
          · rw [c2, ← hsz]; exact g3.mono (G.keep H)
        · refine ⟨?_, _, 1, look_upd_same .., rfl, Nat.le_refl _, fun _ => ?_⟩
          · rcases g2.2 with ⟨h1, _⟩ | ⟨g, cap, cur, h1, _⟩ <;> exact ⟨_, _, _, h1⟩
          · simp [CutOf, setCV_same]
      | rowp kk ver n =>
        have hx' : AR0 w X cv h xv (.rowp kk ver n) := hx
        obtain ⟨_, ent, v', hlk, _⟩ := hx'
        simp only [hlk] at hk
        cases ent with
        | row v1 s e' rows =>
          obtain ⟨c1, hk⟩ := cond_some hk
          obtain ⟨c2, hk⟩ := cond_some hk
          obtain ⟨c3, hk⟩ := cond_some hk
          obtain ⟨c4, hk⟩ := cond_some hk
          have c1 := beq_eq c1
          have c2 := beq_eq c2
          have c3 := beq_eq c3
          have c4 := ble_le c4
          subst c1
          obtain ⟨xs, o1, o2, o3, o4⟩ := H.ent kk _ hlk
          obtain ⟨zs, p1, p2, p3⟩ := own_cut o1 o3 (rowp_cur (w := w) (X := X) hx hlk (by rw [c2]; rfl))
          rw [c3, ← hsz] at p1 p2
          rw [← hsz] at hfl
          obtain ⟨v', w', xs', g1, g2, g3, g4, g5⟩ := run_appendF (P := P) (t := t) (ty := ty) hkind hi hz hzsz (by omega) p1 p2 hfl (by rw [hby]; exact lim_ok c4) (by omega)
          rw [p3] at g4 g5
          have hold : ∀ b, b < w.heap.size → mblk cv kk (.row v1 s e' rows) ≠ some b → w'.heap[b]? = w.heap[b]? := fun b hb hne => g4.block b hb (fun he => hne he.symm)
          have hnew : ∀ b, mblk (setCV cv kk v') kk (.row (v1 + 1) s e' (tk n rows ++ ys)) = some b → mblk cv kk (.row v1 s e' rows) = some b ∨ w.heap.size ≤ b ∧ b < w'.heap.size := by
            intro b hb
            simp only [mblk, setCV_same] at hb ⊢
            have h1 := (g2.lt b hb).2
            rcases g5 with g5 | g5
            · left; rw [← g5]; exact hb
            · rw [g5] at hb; injection hb with hb; right; omega
          have hle : EntLe (.row v1 s e' rows) (.row (v1 + 1) s e' (tk n rows ++ ys)) := ⟨by omega, rfl⟩
          have G := H.putGo (e' := .row (v1 + 1) s e' (tk n rows ++ ys)) (c := v') hlk hle g4.size hold (fun h => by simp [isBox] at h) (fun h => by simp [rowVer] at h) (fun b hb => (hnew b hb).imp id And.left)
          refine ⟨_, _, _, _, hk, v', w', _, _, g1, H.put (e' := .row (v1 + 1) s e' (tk n rows ++ ys)) (c := v') hlk hle g4.size hold ⟨g4.os, g4.tape, g4.output⟩ (fun h => by simp [isBox] at h) (fun h => by simp [rowVer] at h) hnew ?_, G, ?_⟩
          · refine ⟨xs', ?_, fun b hb => .inr ?_, ?_, o4⟩
            · rw [setCV_same, c3, ← hsz]; exact g2
            · simpa [mblk] using hb
            · rw [c3, ← hsz]; exact g3.mono (G.keep H)
          · refine ⟨?_, _, v1 + 1, look_upd_same .., rfl, Nat.le_refl _, fun _ => ?_⟩
            · rcases g2.2 with ⟨h1, _⟩ | ⟨g, cap, cur, h1, _⟩ <;> exact ⟨_, _, _, h1⟩
            · simp [CutOf, setCV_same]
        | irow _ _ _ => cases hk
        | box _ _ => cases hk
        | ibox _ => cases hk
        | map _ => cases hk
      | _ => cases hk
  · cases hk
end
end Go.AS
