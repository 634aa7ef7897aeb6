/- AS, part 10: parts of slices and texts; literals. -/
import Derived.Test.YtgihgeppdllnmaaAs9
namespace Go.AS
open Go.RowKit
set_option linter.all false

theorem TR.sub {w X a len cap s rows} (H : TR w X (.slice a len cap) (.sl s rows)) {l u : Nat} (h1 : l ≤ u) (h2 : u ≤ len) :
    TR w X (.slice (if cap = l then a else a.map (·.add (l * s))) (u - l) (cap - l)) (.sl s (dropN l (takeN u rows))) := by
  cases H with
  | sl _ ad _ _ _ _ vals hl hc hr hb hv ht =>
    rw [takeN_take, dropN_drop]
    have hget : ∀ (j : Nat) r, ((rows.take u).drop l)[j]? = some r → rows[l + j]? = some r := by
      intro j r hj
      rw [List.getElem?_drop, List.getElem?_take] at hj
      split at hj <;> first | exact hj | cases hj
    refine .sl _ (ad.add (l * s)) (u - l) (cap - l) s _ (fun j i => vals (l + j) i) (by simp; omega) (by omega) (fun j r hj => hr _ r (hget j r hj)) (fun h0 => ?_) (fun j r i x hj hi => ?_) (fun j r i x hj hi => ht _ r i x (hget j r hj) hi)
    · obtain ⟨g1, g2, g3⟩ := hb (by omega)
      rw [if_neg (by omega), g1, add_block]
      exact ⟨rfl, g2, g3⟩
    · rw [add_add, show l * s + (j * s + i) = (l + j) * s + i by rw [Nat.add_mul]; omega]
      exact hv _ r i x (hget j r hj) hi

def OptR (w : World) (X : Nat → Prop) (cv : CV) (h : Heap) : Option Value → Option AV → Prop
  | none, none => True
  | some v, some a => AR3 w X cv h v a
  | _, _ => False

section
variable {P : Program} {cx : Cx} (hcx : CxOk P cx) {β : Type} {r : β}
theorem loK_ok {w X cv h} {lov : Option Value} {lo : Option AV} (hl : OptR w X cv h lov lo) {k : Int → Option β} (hk : loK lo k = some r) : ∃ l, k l = some r ∧ ((lov = none ∧ l = 0) ∨ ∃ j, lov = some (.int j l)) := by
  cases lo with
  | none =>
    cases lov with
    | none => exact ⟨_, hk, .inl ⟨rfl, rfl⟩⟩
    | some v => exact hl.elim
  | some a =>
    cases lov with
    | none => exact hl.elim
    | some v =>
      obtain ⟨j, n, rfl, hk, rfl⟩ := intK_ok (w := w) (X := X) (cv := cv) (h := h) hk hl
      exact ⟨_, hk, .inr ⟨j, rfl⟩⟩
theorem hiK_ok {w X cv h} {lov : Option Value} {lo : Option AV} (hl : OptR w X cv h lov lo) {n : Nat} {k : Int → Option β} (hk : hiK lo n k = some r) : ∃ l : Int, k l = some r ∧ ((lov = none ∧ l = n) ∨ ∃ j, lov = some (.int j l)) := by
  cases lo with
  | none =>
    cases lov with
    | none => exact ⟨_, hk, .inl ⟨rfl, rfl⟩⟩
    | some v => exact hl.elim
  | some a =>
    cases lov with
    | none => exact hl.elim
    | some v =>
      obtain ⟨j, n, rfl, hk, rfl⟩ := intK_ok (w := w) (X := X) (cv := cv) (h := h) hk hl
      exact ⟨_, hk, .inr ⟨j, rfl⟩⟩
theorem run_sliceBound {w : World} {k : IntKind} {i : Int} {y : Nat} {c : BoundsCode} (h0 : 0 ≤ i) (h1 : i ≤ y) : (Instr.sliceBound (.int k i) y c).run P w = .ok i.toNat w := by
  simp [Instr.sliceBound, asIntOf, h0, h1]
theorem run_sliceBounds {w : World} {isS : Bool} {len cap : Nat} {lov hiv : Option Value} {l u : Int} (hl : (lov = none ∧ l = 0) ∨ ∃ j, lov = some (.int j l)) (hh : (hiv = none ∧ u = len) ∨ ∃ j, hiv = some (.int j u))
    (h0 : 0 ≤ l) (h1 : l ≤ u) (h2 : u ≤ len) (h3 : len ≤ cap) : (Instr.sliceBounds isS len cap lov hiv none).run P w = .ok (l.toNat, u.toNat, cap) w := by
  have hu : ∀ j c, (Instr.sliceBound (.int j u) cap c).run P w = .ok u.toNat w := fun j c => run_sliceBound (by omega) (by omega)
  have hlo : ∀ j c, (Instr.sliceBound (.int j l) u.toNat c).run P w = .ok l.toNat w := fun j c => run_sliceBound h0 (by omega)
  rcases hl with ⟨rfl, rfl⟩ | ⟨j, rfl⟩ <;> rcases hh with ⟨rfl, rfl⟩ | ⟨j', rfl⟩
  · simp [Instr.sliceBounds]
  · simp [Instr.sliceBounds, hu]
  · have hlo' : ∀ j c, (Instr.sliceBound (.int j l) len c).run P w = .ok l.toNat w := fun j c => run_sliceBound h0 (by omega)
    simp [Instr.sliceBounds, hlo']
  · simp [Instr.sliceBounds, hu, hlo]

include hcx
theorem sliceK_ok {base wb w X cv h} (H : HRel base wb w X cv h) {t : TypeId} {x : AV} {xv : Value} (hx : AR3 w X cv h xv x) {lov hiv : Option Value} {lo hi : Option AV} (hlo : OptR w X cv h lov lo) (hhi : OptR w X cv h hiv hi) {k : OpK β} (hk : sliceK cx t h x lo hi k = some r) :
    ∃ v h' rd wr val X', k v h' rd wr = some r ∧ (Instr.sliceAt t xv lov hiv none).run P w = .ok val w ∧ HRel base wb w X' cv h' ∧ Go1 wr w X cv h w X' cv h' ∧ AR3 w X' cv h' val v := by
  unfold sliceK at hk
  have hkind := hcx.kind t
  split at hk
  · rename_i he
    rw [he] at hkind
    have hkind : P.underlying t = some .string := hkind
    obtain ⟨s, rfl, hk, rfl⟩ := strK_ok hk hx
    obtain ⟨l, hk, hl⟩ := loK_ok hlo hk
    obtain ⟨u, hk, hu⟩ := hiK_ok hhi hk
    obtain ⟨⟨h0, h1, h2⟩, hk⟩ := cond_dec hk
    have hsz : s.data.toList.length = s.size := by rw [Array.length_toList]; rfl
    rw [hsz] at hu h2
    have hrun := run_sliceBounds (P := P) (w := w) (isS := false) (cap := s.size) hl hu h0 h1 h2 (Nat.le_refl _)
    refine ⟨_, _, _, _, .string (s.extract l.toNat u.toNat), X, hk, ?_, H, .refl .., str_TR _ ?_⟩
    · simp [Instr.sliceAt, Instr.slice, run_underlying hkind, hrun]
    · rw [takeN_take, dropN_drop, ByteArray.data_extract, Array.toList_extract]
      simp [List.extract_eq_take_drop, List.drop_take]
  · rename_i e he
    rw [he] at hkind
    have hkind : P.underlying t = some (.slice e) := hkind
    obtain ⟨hpos, hk⟩ := cond_some hk
    have hpos := ble_le hpos
    obtain ⟨inf, hif, hi2, _⟩ := hcx.size (t := e) (.inr hpos)
    have fin : ∀ {a : Option Addr} {len cap : Nat} {l u : Int} {X : Nat → Prop} {rows : List (List T)}, TR w X (.slice a len cap) (.sl (cx.sz e) rows) → (lov = none ∧ l = 0) ∨ (∃ j, lov = some (.int j l)) → (hiv = none ∧ u = rows.length) ∨ (∃ j, hiv = some (.int j u)) →
        0 ≤ l → l ≤ u → u ≤ rows.length → ∃ val, (Instr.sliceAt t (.slice a len cap) lov hiv none).run P w = .ok val w ∧ TR w X val (.sl (cx.sz e) (dropN l.toNat (takeN u.toNat rows))) := by
      intro a len cap l u X rows ht hl hu h0 h1 h2
      have ht' := ht
      cases ht' with
      | sl _ ad _ _ _ _ vals hlen hc hr hb hv htt =>
        rw [hlen] at hu h2
        have hrun := run_sliceBounds (P := P) (w := w) (isS := true) (cap := cap) hl hu h0 h1 h2 hc
        refine ⟨_, ?_, ht.sub (l := l.toNat) (u := u.toNat) (by omega) (by omega)⟩
        simp [Instr.sliceAt, Instr.slice, run_underlying hkind, hrun, run_size hif, hi2]
    have fin2 : ∀ {xs : AV}, xs = x → (match strip0 h xs with
        | some (.sl s rows, h1, w1) => loK lo fun l => hiK hi rows.length fun u =>
            cond (decide (0 ≤ l ∧ l ≤ u ∧ u ≤ rows.length)) (cond (Nat.beq s (cx.sz e)) (k (.t (.sl s (dropN l.toNat (takeN u.toNat rows)))) h1 [] w1) none) none
        | _ => none) = some r → AR1 w X cv h xv xs →
        ∃ v h' rd wr val X', k v h' rd wr = some r ∧ (Instr.sliceAt t xv lov hiv none).run P w = .ok val w ∧ HRel base wb w X' cv h' ∧ Go1 wr w X cv h w X' cv h' ∧ AR3 w X' cv h' val v := by
      intro xs hxs hk hx1
      split at hk
      · rename_i s rows h1 w1 hs
        obtain ⟨⟨X1, H1, G1, t1⟩, _⟩ := strip0_ok H hx1 hs
        obtain ⟨l, hk, hl⟩ := loK_ok hlo hk
        obtain ⟨u, hk, hu⟩ := hiK_ok hhi hk
        obtain ⟨⟨h0, h1, h2⟩, hk⟩ := cond_dec hk
        obtain ⟨h3, hk⟩ := cond_some hk
        have h3 := beq_eq h3
        obtain ⟨b, cap, hxv⟩ := t1.sl_len
        rw [h3, hxv] at t1
        obtain ⟨val, g1, g2⟩ := fin t1 hl hu h0 h1 h2
        rw [← hxv] at g1
        rw [← h3] at g2
        exact ⟨_, _, _, _, val, X1, hk, g1, H1, G1, g2⟩
      · cases hk
    cases x with
    | t y =>
      obtain ⟨s, rows, rfl, hk1⟩ := slK_ok (w := w) (X := X) hk hx
      obtain ⟨l, hk, hl⟩ := loK_ok hlo hk1
      obtain ⟨u, hk, hu⟩ := hiK_ok hhi hk
      obtain ⟨⟨h0, h1, h2⟩, hk⟩ := cond_dec hk
      obtain ⟨h3, hk⟩ := cond_some hk
      have h3 := beq_eq h3
      have t1 : TR w X xv (.sl s rows) := hx
      obtain ⟨b, cap, hxv⟩ := t1.sl_len
      rw [h3, hxv] at t1
      obtain ⟨val, g1, g2⟩ := fin t1 hl hu h0 h1 h2
      rw [← hxv] at g1
      exact ⟨_, _, _, _, val, X, hk, g1, H, .refl .., g2⟩
    | rowp kk ver n =>
      cases n with
      | some n => cases hk
      | none =>
        simp only at hk
        split at hk
        · rename_i v
          cases lov with
          | some _ => exact hlo.elim
          | none =>
            cases hiv with
            | none => exact hhi.elim
            | some hv =>
              obtain ⟨j, u, rfl, hk, rfl⟩ := intK_ok (w := w) (X := X) (cv := cv) (h := h) hk hhi
              split at hk
              · rename_i v' s t' rows hlk
                obtain ⟨h1, hk⟩ := cond_some hk
                obtain ⟨h2, hk⟩ := cond_some hk
                obtain ⟨⟨h3, h4⟩, hk⟩ := cond_dec hk
                have h1 := beq_eq h1
                have h2 := beq_eq h2
                rw [← h1] at hlk
                have hcut := rowp_cur (w := w) (X := X) hx hlk rfl
                simp only [CutOf] at hcut
                obtain ⟨xs, o1, o2, o3, o4⟩ := H.ent kk _ hlk
                have hc : ∃ b cap, cv kk = .slice b rows.length cap ∧ rows.length ≤ cap := by
                  rcases o1.2 with ⟨hc, hn⟩ | ⟨g, cap, cur, hc, _, _, hn, _⟩
                  · exact ⟨none, 0, by rw [hc, hn], by omega⟩
                  · exact ⟨_, cap, hc, hn⟩
                obtain ⟨b, cap, hc, hcap⟩ := hc
                have hrun := run_sliceBounds (P := P) (w := w) (isS := true) (len := rows.length) (cap := cap) (lov := none) (hiv := some (.int j u)) (l := 0) (u := u) (.inl ⟨rfl, rfl⟩) (.inr ⟨j, rfl⟩) (by omega) h3 h4 hcap
                have hadd : (b.map fun a => a.add (0 * cx.sz e)) = b := by cases b <;> simp [add_zero']
                refine ⟨_, _, _, _, .slice b u.toNat cap, X, hk, ?_, H, .refl .., ⟨_, _, _, rfl⟩, _, ver, hlk, rfl, Nat.le_refl _, fun _ => ⟨b, rows.length, cap, hc, by omega, hcap, rfl⟩⟩
                rw [hcut, hc]
                simp only [Int.toNat_zero] at hrun
                simp [Instr.sliceAt, Instr.slice, run_underlying hkind, hrun, run_size hif, hi2, hadd]
                intro _
                simpa using hadd
              · cases hk
        · exact fin2 rfl hk hx
    | _ => cases hk
  · cases hk
end
end Go.AS
