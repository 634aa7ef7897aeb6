/- AS, part 9: indices, slices, fields, literals. -/
import Derived.Test.YtgihgeppdllnmaaAs8
import Derived.Great.BuildSlice
import Derived.Laws.MakeOwn
namespace Go.AS
open Go.RowKit
set_option linter.all false

section
variable {P : Program} {cx : Cx} (hcx : CxOk P cx) {β : Type} {r : β}

theorem cond_dec {c : Prop} [Decidable c] {x : Option β} (H : cond (decide c) x none = some r) : c ∧ x = some r := by
  obtain ⟨h1, h2⟩ := cond_some H
  exact ⟨of_decide_eq_true h1, h2⟩

include hcx
theorem indexK_ok {base wb w X cv h} (H : HRel base wb w X cv h) {t : TypeId} {x i : AV} {xv iv : Value} (hx : AR3 w X cv h xv x) (hi : AR3 w X cv h iv i) {k : OpK β} (hk : indexK cx t h x i k = some r) :
    ∃ v rd val, k v h rd [] = some r ∧ (Instr.indexAt t xv iv).run P w = .ok val w ∧ AR3 w X cv h val v := by
  unfold indexK at hk
  obtain ⟨j, n, rfl, hk, rfl⟩ := intK_ok hk hi
  have hkind := hcx.kind t
  split at hk
  · rename_i e he
    rw [he] at hkind
    have hkind : P.underlying t = some (.slice e) := hkind
    have fin : ∀ (a : Addr) (len cap : Nat), 1 ≤ cx.sz e → 0 ≤ n → n < len → (Instr.indexAt t (.slice (some a) len cap) (.int j n)).run P w = .ok (.pointer (some (a.add (n.toNat * cx.sz e)))) w := by
      intro a len cap hs h0 h1
      obtain ⟨inf, hi, hi2, _⟩ := hcx.size (t := e) (.inr hs)
      simp [Instr.indexAt, asIntOf, run_underlying hkind, h0, h1, run_size hi, hi2]
    cases x with
    | t y =>
      obtain ⟨s, rows, rfl, hk⟩ := slK_ok (w := w) (X := X) hk hx
      obtain ⟨h1, hk⟩ := cond_some hk
      obtain ⟨hs, hk⟩ := cond_some hk
      obtain ⟨⟨h2, h3⟩, hk⟩ := cond_dec hk
      have h1 := beq_eq h1
      have hs := ble_le hs
      have hx' : TR w X xv (.sl s rows) := hx
      have hx2 := hx'
      cases hx' with
      | sl b ad len cap _ _ vals hl hc hr hb hv ht =>
        obtain ⟨rfl, _, _⟩ := hb (by omega)
        refine ⟨_, _, _, hk, fin ad len cap hs h2 (by omega), _, by rw [add_zero'], ?_⟩
        have := hx2.sl_row (i := n.toNat) (by omega)
        rw [← h1]
        exact this
    | rowp kk ver m =>
      have hx' : AR0 w X cv h xv (.rowp kk ver m) := hx
      obtain ⟨_, ent, v', hlk, _⟩ := hx'
      simp only [hlk] at hk
      obtain ⟨q1, q2⟩ := rowp_len H hx
      cases ent with
      | row v1 s t' rows =>
        obtain ⟨h1, hk⟩ := cond_some hk
        obtain ⟨h2, hk⟩ := cond_some hk
        obtain ⟨hs, hk⟩ := cond_some hk
        obtain ⟨⟨h3, h4⟩, hk⟩ := cond_dec hk
        have h1 := beq_eq h1
        have h2 := beq_eq h2
        have hs := ble_le hs
        have hlk' := hlk
        rw [← h1] at hlk'
        have hcut := rowp_cur (w := w) (X := X) hx hlk' rfl
        obtain ⟨xs, o1, o2, o3, o4⟩ := H.ent kk _ hlk
        have hlen : (tk m rows).length ≤ rows.length := by cases m <;> simp [tk, takeN_take]; omega
        rcases o1.2 with ⟨hc, hn⟩ | ⟨g, cap, cur, hc, _⟩
        · omega
        · have hxv : xv = .slice (some ⟨g, 0, none⟩) (tk m rows).length cap := by
            cases m with
            | none => simp only [CutOf] at hcut; rw [hcut, hc]; rfl
            | some m =>
              obtain ⟨b1, l1, c1, g1, g2, g3, g4⟩ := hcut
              rw [hc] at g1
              cases g1
              rw [g4, tk, takeN_take, List.length_take]
              congr 1
              omega
          subst hxv
          refine ⟨_, _, _, hk, fin _ _ _ hs h3 h4, ⟨_, rfl⟩, _, v1, hlk, rfl, by omega, fun _ => ⟨_, _, _, hc, by omega, ?_⟩⟩
          simp only [rowSize, h2, Nat.add_zero]
      | irow v1 s rows =>
        obtain ⟨h1, hk⟩ := cond_some hk
        obtain ⟨h2, hk⟩ := cond_some hk
        obtain ⟨hs, hk⟩ := cond_some hk
        obtain ⟨⟨h3, h4⟩, hk⟩ := cond_dec hk
        have h1 := beq_eq h1
        have h2 := beq_eq h2
        have hs := ble_le hs
        have hlk' := hlk
        rw [← h1] at hlk'
        have hcut := rowp_cur (w := w) (X := X) hx hlk' rfl
        have o1 : TR w X (cv kk) (.sl s rows) := H.ent kk _ hlk
        have hlen : (tk m rows).length ≤ rows.length := by cases m <;> simp [tk, takeN_take]; omega
        have o2 := o1
        cases hcv : cv kk with
        | slice b len cap =>
          rw [hcv] at o1 o2 hcut
          cases o1 with
          | sl _ ad _ _ _ _ vals hl hc hr hb hv ht =>
            obtain ⟨rfl, _, _⟩ := hb (by omega)
            have hxv : xv = .slice (some ad) (tk m rows).length cap := by
              cases m with
              | none => simp only [CutOf] at hcut; rw [hcut, tk, hl]
              | some m =>
                obtain ⟨b1, l1, c1, g1, g2, g3, g4⟩ := hcut
                cases g1
                rw [g4, tk, takeN_take, List.length_take]
                congr 1
                omega
            subst hxv
            refine ⟨_, _, _, hk, fin _ _ _ hs h3 h4, _, by rw [add_zero'], ?_⟩
            rw [← h2]
            exact o2.sl_row (by omega)
        | _ => rw [hcv] at o1; cases o1
      | box _ _ => cases hk
      | ibox _ => cases hk
      | map _ => cases hk
    | _ => cases hk
  · rename_i len e he
    rw [he] at hkind
    have hkind : P.underlying t = some (.array len e) := hkind
    cases x with
    | ptr kk off =>
      obtain ⟨hs, hk⟩ := cond_some hk
      obtain ⟨⟨h3, h4⟩, hk⟩ := cond_dec hk
      have hs := ble_le hs
      obtain ⟨inf, hi, hi2, _⟩ := hcx.size (t := e) (.inr hs)
      obtain ⟨ent, b, q1, q2, q3, rfl⟩ := hx
      refine ⟨_, _, .pointer (some (((⟨b, 0, none⟩ : Addr).add off).add (n.toNat * cx.sz e))), hk, ?_, ent, b, q1, q2, q3, by rw [add_add]⟩
      simp [Instr.indexAt, Instr.sureAddr, asIntOf, run_underlying hkind, h3, h4, run_size hi, hi2]
    | _ => cases hk
  · cases hk

omit hcx in
theorem ptrAdd_ok {w X cv h} {p : AV} {pv : Value} (hp : AR3 w X cv h pv p) {o : Nat} {k : AV → Option β} (hk : ptrAdd p o k = some r) : ∃ v, k v = some r ∧ ∃ a, pv = .pointer (some a) ∧ AR3 w X cv h (.pointer (some (a.add o))) v := by
  cases p with
  | ptr kk off =>
    obtain ⟨e, b, q1, q2, q3, rfl⟩ := hp
    exact ⟨_, hk, _, rfl, e, b, q1, q2, q3, by rw [add_add]⟩
  | elp kk ver i off =>
    obtain ⟨⟨a, rfl⟩, e, v', q1, q2, q3, q4⟩ := hp
    refine ⟨_, hk, a, rfl, ⟨_, rfl⟩, e, v', q1, q2, q3, fun hv => ?_⟩
    obtain ⟨a1, len, cap, g1, g2, g3⟩ := q4 hv
    injection g3 with g3
    injection g3 with g3
    exact ⟨a1, len, cap, g1, g2, by rw [g3, add_add, Nat.add_assoc]⟩
  | tel s row off =>
    obtain ⟨a, rfl, ht⟩ := hp
    exact ⟨_, hk, _, rfl, a, by rw [add_add], ht⟩
  | t x =>
    obtain ⟨s, row, a, rfl, hk, rfl⟩ := ptK_ok (w := w) (X := X) hk hp
    exact ⟨_, hk, a, rfl, a, rfl, hp⟩
  | _ => cases hk
omit hcx in
theorem field_at {fs : List (Nat × TypeId)} {fs' : Array Field} (hf : fs'.toList.map (fun f => (f.offset, f.type)) = fs) {f : Nat} (hl : f < fs.length) : ∃ fd, fs'[f]? = some fd ∧ fieldOff fs f = (fd.offset, fd.type) := by
  have hl' : f < fs'.size := by rw [← hf] at hl; simpa using hl
  refine ⟨fs'[f], by simp [hl'], ?_⟩
  unfold fieldOff
  rw [nth_get, ← hf, List.getElem?_map]
  simp [hl']
omit hcx in
theorem fieldPl_ok {fs : List (Nat × TypeId)} {f : Nat} (h : 1 ≤ (fieldPl cx fs f).2) : f < fs.length ∧ fieldPl cx fs f = ((fieldOff fs f).1, cx.sz (fieldOff fs f).2) := by
  unfold fieldPl at *
  cases hb : Nat.blt f fs.length with
  | true => exact ⟨by simpa [Nat.blt_eq] using hb, rfl⟩
  | false => rw [hb] at h; simp at h
theorem fieldAddr_ok {w X cv h} {t : TypeId} {f : Nat} {x : AV} {xv : Value} (hx : AR3 w X cv h xv x) {fs : List (Nat × TypeId)} (he : (cx.tyi t).kind = .struct fs) (hp : 1 ≤ (fieldPl cx fs f).2) {k : AV → Option β} (hk : ptrAdd x (fieldOff fs f).1 k = some r) :
    ∃ v, k v = some r ∧ ∃ val, (Instr.fieldAt t xv f).run P w = .ok val w ∧ AR3 w X cv h val v := by
  have hkind := hcx.kind t
  rw [he] at hkind
  obtain ⟨fs', hu, hf, _⟩ := hkind
  obtain ⟨hl, hpl⟩ := fieldPl_ok hp
  obtain ⟨fd, g1, g2⟩ := field_at hf hl
  obtain ⟨v, hk, a, rfl, hv⟩ := ptrAdd_ok hx hk
  rw [hpl, g2] at hp
  obtain ⟨inf, hi, hi2, _⟩ := hcx.size (t := fd.type) (.inr hp)
  have hn : inf.size ≠ 0 := by simp only at hp; omega
  refine ⟨v, hk, _, ?_, hv⟩
  simp [Instr.fieldAt, run_underlying hu, g1, Instr.sureAddr, fieldPlace, run_size hi, hn, g2]
theorem part_ok {w X cv h} {t : TypeId} (hl : loadOk cx t = true) {cs : List Value} {l : List AV} (hv : All2 (AR1 w X cv h) cs l) {off : Nat} (ho : off + cx.sz t ≤ l.length) :
    ∃ val, (part t cs.toArray off).run P w = .ok val w ∧ AR3 w X cv h val (loadV cx t (slotsAt .dead l off (cx.sz t))) := by
  have hk := hcx.kind t
  have hs := fun h0 => hcx.size (t := t) h0
  have hlen := hv.length
  obtain ⟨sl, sg⟩ := slotsAt_get AV.dead l (cx.sz t) off
  have hcut : All2 (AR1 w X cv h) ((cs.drop off).take (cx.sz t)) (slotsAt .dead l off (cx.sz t)) := All2.of_get (by rw [sl, List.length_take, List.length_drop]; omega) fun i x y hx hy => by
    rw [List.getElem?_take] at hx
    split at hx
    · rename_i hlt
      rw [List.getElem?_drop] at hx
      rw [sg i hlt] at hy
      injection hy with hy
      subst hy
      exact All2.get (off + i) _ _ hv hx (nth_of _ (by omega))
    · cases hx
  have hext : ∀ n, (cs.toArray.extract off (off + n)) = ((cs.drop off).take n).toArray := by
    intro n
    simp [List.extract_eq_take_drop]
  unfold loadOk at hl
  unfold loadV
  cases hkind : (cx.tyi t).kind with
  | struct fs =>
    rw [hkind] at hk
    obtain ⟨fs', hu, _⟩ := hk
    obtain ⟨inf, hi, hi2, _⟩ := hs (.inl (by rw [hkind]; simp))
    refine ⟨.agg ((cs.drop off).take (cx.sz t)).toArray, ?_, _, rfl, hcut⟩
    simp [part, isAgg, run_underlying hu, run_size hi, hi2, hext]
  | arr n e =>
    rw [hkind] at hk
    simp only [KindOk] at hk
    obtain ⟨inf, hi, hi2, _⟩ := hs (.inl (by rw [hkind]; simp))
    refine ⟨.agg ((cs.drop off).take (cx.sz t)).toArray, ?_, _, rfl, hcut⟩
    simp [part, isAgg, run_underlying hk, run_size hi, hi2, hext]
  | other => rw [hkind] at hl; cases hl
  | tuple l => rw [hkind] at hl; cases hl
  | bool | int _ | str | slice _ | ptr _ | func | map _ _ =>
    rw [hkind] at hl hk
    have h1 : cx.sz t = 1 := beq_eq hl
    rw [h1] at hcut ho ⊢
    have hlt : off < cs.length := by omega
    have hu : ∃ d, P.underlying t = some d ∧ (∀ fs, d ≠ .struct fs) ∧ (∀ n e, d ≠ .array n e) := by
      first
      | exact ⟨_, hk, by simp, by simp⟩
      | exact ⟨_, hk.1, by simp, by simp⟩
      | (obtain ⟨a1, a2, a3, hk⟩ := hk; exact ⟨_, hk, by simp, by simp⟩)
    obtain ⟨d, hu, hd1, hd2⟩ := hu
    have : (isAgg t).run P w = .ok false w := by
      cases d <;> simp [isAgg, run_underlying hu]
      · exact absurd rfl (hd2 _ _)
      · exact absurd rfl (hd1 _)
    refine ⟨cs[off], by simp [part, this, hlt], ?_⟩
    have hv1 := All2.get off _ _ hv (List.getElem?_eq_getElem hlt) (nth_of AV.dead (by omega))
    simp only [slotsAt, nth]
    exact hv1.to2.to3
theorem field_ok {w X cv h} {t : TypeId} {f : Nat} {x : AV} {xv : Value} (hx : AR3 w X cv h xv x) {fs : List (Nat × TypeId)} (he : (cx.tyi t).kind = .struct fs) {l : List AV} (hxl : x = .agg l) (hp : 1 ≤ (fieldPl cx fs f).2) (hl : loadOk cx (fieldOff fs f).2 = true)
    (ho : (fieldOff fs f).1 + cx.sz (fieldOff fs f).2 ≤ l.length) :
    ∃ val, (Instr.field t xv f).run P w = .ok val w ∧ AR3 w X cv h val (loadV cx (fieldOff fs f).2 (slotsAt .dead l (fieldOff fs f).1 (cx.sz (fieldOff fs f).2))) := by
  have hkind := hcx.kind t
  rw [he] at hkind
  obtain ⟨fs', hu, hf, _⟩ := hkind
  obtain ⟨hlt, hpl⟩ := fieldPl_ok hp
  obtain ⟨fd, g1, g2⟩ := field_at hf hlt
  subst hxl
  obtain ⟨cs, rfl, hv⟩ := hx
  obtain ⟨val, h1, h2⟩ := part_ok hcx hl hv ho
  rw [g2] at h1 h2 ⊢
  refine ⟨val, ?_, h2⟩
  simp [Instr.field, run_underlying hu, g1, asAgg, h1]
end
end Go.AS
