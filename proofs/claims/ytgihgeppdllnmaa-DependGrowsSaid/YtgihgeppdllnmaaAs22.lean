/- AS, part 22: functions of Go's library, taken by what they are proved to answer. -/
import Derived.Test.YtgihgeppdllnmaaAs21
import Derived.Lib.Bytealg
import Derived.Lib.IndexBytes
import Derived.Lib.IndexMore
import Derived.Lib.Join
import Derived.Deep.Draws
namespace Go.AS
open Go.RowKit
set_option linter.all false

theorem compareS_eq : ∀ (a b : Str), Lib.compareBytes a b = compareS a b
  | [], [] => rfl
  | [], _ :: _ => rfl
  | _ :: _, [] => rfl
  | a :: as, b :: bs => by
    have ih := compareS_eq as bs
    simp only [Lib.compareBytes, compareS, Op.bytesLess] at ih ⊢
    by_cases h1 : a < b
    · simp [h1]
    · by_cases h2 : b < a
      · have hne : (a == b) = false := by
          rw [beq_eq_false_iff_ne]
          intro he
          subst he
          exact h1 h2
        have hne' : ((a :: as) == (b :: bs)) = false := by
          rw [beq_eq_false_iff_ne]
          intro he
          injection he with he _
          subst he
          exact h1 h2
        simp [h1, h2, hne, hne']
      · have he : a = b := UInt8.le_antisymm (UInt8.not_lt.1 h2) (UInt8.not_lt.1 h1)
        subst he
        have : ((a :: as) == (a :: bs)) = (as == bs) := by simp
        simp [h1, ih, this]
theorem cutS_one (c : UInt8) : ∀ (s : Str), cutS s [c] = Lib.cut s [c]
  | [] => rfl
  | b :: l => by
    have ih := cutS_one c l
    unfold Lib.cut at ih ⊢
    rw [Lib.index_one] at ih ⊢
    have hge := Lib.indexByte_ge l c
    simp only [cutS, prefixB, Bool.and_true, ih]
    by_cases hb : b = c
    · subst hb
      have hix : Lib.indexByte (b :: l) b = 0 := by simp [Lib.indexByte]
      simp [dropN, hix]
    · have h1 : (b == c) = false := by rw [beq_eq_false_iff_ne]; exact hb
      have h2 : (c == b) = false := by rw [beq_eq_false_iff_ne]; exact Ne.symm hb
      have hix : Lib.indexByte (b :: l) c = if (Lib.indexByte l c == -1) = true then -1 else Lib.indexByte l c + 1 := by
        rw [Lib.indexByte, h1]; rfl
      by_cases h0 : 0 ≤ Lib.indexByte l c
      · have h3 : (Lib.indexByte l c == -1) = false := by rw [beq_eq_false_iff_ne]; omega
        rw [h3] at hix
        have hix : Lib.indexByte (b :: l) c = Lib.indexByte l c + 1 := hix
        have h4 : (Lib.indexByte l c + 1).toNat = (Lib.indexByte l c).toNat + 1 := by omega
        have h5 : 0 ≤ Lib.indexByte l c + 1 := by omega
        simp [h2, h0, hix, h4, h5]
      · have h3 : Lib.indexByte l c = -1 := by omega
        rw [h3] at hix
        have hix : Lib.indexByte (b :: l) c = -1 := hix
        simp [h2, h3, hix]
theorem containsS_one (s : Str) (c : UInt8) : containsS s [c] = decide (0 ≤ Lib.indexByte s c) := by
  unfold containsS
  rw [cutS_one]
  unfold Lib.cut
  rw [Lib.index_one]
  by_cases h : 0 ≤ Lib.indexByte s c <;> simp [h]
theorem joinS_eq (sep : Str) : ∀ (l : List Str), joinS sep l = Lib.join l sep
  | [] => rfl
  | [s] => by rw [Lib.join_one]; rfl
  | s :: t :: l => by
    have ih := joinS_eq sep (t :: l)
    rw [Lib.join_cons] at ih ⊢
    simp only [joinS, ih, Lib.joinTail, List.map_cons, List.flatten_cons]
    simp [List.append_assoc]

section
variable {P : Program} {f : FuncId}
theorem bare_bool (b : Bool) : Bare (.t (.bool b)) (.t (.bool b)) := ⟨_, rfl, rfl, fun _ _ _ _ _ h => by cases h; exact .bool b⟩
theorem bare_str (s : Str) : Bare (.t (.str s)) (.t (.str s)) := ⟨_, rfl, rfl, fun _ _ _ _ _ h => by cases h; exact .str _⟩
theorem bare_int (k : IntKind) (n : Int) : Bare (.t (.int k n)) (.t (.int k n)) := ⟨_, rfl, rfl, fun _ _ _ _ _ h => by cases h; exact .int k n⟩
theorem tr_str {w X} (s : Str) : TR w X (.string ⟨s.toArray⟩) (.str s) := by
  have := TR.str (w := w) (X := X) (⟨s.toArray⟩ : ByteArray)
  simpa using this
theorem one_byte {b : Str} (h : Nat.beq b.length 1 = true) : ∃ c, b = [c] := by
  have := beq_eq h
  match b, this with
  | [c], _ => exact ⟨c, rfl⟩
theorem ba_one {s : ByteArray} {c : UInt8} (h : s.data.toList = [c]) : s = ⟨#[c]⟩ := by
  cases s with
  | mk d =>
    congr 1
    apply Array.ext'
    simpa using h
theorem prim_compare (hE : Enter P f) (hc : ∀ (a b : ByteArray) (w : World), Calls P f #[.string a, .string b] w fun e w' => e = .returned (.int .i64 (Lib.compareBytes a.data.toList b.data.toList)) ∧ w' = w) : PrimOk P .compare f := by
  refine ⟨hE, fun β xs k r hk => ?_⟩
  match xs, hk with
  | [x, y], hk =>
    simp only [primK] at hk
    cases x <;> simp only [T.strK] at hk <;> first | cases hk; done | skip
    cases y <;> simp only [T.strK] at hk <;> first | cases hk; done | skip
    refine ⟨_, hk, .inl (.inl (bare_int _ _)), fun w X vs hv => ?_⟩
    match vs, hv with
    | [v1, v2], hv =>
      obtain ⟨h1, h2, _⟩ := hv
      cases h1
      cases h2
      refine (hc _ _ w).mono fun e w' ⟨he, hw⟩ => ?_
      subst hw
      exact ⟨_, he, fun X' cv h => by rw [compareS_eq]; exact TR.int _ _, Nat.le_refl _, fun _ _ => rfl, rfl, rfl, rfl⟩
  | [], hk => cases hk
  | [_], hk => cases hk
  | _ :: _ :: _ :: _, hk => cases hk
theorem prim_contains (hE : Enter P f) (hc : ∀ (s : ByteArray) (c : UInt8) (w : World), Calls P f #[.string s, .string ⟨#[c]⟩] w fun e w' => e = .returned (.bool (decide (0 ≤ Lib.indexByte s.data.toList c))) ∧ w' = w) : PrimOk P .contains f := by
  refine ⟨hE, fun β xs k r hk => ?_⟩
  match xs, hk with
  | [x, y], hk =>
    simp only [primK] at hk
    cases x <;> simp only [T.strK] at hk <;> first | cases hk; done | skip
    cases y <;> simp only [T.strK] at hk <;> first | cases hk; done | skip
    obtain ⟨h1, hk⟩ := cond_some hk
    obtain ⟨c, rfl⟩ := one_byte h1
    refine ⟨_, hk, .inl (.inl (bare_bool _)), fun w X vs hv => ?_⟩
    match vs, hv with
    | [v1, v2], hv =>
      obtain ⟨h1, h2, _⟩ := hv
      cases h1
      generalize hy : T.str [c] = y at h2
      cases h2 <;> first | (cases hy; done) | skip
      injection hy with hs2
      rw [ba_one hs2.symm]
      refine (hc _ _ w).mono fun e w' ⟨he, hw⟩ => ?_
      subst hw
      exact ⟨_, he, fun X' cv h => by rw [containsS_one]; exact TR.bool _, Nat.le_refl _, fun _ _ => rfl, rfl, rfl, rfl⟩
  | [], hk => cases hk
  | [_], hk => cases hk
  | _ :: _ :: _ :: _, hk => cases hk
theorem prim_cut (hE : Enter P f) (hc : ∀ (s : ByteArray) (c : UInt8) (w : World), s.size ≤ 9223372036854775807 → Calls P f #[.string s, .string ⟨#[c]⟩] w fun e w' => e = .returned (.tuple #[.string ⟨(Lib.cut s.data.toList [c]).1.toArray⟩, .string ⟨(Lib.cut s.data.toList [c]).2.1.toArray⟩, .bool (Lib.cut s.data.toList [c]).2.2]) ∧ ∃ n, w' = w.drewN n) : PrimOk P .cut f := by
  refine ⟨hE, fun β xs k r hk => ?_⟩
  match xs, hk with
  | [x, y], hk =>
    simp only [primK] at hk
    cases x <;> simp only [T.strK] at hk <;> first | cases hk; done | skip
    cases y <;> simp only [T.strK] at hk <;> first | cases hk; done | skip
    obtain ⟨h1, hk⟩ := cond_some hk
    obtain ⟨hle, hk⟩ := cond_some hk
    have hle := ble_le hle
    obtain ⟨c, rfl⟩ := one_byte h1
    refine ⟨_, hk, .inr ⟨_, _, rfl, rfl, .inl (bare_str _), .inl (bare_str _), .inl (bare_bool _), trivial⟩, fun w X vs hv => ?_⟩
    match vs, hv with
    | [v1, v2], hv =>
      obtain ⟨h1, h2, _⟩ := hv
      cases h1
      generalize hy : T.str [c] = y at h2
      cases h2 <;> first | (cases hy; done) | skip
      injection hy with hs2
      rw [ba_one hs2.symm]
      refine (hc _ _ w (by rw [← ByteArray.size_data]; simpa using hle)).mono fun e w' ⟨he, n, hw⟩ => ?_
      subst hw
      exact ⟨_, he, fun X' cv h => by rw [cutS_one]; exact ⟨_, rfl, tr_str _, tr_str _, TR.bool _, trivial⟩, Nat.le_refl _, fun _ _ => rfl, rfl, rfl, rfl⟩
  | [], hk => cases hk
  | [_], hk => cases hk
  | _ :: _ :: _ :: _, hk => cases hk
theorem strsOf_get : ∀ {rows : List (List T)} {l : List Str}, strsOf rows = some l → rows.length = l.length ∧ ∀ (j : Nat) s, l[j]? = some s → rows[j]? = some [.str s]
  | [], l, h => by
    simp only [strsOf] at h
    injection h with h
    subst h
    exact ⟨rfl, fun j s hj => by simp at hj⟩
  | [x] :: rows, l, h => by
    simp only [strsOf] at h
    cases hx : x.strOf with
    | none => rw [hx] at h; cases h
    | some s0 =>
      cases hr : strsOf rows with
      | none => rw [hx, hr] at h; cases h
      | some r =>
        rw [hx, hr] at h
        injection h with h
        subst h
        obtain ⟨q1, q2⟩ := strsOf_get hr
        refine ⟨by simp [q1], fun j s hj => ?_⟩
        cases j with
        | zero =>
          simp at hj
          subst hj
          cases x <;> simp only [T.strOf] at hx <;> first | cases hx; done | skip
          injection hx with hx
          subst hx
          rfl
        | succ j => simpa using q2 j s (by simpa using hj)
  | [] :: _, l, h => by cases h
  | (_ :: _ :: _) :: _, l, h => by cases h
theorem prim_join (hE : Enter P f) (h0 : ∀ (a : Option Addr) (c : Nat) (sep : ByteArray) (w : World), Calls P f #[.slice a 0 c, .string sep] w fun e w' => e = .returned (.string ⟨#[]⟩) ∧ w' = w)
    (hc : ∀ (bk o c : Nat) (xs : List ByteArray) (sep : ByteArray) (w : World), (∀ (j : Nat) x, xs[j]? = some x → w.cell? ⟨bk, o + j, none⟩ = some (.string x)) → bk < w.heap.size → xs.length ≤ 140737488355328 → xs.length ≤ c →
      (Lib.join (xs.map (·.data.toList)) sep.data.toList).length ≤ 140737488355328 → Calls P f #[.slice (some ⟨bk, o, none⟩) xs.length c, .string sep] w fun e w' => e = .returned (.string ⟨(Lib.join (xs.map (·.data.toList)) sep.data.toList).toArray⟩) ∧ Below w.heap.size w w') : PrimOk P .join f := by
  refine ⟨hE, fun β xs k r hk => ?_⟩
  match xs, hk with
  | [x, y], hk =>
    simp only [primK] at hk
    cases x <;> simp only [T.slK] at hk <;> first | cases hk; done | skip
    rename_i s rows
    obtain ⟨hs0, hk0⟩ := cond_some hk
    clear hk
    have hs1 := beq_eq hs0
    clear hs0
    subst hs1
    cases y <;> simp only [T.strK] at hk0 <;> first | cases hk0; done | skip
    rename_i sep
    unfold joinK at hk0
    split at hk0
    · cases hk0
    · rename_i l hl
      obtain ⟨h1, hk1⟩ := cond_some hk0
      obtain ⟨h2, hk⟩ := cond_some hk1
      have h1 := ble_le h1
      have h2 := ble_le h2
      refine ⟨_, hk, .inl (.inl (bare_str _)), fun w X vs hv => ?_⟩
      match vs, hv with
      | [v1, v2], hv =>
        obtain ⟨t1, t2, _⟩ := hv
        obtain ⟨sepb, rfl, rfl⟩ : ∃ sb : ByteArray, v2 = .string sb ∧ sep = sb.data.toList := by
          cases t2
          exact ⟨_, rfl, rfl⟩
        obtain ⟨q1, q2⟩ := strsOf_get hl
        cases t1 with
        | sl base ad len cap _ _ vals hlen hcap hrow hb hcell htr =>
          by_cases hz : len = 0
          · subst hz
            have hr : rows = [] := List.eq_nil_of_length_eq_zero hlen
            subst hr
            simp only [strsOf] at hl
            injection hl with hl
            subst hl
            refine (h0 base cap sepb w).mono fun e w' ⟨he, hw⟩ => ?_
            subst hw
            exact ⟨_, he, fun X' cv h => tr_str [], Nat.le_refl _, fun _ _ => rfl, rfl, rfl, rfl⟩
          · obtain ⟨hba, _, hbs⟩ := hb (by omega)
            subst hba
            have cells : ∀ (j : Nat) s, l[j]? = some s → w.cell? (ad.add j) = some (.string ⟨s.toArray⟩) := by
              intro j s hj
              have hr := q2 j s hj
              have c1 := hcell j _ 0 _ hr rfl
              have c2 := htr j _ 0 _ hr rfl
              rw [Nat.mul_one, Nat.add_zero] at c1
              rw [c1]
              generalize vals j 0 = v at c2
              generalize hy : T.str s = y at c2
              cases c2 <;> first | (cases hy; done) | skip
              injection hy with hs2
              subst hs2
              congr 2
            have hspot : ad.spot = none := by
              obtain ⟨s0, hs0⟩ : ∃ s0, l[0]? = some s0 := ⟨l[0]'(by omega), List.getElem?_eq_getElem (by omega)⟩
              have c0 := cells 0 s0 hs0
              rw [add_zero'] at c0
              unfold World.cell? at c0
              split at c0
              · cases hsp : ad.spot with
                | none => rfl
                | some _ => rw [hsp] at c0; simp at c0
              · cases c0
            obtain ⟨bk, o, sp⟩ := ad
            simp only at hspot
            subst hspot
            have hmap : (l.map fun s => (⟨s.toArray⟩ : ByteArray)).map (·.data.toList) = l := by
              rw [List.map_map]
              conv => rhs; rw [← List.map_id l]
              apply List.map_congr_left
              intro s _
              simp
            have hjoin : Lib.join ((l.map fun s => (⟨s.toArray⟩ : ByteArray)).map (·.data.toList)) sepb.data.toList = joinS sepb.data.toList l := by rw [hmap, joinS_eq]
            have main := hc bk o cap (l.map fun s => (⟨s.toArray⟩ : ByteArray)) sepb w (fun j x hj => by
              rw [List.getElem?_map] at hj
              cases hl' : l[j]? with
              | none => rw [hl'] at hj; cases hj
              | some s =>
                rw [hl'] at hj
                injection hj with hj
                subst hj
                have := cells j s hl'
                unfold Addr.add at this
                split at this
                · rename_i h; subst h; exact this
                · exact this) hbs (by simpa using h1) (by simp; omega) (by rw [hjoin]; exact h2)
            have hll : (l.map fun s => (⟨s.toArray⟩ : ByteArray)).length = len := by simp; omega
            rw [hll, hjoin] at main
            refine main.mono fun e w' ⟨he, hw⟩ => ?_
            exact ⟨_, he, fun X' cv h => tr_str _, hw.size, fun b hb => hw.block b hb, hw.os, hw.tape, hw.output⟩
  | [], hk => cases hk
  | [_], hk => cases hk
  | _ :: _ :: _ :: _, hk => cases hk
end
end Go.AS
