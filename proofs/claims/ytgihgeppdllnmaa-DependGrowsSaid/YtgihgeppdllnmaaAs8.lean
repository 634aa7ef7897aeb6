/- AS, part 8: operations that read: sums and comparisons, lengths, indices, slices, parts. -/
import Derived.Test.YtgihgeppdllnmaaAs7
import Derived.Laws.Strings2
import Derived.Laws.Small
import Derived.Laws.Pointers
import Derived.Laws.StructEq
import Derived.Laws.Concat
namespace Go.AS
open Go.RowKit
set_option linter.all false

section
variable {P : Program} {cx : Cx} (hcx : CxOk P cx) {β : Type} {r : β}

omit hcx in
theorem str_TR {w X} (s : ByteArray) {l : Str} (h : s.data.toList = l) : TR w X (.string s) (.str l) := by subst h; exact .str s

include hcx
theorem binK_ok {w X cv h} {op : BinOp} {t : TypeId} {x y : AV} {xv yv : Value} (hx : AR3 w X cv h xv x) (hy : AR3 w X cv h yv y) {k : AV → Option β} (hk : binK cx op t x y k = some r) :
    ∃ v, k v = some r ∧ ∃ val, (∀ (ox oy : Operand), (eqGuard op t ox oy xv yv).run P w = .ok () w) ∧ (binOp op t xv yv).run P w = .ok val w ∧ AR3 w X cv h val v := by
  unfold binK at hk
  have hkind := hcx.kind t
  split at hk
  · rename_i j he
    rw [he] at hkind
    obtain ⟨j1, a, rfl, hk, rfl⟩ := intK_ok hk hx
    obtain ⟨j2, b, rfl, hk, rfl⟩ := intK_ok hk hy
    obtain ⟨h1, hk⟩ := cond_some hk
    obtain ⟨h2, hk⟩ := cond_some hk
    have h1 := same_ok h1
    have h2 := same_ok h2
    subst h1 h2
    have hg : ∀ (op : BinOp) (ox oy : Operand), (eqGuard op t ox oy (.int j2 a) (.int j2 b)).run P w = .ok () w := fun op ox oy => by cases op <;> simp [eqGuard]
    cases op <;> simp only at hk <;> first | cases hk; done | skip
    all_goals first
      | exact ⟨_, hk, _, hg _, by simp [binOp, Op.intArith, Op.intCmp]; done, .int _ _⟩
      | exact ⟨_, hk, _, hg _, by simp [binOp, Op.intArith, Op.intCmp, bne]; done, .bool _⟩
      | skip
    all_goals
      obtain ⟨hb, hk⟩ : (b == 0) = false ∧ _ = some r := by
        cases hb : b == 0 with
        | true => rw [hb] at hk; cases hk
        | false => rw [hb] at hk; exact ⟨rfl, hk⟩
      have hb : b ≠ 0 := by simpa using hb
      exact ⟨_, hk, _, hg _, by simp [binOp, Op.intDiv, hb], .int _ _⟩
  · rename_i he
    rw [he] at hkind
    obtain ⟨a, rfl, hk, rfl⟩ := strK_ok hk hx
    obtain ⟨b, rfl, hk, rfl⟩ := strK_ok hk hy
    have hg : ∀ (op : BinOp) (ox oy : Operand), (eqGuard op t ox oy (.string a) (.string b)).run P w = .ok () w := fun op ox oy => by cases op <;> simp [eqGuard]
    cases op <;> simp only at hk <;> first | cases hk; done | skip
    all_goals first
      | exact ⟨_, hk, _, hg _, by simp [binOp, Op.stringOp, ByteArray.toList_eq]; done, .bool _⟩
      | skip
    obtain ⟨hb, hk⟩ := cond_some hk
    have hb := ble_le hb
    refine ⟨_, hk, .string (a ++ b), hg _, ?_, str_TR _ (by simp)⟩
    have h1 : ¬ ((a.size + b.size : Nat) : Int) > IntKind.i64.max := by
      have e1 : a.data.toList.length = a.size := by rw [Array.length_toList]; rfl
      have e2 : b.data.toList.length = b.size := by rw [Array.length_toList]; rfl
      have : IntKind.i64.max = 9223372036854775807 := by decide
      omega
    simp only [binOp, Op.stringOp, h1, if_false]
    rfl
  · rename_i he
    rw [he] at hkind
    obtain ⟨a, rfl, hk, rfl⟩ := boolK_ok hk hx
    obtain ⟨b, rfl, hk, rfl⟩ := boolK_ok hk hy
    have hg : ∀ (op : BinOp) (ox oy : Operand), (eqGuard op t ox oy (.bool a) (.bool b)).run P w = .ok () w := fun op ox oy => by cases op <;> simp [eqGuard]
    cases op <;> simp only at hk <;> first | cases hk; done | skip
    · exact ⟨_, hk, _, hg _, run_eql_bool w t a b hkind, .bool _⟩
    · exact ⟨_, hk, _, hg _, run_neq_bool w t a b hkind, .bool _⟩
  · rename_i e he
    rw [he] at hkind
    have hkind : P.underlying t = some (.pointer e) := hkind
    have fin : ∀ (xv yv : Value) (b : Bool), (∀ op, ∀ (ox oy : Operand), (eqGuard op t ox oy xv yv).run P w = .ok () w) → (Op.equal t xv yv).run P w = .ok b w → (∀ op, op = .eql ∨ op = .neq → binOp op t xv yv = (do pure (.bool ((if op = .eql then id else not) (← Op.equal t xv yv))))) →
        (match (generalizing := false) op with | .eql => k (.t (.bool b)) | .neq => k (.t (.bool (!b))) | _ => none) = some r →
        ∃ v, k v = some r ∧ ∃ val, (∀ (ox oy : Operand), (eqGuard op t ox oy xv yv).run P w = .ok () w) ∧ (binOp op t xv yv).run P w = .ok val w ∧ AR3 w X cv h val v := by
      intro xv yv b hg he hb hk
      cases op <;> simp only at hk <;> first | cases hk; done | skip
      · exact ⟨_, hk, _, hg _, by rw [hb _ (.inl rfl)]; simp [he], .bool _⟩
      · exact ⟨_, hk, _, hg _, by rw [hb _ (.inr rfl)]; simp [he], .bool _⟩
    have gp : ∀ (p q : Option Addr) op, ∀ (ox oy : Operand), (eqGuard op t ox oy (.pointer p) (.pointer q)).run P w = .ok () w := fun p q op ox oy => by cases op <;> simp [eqGuard]
    have gb : ∀ (p q : Option Addr) op, op = .eql ∨ op = .neq → binOp op t (.pointer p) (.pointer q) = (do pure (.bool ((if op = .eql then id else not) (← Op.equal t (.pointer p) (.pointer q))))) := by
      rintro p q op (rfl | rfl) <;> simp [binOp]
    have ge1 : ∀ p, (Op.equal t (.pointer p) (.pointer none)).run P w = .ok p.isNone w := fun p => by
      show (Op.equalIn (9999 + 1) t (.pointer p) (.pointer none)).run P w = _
      generalize 9999 = d
      cases p <;> simp [Op.equalIn, run_underlying hkind]
    have ge2 : ∀ p, (Op.equal t (.pointer none) (.pointer p)).run P w = .ok p.isNone w := fun p => by
      show (Op.equalIn (9999 + 1) t (.pointer none) (.pointer p)).run P w = _
      generalize 9999 = d
      cases p <;> simp [Op.equalIn, run_underlying hkind]
    simp only at hk
    split at hk
    · rename_i a b
      rcases nilK_ok (w := w) (X := X) hk hx with ⟨rfl, rfl, hk⟩ | ⟨ax, rfl, hk⟩
      · rcases nilK_ok (w := w) (X := X) hk hy with ⟨rfl, rfl, hk⟩ | ⟨ay, rfl, hk⟩
        · exact fin _ _ true (gp _ _) (ge1 none) (gb _ _) hk
        · exact fin _ _ false (gp _ _) (ge2 _) (gb _ _) hk
      · rcases nilK_ok (w := w) (X := X) hk hy with ⟨rfl, rfl, hk⟩ | ⟨ay, rfl, hk⟩
        · exact fin _ _ false (gp _ _) (ge1 _) (gb _ _) hk
        · cases hk
    · rename_i kk off b
      obtain ⟨_, bb, _, _, _, hpx⟩ := hx
      subst hpx
      rcases nilK_ok (w := w) (X := X) hk hy with ⟨rfl, rfl, hk⟩ | ⟨ay, rfl, hk⟩
      · exact fin _ _ false (gp _ _) (ge1 _) (gb _ _) hk
      · cases hk
    · rename_i a kk off
      obtain ⟨_, bb, _, _, _, hpy⟩ := hy
      subst hpy
      rcases nilK_ok (w := w) (X := X) hk hx with ⟨rfl, rfl, hk⟩ | ⟨ax, rfl, hk⟩
      · exact fin _ _ false (gp _ _) (ge2 _) (gb _ _) hk
      · cases hk
    · cases hk
  · cases hk

omit hcx in
theorem unK_ok {w X cv h} {op : UnOp} {x : AV} {xv : Value} (hx : AR3 w X cv h xv x) {k : AV → Option β} (hk : unK op x k = some r) :
    ∃ v, k v = some r ∧ ∃ val, (Op.unary op xv).run P w = .ok val w ∧ AR3 w X cv h val v := by
  cases op <;> simp only [unK] at hk <;> first | cases hk; done | skip
  all_goals first
    | (obtain ⟨b, rfl, hk, rfl⟩ := boolK_ok hk hx; exact ⟨_, hk, _, by simp [Op.unary], .bool _⟩)
    | (obtain ⟨j, n, rfl, hk, rfl⟩ := intK_ok hk hx; exact ⟨_, hk, _, by simp [Op.unary, Op.intArith], .int _ _⟩)

omit hcx in
theorem cut_len {c v : Value} {n : Option Nat} {b len cap} (hc : c = .slice b len cap) {rows : List (List T)} (hl : rows.length = len) (h : CutOf c n v) : ∃ b' cap', v = .slice b' (tk n rows).length cap' := by
  cases n with
  | none => simp only [CutOf] at h; subst h; exact ⟨b, cap, by rw [hc, tk, hl]⟩
  | some n =>
    obtain ⟨b1, l1, c1, h1, h2, h3, h4⟩ := h
    rw [hc] at h1
    cases h1
    exact ⟨b, cap, by rw [h4, tk, takeN_take, List.length_take]; congr 1; omega⟩
omit hcx in
theorem own_len {w : World} {e s c n xs} (h1 : w.ownsRow 0 e s c n xs) : ∃ b cap, c = .slice b n cap := by
  rcases h1.2 with ⟨h, h'⟩ | ⟨g, cap', cur, h, _⟩
  · exact ⟨none, 0, by rw [h, h']⟩
  · exact ⟨_, _, h⟩
omit hcx in
theorem TR.sl_len {w X c s rows} (H : TR w X c (.sl s rows)) : ∃ b cap, c = .slice b rows.length cap := by
  cases H with
  | sl b ad len cap _ _ vals hl hc hs hb hv ht => exact ⟨b, cap, by rw [hl]⟩
omit hcx in
/-- What a value that stands for a row of the heap shows. -/
theorem rowp_len {base wb w X cv h} (H : HRel base wb w X cv h) {val kk ver n} (hv : AR3 w X cv h val (.rowp kk ver n)) :
    (∀ s t rows, look h kk = some (.row ver s t rows) → ∃ b cap, val = .slice b (tk n rows).length cap) ∧ (∀ s rows, look h kk = some (.irow ver s rows) → ∃ b cap, val = .slice b (tk n rows).length cap) := by
  refine ⟨fun s t rows hl => ?_, fun s rows hl => ?_⟩
  · obtain ⟨xs, o1, _⟩ := H.ent kk _ hl
    obtain ⟨b, cap, hc⟩ := own_len o1
    exact cut_len hc rfl (rowp_cur (w := w) (X := X) hv hl rfl)
  · have o1 : TR w X (cv kk) (.sl s rows) := H.ent kk _ hl
    obtain ⟨b, cap, hc⟩ := o1.sl_len
    exact cut_len hc rfl (rowp_cur (w := w) (X := X) hv hl rfl)
omit hcx in
theorem lenK_ok {base wb w X cv h} (H : HRel base wb w X cv h) {t e ty : TypeId} (ht : P.underlying t = some (.slice e)) {x : AV} {xv : Value} (hx : AR3 w X cv h xv x) {k : Int → List Nat → Option β} (hk : lenK h x k = some r) :
    ∃ n rd, k n rd = some r ∧ (Builtin.len_ #[t] ty #[xv]).run P w = .ok (.int .i64 n) w := by
  have fin : ∀ b (n : Nat) cap, (Builtin.len_ #[t] ty #[.slice b n cap]).run P w = .ok (.int .i64 n) w := fun b n cap => by simp [Builtin.len_, run_underlying ht, goInt]
  cases x with
  | t y =>
    obtain ⟨s, rows, rfl, hk⟩ := slK_ok (w := w) (X := X) hk hx
    obtain ⟨b, cap, rfl⟩ := TR.sl_len (w := w) (X := X) hx
    exact ⟨_, _, hk, fin _ _ _⟩
  | nils e s =>
    have : xv = _ := hx
    subst this
    exact ⟨_, _, hk, fin _ 0 _⟩
  | rowp kk ver n =>
    obtain ⟨q1, q2⟩ := rowp_len H hx
    simp only [lenK] at hk
    split at hk
    · rename_i v s t rows hl
      obtain ⟨h1, hk1⟩ := cond_some hk
      clear hk
      have h1 := beq_eq h1
      subst h1
      obtain ⟨b, cap, rfl⟩ := q1 _ _ _ hl
      exact ⟨_, _, hk1, fin _ _ _⟩
    · rename_i v s rows hl
      obtain ⟨h1, hk1⟩ := cond_some hk
      clear hk
      have h1 := beq_eq h1
      subst h1
      obtain ⟨b, cap, rfl⟩ := q2 _ _ hl
      exact ⟨_, _, hk1, fin _ _ _⟩
    · cases hk
  | _ => cases hk
end
end Go.AS
