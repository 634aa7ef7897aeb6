/- AS, part 4: operations that leave memory as it is. -/
import Derived.Test.YtgihgeppdllnmaaAs3
import Derived.Laws.Entries
import Derived.Laws.Strings
namespace Go.AS
open Go.RowKit
set_option linter.all false

/-! ### The table of types -/
def kindB (P : Program) (t : TypeId) : TyK → Bool
  | .bool => (match P.underlying t with | some .bool => true | _ => false)
  | .int k => (match P.underlying t with | some (.int k') => k == k' | _ => false)
  | .str => (match P.underlying t with | some .string => true | _ => false)
  | .slice e => (match P.underlying t with | some (.slice e') => e == e' | _ => false)
  | .ptr e => (match P.underlying t with | some (.pointer e') => e == e' | _ => false)
  | .func => (match P.underlying t with | some (.func _ _ _) => true | _ => false)
  | .struct fs => (match P.underlying t with | some (.struct fs') => fs'.toList.map (fun f => (f.offset, f.type)) == fs && fs'.toList.all (fun f => (P.info? f.type).isSome) | _ => false)
  | .arr n e => (match P.underlying t with | some (.array n' e') => n == n' && e == e' | _ => false)
  | .map k e => (match P.underlying t with | some (.map k' e') => (k == k' && e == e') && ((match P.underlying k with | some .string => true | _ => false) && (match P.info? e with | some i => (match i.zero with | some (.bool false) => true | _ => false) | none => false)) | _ => false)
  | _ => true
def tyB (P : Program) (t : TypeId) (i : TyI) : Bool := match P.info? t with
  | none => false
  | some inf => inf.size == i.size && (inf.bytes == i.bytes && (kindB P t i.kind && (match i.zero with
    | [] => true
    | z => z.length == i.size && (match inf.zero with | some v => zcrs v.cells.toList z | none => false))))
def tysB (P : Program) : (t : Nat) → List TyI → Bool
  | _, [] => true
  | t, i :: l => tyB P t i && tysB P (t + 1) l

def KindOk (P : Program) (t : TypeId) : TyK → Prop
  | .bool => P.underlying t = some .bool
  | .int k => P.underlying t = some (.int k)
  | .str => P.underlying t = some .string
  | .slice e => P.underlying t = some (.slice e)
  | .ptr e => P.underlying t = some (.pointer e)
  | .func => ∃ a b c, P.underlying t = some (.func a b c)
  | .struct fs => ∃ fs', P.underlying t = some (.struct fs') ∧ fs'.toList.map (fun f => (f.offset, f.type)) = fs ∧ ∀ f ∈ fs'.toList, (P.info? f.type).isSome = true
  | .arr n e => P.underlying t = some (.array n e)
  | .map k e => P.underlying t = some (.map k e) ∧ P.underlying k = some .string ∧ ∃ i, P.info? e = some i ∧ i.zero = some (.bool false)
  | _ => True
def ZOk (v : Value) (z : ZC) : Prop := ∀ w X cv h, AR1 w X cv h v z.av ∧ TR w X v z.tt
structure TyOk (P : Program) (t : TypeId) (i : TyI) : Prop where
  info : ∃ inf, P.info? t = some inf ∧ inf.size = i.size ∧ inf.bytes = i.bytes ∧ (i.zero ≠ [] → i.zero.length = i.size ∧ ∃ v, inf.zero = some v ∧ All2 ZOk v.cells.toList i.zero)
  kind : KindOk P t i.kind
theorem zok {v : Value} {z : ZC} (h : ZCR v z = true) : ZOk v z := by
  intro w X cv hh
  cases z with
  | t x =>
    cases x with
    | bool b =>
      cases v <;> simp only [ZCR] at h <;> first | cases h | skip
      simp only [beq_iff_eq] at h; subst h; exact ⟨.bool _, .bool _⟩
    | int k n =>
      cases v <;> simp only [ZCR] at h <;> first | cases h | skip
      simp only [Bool.and_eq_true, beq_iff_eq] at h; obtain ⟨rfl, rfl⟩ := h; exact ⟨.int _ _, .int _ _⟩
    | str l =>
      cases v <;> simp only [ZCR] at h <;> first | cases h | skip
      simp only [beq_iff_eq] at h; subst h; exact ⟨.str _, .str _⟩
    | pnil =>
      simp only [ZCR] at h
      split at h
      · exact ⟨.pnil, .pnil⟩
      · cases h
    | mnil =>
      simp only [ZCR] at h
      split at h
      · exact ⟨.mnil, .mnil⟩
      · cases h
    | sl s rows => simp only [ZCR] at h; cases h
    | pt s c => simp only [ZCR] at h; cases h
  | nils e s =>
    simp only [ZCR] at h
    split at h
    · exact ⟨rfl, .sl none ⟨0, 0, none⟩ 0 0 s [] (fun _ _ => undef) rfl (Nat.le_refl _) (by simp) (by simp) (by simp) (by simp)⟩
    · cases h
theorem zoks : ∀ {l : List Value} {m : List ZC}, zcrs l m = true → All2 ZOk l m
  | [], [], _ => trivial
  | v :: l, z :: m, h => by
    simp only [zcrs, Bool.and_eq_true] at h
    exact ⟨zok h.1, zoks h.2⟩
  | [], _ :: _, h => by simp [zcrs] at h
  | _ :: _, [], h => by simp [zcrs] at h
theorem kindOk {P : Program} {t : TypeId} {k : TyK} (h : kindB P t k = true) : KindOk P t k := by
  cases k with
  | bool => simp only [kindB] at h; split at h <;> first | assumption | cases h
  | str => simp only [kindB] at h; split at h <;> first | assumption | cases h
  | int k =>
    simp only [kindB] at h; split at h
    · rename_i hu; simp only [KindOk, hu]; simp at h; rw [h]
    · cases h
  | slice k =>
    simp only [kindB] at h; split at h
    · rename_i hu; simp only [KindOk, hu]; simp at h; rw [h]
    · cases h
  | ptr k =>
    simp only [kindB] at h; split at h
    · rename_i hu; simp only [KindOk, hu]; simp at h; rw [h]
    · cases h
  | func =>
    simp only [kindB] at h; split at h
    · rename_i hu; exact ⟨_, _, _, hu⟩
    · cases h
  | struct fs =>
    simp only [kindB] at h; split at h
    · rename_i hu; simp only [Bool.and_eq_true, beq_iff_eq, List.all_eq_true] at h; exact ⟨_, hu, h⟩
    · cases h
  | arr n e =>
    simp only [kindB] at h; split at h
    · rename_i hu; simp only [KindOk, hu]; simp at h; rw [h.1, h.2]
    · cases h
  | map k e =>
    simp only [kindB] at h; split at h
    · rename_i hu
      simp only [Bool.and_eq_true, beq_iff_eq] at h
      obtain ⟨⟨rfl, rfl⟩, h1, h2⟩ := h
      refine ⟨hu, ?_, ?_⟩
      · split at h1 <;> first | assumption | cases h1
      · split at h2
        · rename_i i hi
          refine ⟨i, hi, ?_⟩
          split at h2 <;> first | assumption | cases h2
        · cases h2
    · cases h
  | tuple l => trivial
  | other => trivial
theorem tyOk {P : Program} {t : TypeId} {i : TyI} (h : tyB P t i = true) : TyOk P t i := by
  unfold tyB at h
  split at h
  · cases h
  · rename_i inf hi
    simp only [Bool.and_eq_true, beq_iff_eq] at h
    obtain ⟨h1, h2, h3, h4⟩ := h
    refine ⟨⟨inf, hi, h1, h2, fun hz => ?_⟩, kindOk h3⟩
    split at h4
    · rename_i he; exact absurd he hz
    · simp only [Bool.and_eq_true, beq_iff_eq] at h4
      obtain ⟨h5, h6⟩ := h4
      split at h6
      · rename_i v hv; exact ⟨h5, v, hv, zoks h6⟩
      · cases h6
theorem tysOk {P : Program} : ∀ {l : List TyI} {t : Nat}, tysB P t l = true → ∀ (j : Nat) i, l[j]? = some i → TyOk P (t + j) i
  | i :: l, t, h, 0, i', hi => by
    simp only [tysB, Bool.and_eq_true] at h
    simp at hi
    subst hi
    exact tyOk h.1
  | i :: l, t, h, j + 1, i', hi => by
    simp only [tysB, Bool.and_eq_true] at h
    have := tysOk h.2 j i' (by simpa using hi)
    rwa [Nat.add_assoc, Nat.add_comm 1 j] at this

structure CxOk (P : Program) (cx : Cx) : Prop where
  ty : ∀ (t : Nat) i, cx.ty[t]? = some i → TyOk P t i
theorem CxOk.of {P : Program} {cx : Cx} (h : tysB P 0 cx.ty = true) : CxOk P cx := ⟨fun t i hi => by have := tysOk h t i hi; rwa [Nat.zero_add] at this⟩
theorem tyi_cases (cx : Cx) (t : TypeId) : cx.ty[t]? = some (cx.tyi t) ∨ cx.tyi t = TyI.no := by
  unfold Cx.tyi
  rw [nth_get]
  cases h : cx.ty[t]? with
  | none => exact .inr rfl
  | some i => exact .inl rfl

section
variable {P : Program} {cx : Cx} (hcx : CxOk P cx)
include hcx
theorem CxOk.kind (t : TypeId) : KindOk P t (cx.tyi t).kind := by
  rcases tyi_cases cx t with h | h
  · exact (hcx.ty t _ h).kind
  · rw [h]; trivial
theorem CxOk.at {t : TypeId} (h : (cx.tyi t).kind ≠ .other ∨ 1 ≤ cx.sz t) : TyOk P t (cx.tyi t) := by
  rcases tyi_cases cx t with h' | h'
  · exact hcx.ty t _ h'
  · rcases h with h | h
    · rw [h'] at h; exact absurd rfl h
    · unfold Cx.sz at h; rw [h'] at h; exact absurd h (by decide)
theorem CxOk.size {t : TypeId} (h : (cx.tyi t).kind ≠ .other ∨ 1 ≤ cx.sz t) : ∃ inf, P.info? t = some inf ∧ inf.size = cx.sz t ∧ inf.bytes = (cx.tyi t).bytes := by
  obtain ⟨inf, h1, h2, h3, _⟩ := (hcx.at h).info
  exact ⟨inf, h1, h2, h3⟩
end
theorem run_info {P : Program} {t : TypeId} {inf : TypeInfo} (h : P.info? t = some inf) (w : World) : (typeInfo t).run P w = .ok inf w := by simp [typeInfo, h]
theorem run_size {P : Program} {t : TypeId} {inf : TypeInfo} (h : P.info? t = some inf) (w : World) : (sizeOf t).run P w = .ok inf.size w := by simp [sizeOf, run_info h]

/-! ### What an operand is -/
theorem constV_ok (w X cv h) (v : Value) : AR3 w X cv h v (constV v) := by
  unfold constV
  split
  · exact .bool _
  · exact .int _ _
  · exact .str _
  · exact .pnil
  · trivial
theorem opd_ok {w X cv h} {s : St} {a : Act} (hs : All2 (AR3 w X cv h) a.tmps.toList s.slots) (x : Operand) : AR3 w X cv h (a.eval x) (opd s x) := by
  cases x with
  | tmp t =>
    have := All2.nth (R := AR3 w X cv h) undef .dead t hs trivial
    simpa [Act.eval, opd, Array.getD_eq_getD_getElem?] using this
  | const v => exact constV_ok w X cv h v
  | global g => trivial
  | func f => exact ⟨[], rfl, trivial⟩
theorem opdT_ok {w X cv h} {cx : Cx} {s : St} {a : Act} (hs : All2 (AR3 w X cv h) a.tmps.toList s.slots) (t : TypeId) (x : Operand) : AR3 w X cv h (a.eval x) (opdT cx s t x) := by
  unfold opdT
  split
  · split
    · rfl
    · trivial
  · rename_i cs
    cases hz : zcrs cs.toList (cx.tyi t).zero with
    | false => trivial
    | true => exact ⟨cs.toList, rfl, All2.map_r _ ((zoks hz).imp fun a b hb => (hb w X cv h).1)⟩
  · exact opd_ok hs x

/-! ### Looking at a value -/
section
variable {β : Type} {r : β} {w : World} {X : Nat → Prop} {cv : CV} {h : Heap} {val : Value} {v : AV}
theorem tK_ok {k : T → Option β} (H : AV.tK v k = some r) (hv : AR3 w X cv h val v) : ∃ x, v = .t x ∧ k x = some r ∧ TR w X val x := by
  cases v <;> simp only [AV.tK] at H <;> first | exact ⟨_, rfl, H, hv⟩ | cases H
theorem boolK_ok {k : Bool → Option β} (H : AV.boolK v k = some r) (hv : AR3 w X cv h val v) : ∃ b, v = .t (.bool b) ∧ k b = some r ∧ val = .bool b := by
  obtain ⟨x, rfl, hk, ht⟩ := tK_ok H hv
  cases x <;> simp only [T.boolK] at hk <;> first | cases hk | skip
  cases ht
  exact ⟨_, rfl, hk, rfl⟩
theorem intK_ok {k : IntKind → Int → Option β} (H : AV.intK v k = some r) (hv : AR3 w X cv h val v) : ∃ j n, v = .t (.int j n) ∧ k j n = some r ∧ val = .int j n := by
  obtain ⟨x, rfl, hk, ht⟩ := tK_ok H hv
  cases x <;> simp only [T.intK] at hk <;> first | cases hk | skip
  cases ht
  exact ⟨_, _, rfl, hk, rfl⟩
theorem strK_ok {k : Str → Option β} (H : AV.strK v k = some r) (hv : AR3 w X cv h val v) : ∃ s, v = .t (.str s.data.toList) ∧ k s.data.toList = some r ∧ val = .string s := by
  obtain ⟨x, rfl, hk, ht⟩ := tK_ok H hv
  cases x <;> simp only [T.strK] at hk <;> first | cases hk | skip
  cases ht
  exact ⟨_, rfl, hk, rfl⟩
theorem slK_ok {x : T} {k : Nat → List (List T) → Option β} (H : T.slK x k = some r) (ht : TR w X val x) : ∃ s rows, x = .sl s rows ∧ k s rows = some r := by
  cases x <;> simp only [T.slK] at H <;> first | cases H | skip
  exact ⟨_, _, rfl, H⟩
theorem ptK_ok {x : T} {k : Nat → List T → Option β} (H : T.ptK x k = some r) (ht : TR w X val x) : ∃ s row a, x = .pt s row ∧ k s row = some r ∧ val = .pointer (some a) := by
  cases x <;> simp only [T.ptK] at H <;> first | cases H | skip
  cases ht
  exact ⟨_, _, _, rfl, H, rfl⟩
theorem nilK_ok {x : T} {k : Bool → Option β} (H : T.nilK x k = some r) (ht : TR w X val x) : (x = .pnil ∧ val = .pointer none ∧ k true = some r) ∨ (∃ a, val = .pointer (some a) ∧ k false = some r) := by
  cases x <;> simp only [T.nilK] at H <;> first | cases H | skip
  · cases ht; exact .inl ⟨rfl, rfl, H⟩
  · cases ht; exact .inr ⟨_, rfl, H⟩
theorem same_ok {a b : IntKind} (h : IntKind.same a b = true) : a = b := by cases a <;> cases b <;> first | rfl | exact absurd h (by decide)
theorem cond_some {c : Bool} {x : Option β} (H : cond c x none = some r) : c = true ∧ x = some r := by cases c <;> simp at H; exact ⟨rfl, H⟩
end

end Go.AS
