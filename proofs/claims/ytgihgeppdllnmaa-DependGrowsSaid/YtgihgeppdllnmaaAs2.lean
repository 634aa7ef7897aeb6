/- AS, part 2: what it means that a state of the machine is told by an abstract state, and that a step leaves standing what was told. -/
import Derived.Test.YtgihgeppdllnmaaAs1
import Derived.LoopN
import Derived.Laws.Cells
import Derived.Laws.CopyRow
import Derived.Maps.AppendAt
import Derived.Below
namespace Go.AS
open Go.RowKit
set_option linter.all false

/-! ### Lists -/
def All2 {α β : Type} (R : α → β → Prop) : List α → List β → Prop
  | [], [] => True
  | a :: l, b :: m => R a b ∧ All2 R l m
  | _, _ => False
theorem All2.length {α β : Type} {R : α → β → Prop} : ∀ {l : List α} {m : List β}, All2 R l m → l.length = m.length
  | [], [], _ => rfl
  | _ :: _, _ :: _, h => by simp [All2.length h.2]
theorem All2.imp {α β : Type} {R S : α → β → Prop} (hi : ∀ a b, R a b → S a b) : ∀ {l : List α} {m : List β}, All2 R l m → All2 S l m
  | [], [], _ => trivial
  | _ :: _, _ :: _, h => ⟨hi _ _ h.1, All2.imp hi h.2⟩
theorem All2.append {α β : Type} {R : α → β → Prop} : ∀ {l : List α} {m : List β} {l' : List α} {m' : List β}, All2 R l m → All2 R l' m' → All2 R (l ++ l') (m ++ m')
  | [], [], _, _, _, h' => h'
  | _ :: _, _ :: _, _, _, h, h' => ⟨h.1, All2.append h.2 h'⟩
theorem All2.get {α β : Type} {R : α → β → Prop} : ∀ {l : List α} {m : List β} (i : Nat) (a : α) (b : β), All2 R l m → l[i]? = some a → m[i]? = some b → R a b
  | _ :: _, _ :: _, 0, _, _, h, ha, hb => by simp at ha hb; subst ha hb; exact h.1
  | _ :: _, _ :: _, i + 1, _, _, h, ha, hb => All2.get i _ _ h.2 (by simpa using ha) (by simpa using hb)
theorem All2.of_get {α β : Type} {R : α → β → Prop} : ∀ {l : List α} {m : List β}, l.length = m.length → (∀ (i : Nat) a b, l[i]? = some a → m[i]? = some b → R a b) → All2 R l m
  | [], [], _, _ => trivial
  | a :: l, b :: m, hl, h => ⟨h 0 a b rfl rfl, All2.of_get (by simpa using hl) fun i x y hx hy => h (i + 1) x y (by simpa using hx) (by simpa using hy)⟩
  | [], _ :: _, hl, _ => by simp at hl
  | _ :: _, [], hl, _ => by simp at hl
theorem All2.map_r {α β γ : Type} {R : α → γ → Prop} (f : β → γ) : ∀ {l : List α} {m : List β}, All2 (fun a b => R a (f b)) l m → All2 R l (m.map f)
  | [], [], _ => trivial
  | _ :: _, _ :: _, h => ⟨h.1, All2.map_r f h.2⟩

theorem nth_get {α : Type} (d : α) : ∀ (l : List α) (i : Nat), nth d l i = (l[i]?).getD d
  | [], i => by simp [nth]
  | _ :: _, 0 => by simp [nth]
  | _ :: l, i + 1 => by simp [nth, nth_get d l i]
theorem setN_set {α : Type} : ∀ (l : List α) (i : Nat) (x : α), setN l i x = l.set i x
  | [], i, x => by simp [setN]
  | _ :: _, 0, x => by simp [setN]
  | _ :: l, i + 1, x => by simp [setN, setN_set l i x]
theorem takeN_take {α : Type} : ∀ (n : Nat) (l : List α), takeN n l = l.take n
  | 0, l => by simp [takeN]
  | n + 1, [] => by simp [takeN]
  | n + 1, x :: l => by simp [takeN, takeN_take n l]
theorem dropN_drop {α : Type} : ∀ (n : Nat) (l : List α), dropN n l = l.drop n
  | 0, l => by simp [dropN]
  | n + 1, [] => by simp [dropN]
  | n + 1, x :: l => by simp [dropN, dropN_drop n l]
theorem rep_replicate {α : Type} (x : α) : ∀ n, rep x n = List.replicate n x
  | 0 => rfl
  | n + 1 => by simp [rep, rep_replicate x n, List.replicate_succ]
theorem All2.set {α β : Type} {R : α → β → Prop} : ∀ {l : List α} {m : List β} (i : Nat) (a : α) (b : β), All2 R l m → R a b → All2 R (l.set i a) (setN m i b)
  | [], [], i, _, _, _, _ => by simp [setN, All2]
  | _ :: _, _ :: _, 0, _, _, h, hr => ⟨hr, h.2⟩
  | _ :: _, _ :: _, i + 1, _, _, h, hr => ⟨h.1, All2.set i _ _ h.2 hr⟩
theorem All2.nth {α β : Type} {R : α → β → Prop} (a : α) (b : β) : ∀ {l : List α} {m : List β} (i : Nat), All2 R l m → R a b → R ((l[i]?).getD a) (nth b m i)
  | [], [], i, _, h => by simpa [AS.nth] using h
  | _ :: _, _ :: _, 0, h, _ => by simpa [AS.nth] using h.1
  | _ :: _, _ :: _, i + 1, h, hd => by simpa [AS.nth] using All2.nth a b i h.2 hd

theorem look_upd (h : Heap) (k : Nat) (e : Ent) : ∀ k', look (upd h k e) k' = if k = k' then some e else look h k' := by
  intro k'
  unfold look
  induction h with
  | nil =>
    simp only [upd, asc]
    cases hb : Nat.beq k k' with
    | true => have := Nat.eq_of_beq_eq_true hb; simp [this]
    | false => have : k ≠ k' := Nat.ne_of_beq_eq_false hb; simp [this]
  | cons p h ih =>
    obtain ⟨k1, e1⟩ := p
    simp only [upd]
    cases hb : Nat.beq k1 k with
    | true =>
      have := Nat.eq_of_beq_eq_true hb
      subst this
      simp only [cond_true, asc]
      cases hb' : Nat.beq k1 k' with
      | true => have := Nat.eq_of_beq_eq_true hb'; simp [this]
      | false => have : k1 ≠ k' := Nat.ne_of_beq_eq_false hb'; simp [this]
    | false =>
      have hne := Nat.ne_of_beq_eq_false hb
      simp only [cond_false, asc]
      cases hb' : Nat.beq k1 k' with
      | true =>
        have := Nat.eq_of_beq_eq_true hb'
        subst this
        simp [Ne.symm hne]
      | false => simpa using ih
theorem look_upd_same (h : Heap) (k : Nat) (e : Ent) : look (upd h k e) k = some e := by simp [look_upd]
theorem look_upd_other (h : Heap) {k k' : Nat} (e : Ent) (hk : k ≠ k') : look (upd h k e) k' = look h k' := by simp [look_upd, hk]
theorem beq_eq {a b : Nat} (h : Nat.beq a b = true) : a = b := Nat.eq_of_beq_eq_true h
theorem mem_iff : ∀ (l : List Nat) (n : Nat), mem l n = true ↔ n ∈ l
  | [], n => by simp [mem]
  | k :: l, n => by
    simp only [mem]
    cases hb : Nat.beq k n with
    | true => have := beq_eq hb; simp [this]
    | false => have : k ≠ n := Nat.ne_of_beq_eq_false hb; simp [mem_iff l n, Ne.symm this]

/-! ### Addresses -/
theorem add_zero' (a : Addr) : a.add 0 = a := by simp [Addr.add]
theorem add_block (a : Addr) (n : Nat) : (a.add n).block = a.block := by unfold Addr.add; split <;> rfl
theorem add_add (a : Addr) (m n : Nat) : (a.add m).add n = a.add (m + n) := by
  unfold Addr.add
  by_cases h1 : m = 0 <;> by_cases h2 : n = 0 <;> simp [h1, h2, Nat.add_assoc]
theorem add_lit (b n : Nat) : (⟨b, 0, none⟩ : Addr).add n = ⟨b, n, none⟩ := by unfold Addr.add; split <;> simp_all

/-! ### Values that stay -/
inductive TR (w : World) (X : Nat → Prop) : Value → T → Prop
  | bool (b : Bool) : TR w X (.bool b) (.bool b)
  | int (k : IntKind) (n : Int) : TR w X (.int k n) (.int k n)
  | str (s : ByteArray) : TR w X (.string s) (.str s.data.toList)
  | sl (base : Option Addr) (ad : Addr) (len cap s : Nat) (rows : List (List T)) (vals : Nat → Nat → Value)
      (hl : rows.length = len) (hc : len ≤ cap) (hs : ∀ (j : Nat) r, rows[j]? = some r → r.length = s)
      (hb : 0 < len → base = some ad ∧ ¬ X ad.block ∧ ad.block < w.heap.size)
      (hv : ∀ (j : Nat) r (i : Nat) x, rows[j]? = some r → r[i]? = some x → w.cell? (ad.add (j * s + i)) = some (vals j i))
      (ht : ∀ (j : Nat) r (i : Nat) x, rows[j]? = some r → r[i]? = some x → TR w X (vals j i) x) : TR w X (.slice base len cap) (.sl s rows)
  | pnil : TR w X (.pointer none) .pnil
  | mnil : TR w X (.map none) .mnil
  | pt (a : Addr) (s : Nat) (cells : List T) (vals : Nat → Value) (hs : cells.length = s) (hx : ¬ X a.block) (hb : a.block < w.heap.size)
      (hv : ∀ (i : Nat) x, cells[i]? = some x → w.cell? (a.add i) = some (vals i))
      (ht : ∀ (i : Nat) x, cells[i]? = some x → TR w X (vals i) x) : TR w X (.pointer (some a)) (.pt s cells)

/-- What is not open stays, and nothing old is opened. -/
structure Keep (w : World) (X : Nat → Prop) (w' : World) (X' : Nat → Prop) : Prop where
  size : w.heap.size ≤ w'.heap.size
  blk : ∀ b, b < w.heap.size → ¬ X b → w'.heap[b]? = w.heap[b]?
  xold : ∀ b, b < w.heap.size → X' b → X b
theorem Keep.refl (w : World) (X : Nat → Prop) : Keep w X w X := ⟨Nat.le_refl _, fun _ _ _ => rfl, fun _ _ h => h⟩
theorem TR.mono {w w' : World} {X X' : Nat → Prop} (hk : Keep w X w' X') {v : Value} {x : T} (h : TR w X v x) : TR w' X' v x := by
  induction h with
  | bool b => exact .bool b
  | int k n => exact .int k n
  | str s => exact .str s
  | pnil => exact .pnil
  | mnil => exact .mnil
  | sl base ad len cap s rows vals hl hc hs hb hv ht ih =>
    refine .sl base ad len cap s rows vals hl hc hs (fun h0 => ?_) (fun j r i x hj hi => ?_) ih
    · obtain ⟨h1, h2, h3⟩ := hb h0
      exact ⟨h1, fun hx => h2 (hk.xold _ h3 hx), Nat.lt_of_lt_of_le h3 hk.size⟩
    · have h0 : 0 < len := by
        have := (List.getElem?_eq_some_iff.1 hj).1
        omega
      obtain ⟨_, h2, h3⟩ := hb h0
      rw [World.cell?_of_block (w := w) (by rw [add_block]; exact hk.blk _ h3 h2)]
      exact hv j r i x hj hi
  | pt a s cells vals hs hx hb hv ht ih =>
    refine .pt a s cells vals hs (fun h => hx (hk.xold _ hb h)) (Nat.lt_of_lt_of_le hb hk.size) (fun i x hi => ?_) ih
    rw [World.cell?_of_block (w := w) (by rw [add_block]; exact hk.blk _ hb hx)]
    exact hv i x hi
theorem TR.one {w : World} {X : Nat → Prop} {v : Value} {x : T} (h : TR w X v x) : v.oneCell' = true := by cases h <;> rfl

/-! ### Entries and values -/
def rowVer : Ent → Option Nat
  | .row v _ _ _ => some v
  | .irow v _ _ => some v
  | _ => none
def rowSize : Ent → Nat
  | .row _ s _ _ => s
  | .irow _ s _ => s
  | _ => 0
def isBox : Ent → Bool
  | .box _ _ | .ibox _ | .map _ => true
  | _ => false
def CutOf (c : Value) (n : Option Nat) (v : Value) : Prop := match n with
  | none => v = c
  | some n => ∃ b len cap, c = .slice b len cap ∧ n ≤ len ∧ len ≤ cap ∧ v = .slice b n cap
abbrev CV := Nat → Value

def AR0 (w : World) (X : Nat → Prop) (cv : CV) (h : Heap) (v : Value) : AV → Prop
  | .t x => TR w X v x
  | .nils _ _ => v = .slice none 0 0
  | .rowp k ver n => (∃ b l c, v = .slice b l c) ∧ ∃ e v', look h k = some e ∧ rowVer e = some v' ∧ ver ≤ v' ∧ (ver = v' → CutOf (cv k) n v)
  | .ptr k off => ∃ e b, look h k = some e ∧ isBox e = true ∧ cv k = .pointer (some ⟨b, 0, none⟩) ∧ v = .pointer (some ((⟨b, 0, none⟩ : Addr).add off))
  | .elp k ver i off => (∃ a, v = .pointer (some a)) ∧ ∃ e v', look h k = some e ∧ rowVer e = some v' ∧ ver ≤ v' ∧
      (ver = v' → ∃ a len cap, cv k = .slice (some a) len cap ∧ i < len ∧ v = .pointer (some (a.add (i * rowSize e + off))))
  | .tel s row off => ∃ a, v = .pointer (some (a.add off)) ∧ TR w X (.pointer (some a)) (.pt s row)
  | .mapp k => ∃ l b, look h k = some (.map l) ∧ cv k = .map (some b) ∧ v = .map (some b)
  | .undef => v = undef
  | .dead => True
  | _ => False
def AR1 (w : World) (X : Nat → Prop) (cv : CV) (h : Heap) (v : Value) : AV → Prop
  | .clo f caps => ∃ l, v = .func (.func f) #[] l.toArray ∧ All2 (AR0 w X cv h) l caps
  | a => AR0 w X cv h v a
def AR2 (w : World) (X : Nat → Prop) (cv : CV) (h : Heap) (v : Value) : AV → Prop
  | .agg cells => ∃ l, v = .agg l.toArray ∧ All2 (AR1 w X cv h) l cells
  | a => AR1 w X cv h v a
def AR3 (w : World) (X : Nat → Prop) (cv : CV) (h : Heap) (v : Value) : AV → Prop
  | .tup parts => ∃ l, v = .tuple l.toArray ∧ All2 (AR2 w X cv h) l parts
  | a => AR2 w X cv h v a
theorem AR0.to1 {w X cv h v a} (H : AR0 w X cv h v a) : AR1 w X cv h v a := by cases a <;> first | exact H | exact H.elim
theorem AR1.to2 {w X cv h v a} (H : AR1 w X cv h v a) : AR2 w X cv h v a := by cases a <;> first | exact H | exact H.elim
theorem AR2.to3 {w X cv h v a} (H : AR2 w X cv h v a) : AR3 w X cv h v a := by cases a <;> first | exact H | exact H.elim

def ptrBlock : Value → Option Nat
  | .pointer (some a) => some a.block
  | _ => none
/-- The block that an entry holds open. -/
def mapBlock : Value → Option Nat
  | .map (some b) => some b
  | _ => none
def mblk (cv : CV) (k : Nat) : Ent → Option Nat
  | .box _ _ => ptrBlock (cv k)
  | .row _ _ _ _ => (cv k).ownBlock
  | .map _ => mapBlock (cv k)
  | _ => none
def RowsR (w : World) (X : Nat → Prop) (s : Nat) (xs : List Value) (rows : List (List T)) : Prop :=
  ∀ (j : Nat) r, rows[j]? = some r → r.length = s ∧ ∀ (i : Nat) x, r[i]? = some x → ∃ u, xs[j * s + i]? = some u ∧ TR w X u x
def EntryR (e : MapEntry) (a : Str) : Prop := ∃ s : ByteArray, e.key = .string s ∧ s.data.toList = a ∧ e.val = .bool true
def EntR (w : World) (X : Nat → Prop) (cv : CV) (h : Heap) (k : Nat) : Ent → Prop
  | .box sh cells => ∃ b arr t, cv k = .pointer (some ⟨b, 0, none⟩) ∧ w.heap[b]? = some (.cells arr t (0, 0)) ∧ X b ∧ All2 (AR1 w X cv h) arr.toList cells
  | .ibox cells => ∃ b, cv k = .pointer (some ⟨b, 0, none⟩) ∧ TR w X (cv k) (.pt cells.length cells)
  | .row v s e rows => ∃ xs, w.ownsRow 0 e s (cv k) rows.length xs ∧ (∀ b, (cv k).ownBlock = some b → X b) ∧ RowsR w X s xs rows ∧ 1 ≤ s
  | .irow v s rows => TR w X (cv k) (.sl s rows)
  | .map l => ∃ b es clock, cv k = .map (some b) ∧ w.heap[b]? = some (.map es clock) ∧ X b ∧ All2 EntryR es.toList l
def Mof (h : Heap) (cv : CV) (b : Nat) : Prop := ∃ k e, look h k = some e ∧ mblk cv k e = some b
structure HRel (base : Nat) (wb w : World) (X : Nat → Prop) (cv : CV) (h : Heap) : Prop where
  below : Below base wb w
  bsz : base ≤ w.heap.size
  xge : ∀ b, X b → base ≤ b ∧ b < w.heap.size
  ent : ∀ k e, look h k = some e → EntR w X cv h k e
  sep : ∀ k k' e e' b, look h k = some e → look h k' = some e' → mblk cv k e = some b → mblk cv k' e' = some b → k = k'

theorem HRel.mx {base wb w X cv h} (H : HRel base wb w X cv h) {b : Nat} (hm : Mof h cv b) : X b := by
  obtain ⟨k, e, hk, hb⟩ := hm
  have he := H.ent k e hk
  cases e with
  | box sh cells =>
    obtain ⟨b', arr, t, h1, h2, h3, _⟩ := he
    simp [mblk, h1, ptrBlock] at hb
    exact hb ▸ h3
  | row v s e rows =>
    obtain ⟨xs, h1, h2, _⟩ := he
    exact h2 b hb
  | ibox _ => simp [mblk] at hb
  | irow _ _ _ => simp [mblk] at hb
  | map l =>
    obtain ⟨b', es, cl, h1, h2, h3, _⟩ := he
    simp [mblk, h1, mapBlock] at hb
    exact hb ▸ h3

/-- How an entry may go on. -/
def EntLe (e e' : Ent) : Prop := match e, e' with
  | .box _ _, .box _ _ | .box _ _, .ibox _ | .ibox _, .ibox _ | .map _, .map _ => True
  | .row v s _ _, .row v' s' _ _ | .row v s _ _, .irow v' s' _ | .irow v s _, .irow v' s' _ => v ≤ v' ∧ s = s'
  | _, _ => False
theorem EntLe.refl (e : Ent) : EntLe e e := by cases e <;> simp [EntLe]

/-- A step: what is open may change, the rest stays; entries go on; what is not told as written stays. -/
structure Go1 (wr : List Nat) (w : World) (X : Nat → Prop) (cv : CV) (h : Heap) (w' : World) (X' : Nat → Prop) (cv' : CV) (h' : Heap) : Prop where
  size : w.heap.size ≤ w'.heap.size
  blk : ∀ b, b < w.heap.size → ¬ Mof h cv b → w'.heap[b]? = w.heap[b]?
  xold : ∀ b, b < w.heap.size → X' b → X b
  xkeep : ∀ b, b < w.heap.size → X b → ¬ Mof h cv b → X' b
  own : ∀ b, b < w.heap.size → Mof h' cv' b → Mof h cv b
  ent : ∀ k e, look h k = some e → ∃ e', look h' k = some e' ∧ EntLe e e' ∧ (isBox e = true → cv' k = cv k) ∧ (rowVer e = rowVer e' → cv' k = cv k)
  wr : ∀ k, k ∉ wr → look h' k = look h k ∧ cv' k = cv k
theorem Go1.refl (w : World) (X : Nat → Prop) (cv : CV) (h : Heap) (wr : List Nat) : Go1 wr w X cv h w X cv h :=
  ⟨Nat.le_refl _, fun _ _ _ => rfl, fun _ _ h => h, fun _ _ h _ => h, fun _ _ h => h, fun k e hk => ⟨e, hk, .refl e, fun _ => rfl, fun _ => rfl⟩, fun _ _ => ⟨rfl, rfl⟩⟩

theorem EntLe.trans {a b c : Ent} (h1 : EntLe a b) (h2 : EntLe b c) : EntLe a c := by
  cases a <;> cases b <;> cases c <;> simp [EntLe] at * <;> omega
theorem EntLe.ver {a b : Ent} (h : EntLe a b) {v : Nat} (hv : rowVer a = some v) : ∃ v', rowVer b = some v' ∧ v ≤ v' ∧ rowSize a = rowSize b := by
  cases a <;> cases b <;> simp [EntLe, rowVer, rowSize] at * <;> omega
theorem EntLe.box {a b : Ent} (h : EntLe a b) (hb : isBox a = true) : isBox b = true := by
  cases a <;> cases b <;> simp [EntLe, isBox] at *
theorem Go1.keep {wr w X cv h w' X' cv' h'} {base wb} (H : HRel base wb w X cv h) (G : Go1 wr w X cv h w' X' cv' h') : Keep w X w' X' :=
  ⟨G.size, fun b hb hx => G.blk b hb fun hm => hx (H.mx hm), G.xold⟩

theorem AR0.mono {wr w X cv h w' X' cv' h'} (K : Keep w X w' X') (G : Go1 wr w X cv h w' X' cv' h') {v : Value} {a : AV} (H : AR0 w X cv h v a) : AR0 w' X' cv' h' v a := by
  cases a with
  | t x => exact TR.mono K H
  | nils e s => exact H
  | rowp k ver n =>
    obtain ⟨hs, e, v', h1, h2, h3, h4⟩ := H
    obtain ⟨e', g1, g2, g3, g4⟩ := G.ent k e h1
    obtain ⟨v'', g5, g6, _⟩ := g2.ver h2
    refine ⟨hs, e', v'', g1, g5, Nat.le_trans h3 g6, fun hv => ?_⟩
    have hv' : ver = v' := by omega
    rw [g4 (by rw [h2, g5]; congr 1; omega)]
    exact h4 hv'
  | ptr k off =>
    obtain ⟨e, b, h1, h2, h3, h4⟩ := H
    obtain ⟨e', g1, g2, g3, g4⟩ := G.ent k e h1
    exact ⟨e', b, g1, g2.box h2, (g3 h2).trans h3, h4⟩
  | elp k ver i off =>
    obtain ⟨hs, e, v', h1, h2, h3, h4⟩ := H
    obtain ⟨e', g1, g2, g3, g4⟩ := G.ent k e h1
    obtain ⟨v'', g5, g6, g7⟩ := g2.ver h2
    refine ⟨hs, e', v'', g1, g5, Nat.le_trans h3 g6, fun hv => ?_⟩
    have hv' : ver = v' := by omega
    rw [g4 (by rw [h2, g5]; congr 1; omega), ← g7]
    exact h4 hv'
  | tel s row off =>
    obtain ⟨a, h1, h2⟩ := H
    exact ⟨a, h1, h2.mono K⟩
  | mapp k =>
    obtain ⟨l, b, h1, h2, h3⟩ := H
    obtain ⟨e', g1, g2, g3, g4⟩ := G.ent k _ h1
    cases e' <;> simp only [EntLe] at g2
    rename_i l'
    exact ⟨l', b, g1, (g3 rfl).trans h2, h3⟩
  | undef => exact H
  | dead => trivial
  | agg _ => exact H
  | tup _ => exact H
  | clo _ _ => exact H
theorem AR1.parts {w X cv h v a} (H : AR1 w X cv h v a) : AR0 w X cv h v a ∨ ∃ f caps l, a = .clo f caps ∧ v = .func (.func f) #[] (List.toArray l) ∧ All2 (AR0 w X cv h) l caps := by
  cases a <;> first | exact .inl H | (obtain ⟨l, h1, h2⟩ := H; exact .inr ⟨_, _, l, rfl, h1, h2⟩)
theorem AR2.parts {w X cv h v a} (H : AR2 w X cv h v a) : AR1 w X cv h v a ∨ ∃ cells l, a = .agg cells ∧ v = .agg (List.toArray l) ∧ All2 (AR1 w X cv h) l cells := by
  cases a <;> first | exact .inl H | (obtain ⟨l, h1, h2⟩ := H; exact .inr ⟨_, l, rfl, h1, h2⟩)
theorem AR3.parts {w X cv h v a} (H : AR3 w X cv h v a) : AR2 w X cv h v a ∨ ∃ ps l, a = .tup ps ∧ v = .tuple (List.toArray l) ∧ All2 (AR2 w X cv h) l ps := by
  cases a <;> first | exact .inl H | (obtain ⟨l, h1, h2⟩ := H; exact .inr ⟨_, l, rfl, h1, h2⟩)
theorem AR1.mono {wr w X cv h w' X' cv' h'} (K : Keep w X w' X') (G : Go1 wr w X cv h w' X' cv' h') {v : Value} {a : AV} (H : AR1 w X cv h v a) : AR1 w' X' cv' h' v a := by
  rcases H.parts with H | ⟨f, caps, l, rfl, h1, h2⟩
  · exact (H.mono K G).to1
  · exact ⟨l, h1, h2.imp fun _ _ => AR0.mono K G⟩
theorem AR2.mono {wr w X cv h w' X' cv' h'} (K : Keep w X w' X') (G : Go1 wr w X cv h w' X' cv' h') {v : Value} {a : AV} (H : AR2 w X cv h v a) : AR2 w' X' cv' h' v a := by
  rcases H.parts with H | ⟨cells, l, rfl, h1, h2⟩
  · exact (H.mono K G).to2
  · exact ⟨l, h1, h2.imp fun _ _ => AR1.mono K G⟩
theorem AR3.mono {wr w X cv h w' X' cv' h'} (K : Keep w X w' X') (G : Go1 wr w X cv h w' X' cv' h') {v : Value} {a : AV} (H : AR3 w X cv h v a) : AR3 w' X' cv' h' v a := by
  rcases H.parts with H | ⟨cells, l, rfl, h1, h2⟩
  · exact (H.mono K G).to3
  · exact ⟨l, h1, h2.imp fun _ _ => AR2.mono K G⟩
theorem RowsR.mono {w w' X X' s xs rows} (K : Keep w X w' X') (H : RowsR w X s xs rows) : RowsR w' X' s xs rows := fun j r hj =>
  ⟨(H j r hj).1, fun i x hi => let ⟨u, h1, h2⟩ := (H j r hj).2 i x hi; ⟨u, h1, h2.mono K⟩⟩

theorem Go1.trans {wr1 wr2 w X cv h w1 X1 cv1 h1 w2 X2 cv2 h2} (A : Go1 wr1 w X cv h w1 X1 cv1 h1) (B : Go1 wr2 w1 X1 cv1 h1 w2 X2 cv2 h2) : Go1 (wr1 ++ wr2) w X cv h w2 X2 cv2 h2 := {
  size := Nat.le_trans A.size B.size
  blk b hb hm := by
    rw [B.blk b (Nat.lt_of_lt_of_le hb A.size) (fun h' => hm (A.own b hb h')), A.blk b hb hm]
  xold b hb hx := A.xold b hb (B.xold b (Nat.lt_of_lt_of_le hb A.size) hx)
  xkeep b hb hx hm := B.xkeep b (Nat.lt_of_lt_of_le hb A.size) (A.xkeep b hb hx hm) (fun h' => hm (A.own b hb h'))
  own b hb hm := A.own b hb (B.own b (Nat.lt_of_lt_of_le hb A.size) hm)
  ent k e hk := by
    obtain ⟨e1, a1, a2, a3, a4⟩ := A.ent k e hk
    obtain ⟨e2, b1, b2, b3, b4⟩ := B.ent k e1 a1
    refine ⟨e2, b1, a2.trans b2, fun hb => (b3 (a2.box hb)).trans (a3 hb), fun hv => ?_⟩
    have hmid : rowVer e = rowVer e1 := by
      cases hr : rowVer e with
      | none =>
        cases e <;> cases e1 <;> simp [EntLe, rowVer] at *
      | some v =>
        obtain ⟨v1, c1, c2, _⟩ := a2.ver hr
        obtain ⟨v2, d1, d2, _⟩ := b2.ver c1
        rw [hr, d1] at hv
        injection hv with hv
        rw [c1]; congr 1; omega
    exact (b4 (hmid.symm.trans hv)).trans (a4 hmid)
  wr k hk := by
    simp only [List.mem_append, not_or] at hk
    obtain ⟨a1, a2⟩ := A.wr k hk.1
    obtain ⟨b1, b2⟩ := B.wr k hk.2
    exact ⟨b1.trans a1, b2.trans a2⟩ }

end Go.AS
