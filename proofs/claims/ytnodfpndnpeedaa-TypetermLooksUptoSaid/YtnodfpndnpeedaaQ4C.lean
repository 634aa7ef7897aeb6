/- AS, the seat of law 4: texts; the order of types. -/
import Derived.Test.YtnodfpndnpeedaaQ4B
namespace Go.AS.Q4
open Go.Proofs
set_option linter.all false

/-! ### Texts -/
mutual
def text : Ty → Str
  | .mk n l => n ++ textB l
def textB : List Ty → Str
  | [] => []
  | t :: l => [91] ++ (text t ++ textR l) ++ [93]
def textR : List Ty → Str
  | [] => []
  | t :: l => [44, 32] ++ text t ++ textR l
end
theorem joinS_texts : ∀ (t : Ty) (l : List Ty), joinS [44, 32] ((t :: l).map text) = text t ++ textR l
  | t, [] => by simp [joinS, textR]
  | t, u :: l => by
    have ih := joinS_texts u l
    simp only [List.map_cons, joinS] at ih ⊢
    rw [ih]
    simp [textR, List.append_assoc]
def strRows (l : List Str) : List (List T) := l.map fun s => [.str s]
theorem strsOf_rows : ∀ l : List Str, strsOf (strRows l) = some l
  | [] => rfl
  | s :: l => by
    have := strsOf_rows l
    unfold strRows at this
    simp only [strRows, List.map_cons, strsOf, T.strOf, this]
theorem textR_mem : ∀ {l : List Ty} {t : Ty}, t ∈ l → (text t).length ≤ (textR l).length
  | u :: l, t, h => by
    simp only [textR, List.length_append, List.length_cons, List.length_nil]
    rcases List.mem_cons.1 h with rfl | h
    · omega
    · have := textR_mem h; omega
theorem text_part {n : Str} {l : List Ty} {t : Ty} (h : t ∈ l) : (text t).length ≤ (text (.mk n l)).length := by
  match l, h with
  | u :: l, h =>
    simp only [text, textB, List.length_append, List.length_cons, List.length_nil]
    rcases List.mem_cons.1 h with rfl | h
    · omega
    · have := textR_mem h; omega
theorem L15 {n : Str} {l : List Ty} (hl : l.length ≤ 1000) (h0 : l ≠ []) (hlen : (text (.mk n l)).length ≤ 100000000) (ih : ∀ t, t ∈ l → R 15 [t.av] [] = some (.t (.str (text t)), [])) :
    ∀ (j k : Nat), j + k = l.length → L15_0 R (K15_0 R) (rows l) n (strRows ((l.take k).map text)) (k : Int) = some (.t (.str (text (.mk n l))), []) := by
  intro j
  induction j with
  | zero =>
    intro k hk
    have h1 : ¬ (k : Int) < (l.length : Int) := by omega
    rw [l15_0]
    simp only [rows_length]
    simp only [h1, decide_false, cond_false, x15_0_x0]
    rw [List.take_of_length_le (by omega : l.length ≤ k)]
    match l, h0 with
    | t :: l, _ =>
      have e := joinS_texts t l
      simp only [text, textB, List.length_append, List.length_cons, List.length_nil] at hlen
      have b1 : Nat.ble (n.length + ([91] : List UInt8).length) 9223372036854775807 = true := by rw [Nat.ble_eq]; simp; omega
      have b2 : Nat.ble (((t :: l).map text).length) 140737488355328 = true := by rw [Nat.ble_eq]; simp at hl ⊢; omega
      have b3 : Nat.ble (joinS [44, 32] ((t :: l).map text)).length 140737488355328 = true := by rw [Nat.ble_eq, e]; simp; omega
      have b4 : Nat.ble ((n ++ ([91] : List UInt8)).length + (joinS [44, 32] ((t :: l).map text)).length) 9223372036854775807 = true := by rw [Nat.ble_eq, e]; simp; omega
      have b5 : Nat.ble (((n ++ ([91] : List UInt8)) ++ joinS [44, 32] ((t :: l).map text)).length + ([93] : List UInt8).length) 9223372036854775807 = true := by rw [Nat.ble_eq, e]; simp; omega
      simp only [joinK, strsOf_rows, b1, b2, b3, b4, b5, cond_true]
      rw [e]
      simp [text, textB, List.append_assoc]
  | succ j ihj =>
    intro k hk
    obtain ⟨t, ht⟩ := at_of (l := l) (k := k) (by omega)
    have iht := ih t (List.mem_of_getElem? ht)
    have hta := take_of ht
    obtain ⟨n', a⟩ := t
    have h1 : (k : Int) < (l.length : Int) := by omega
    have h2 : (0 : Int) ≤ (k : Int) := by omega
    have hlim : lim 16 = 8796093022208 := by decide
    have b1 : Nat.ble ((strRows ((l.take k).map text)).length + 1) (lim 16) = true := by rw [Nat.ble_eq, hlim]; simp [strRows]; omega
    rw [l15_0]
    simp only [rows_length]
    rw [av_mk] at iht
    simp only [h1, h2, decide_true, cond_true, and_self, Int.toNat_natCast, nth_rows ht, nth, iht, Option.bind_some, AV.strK, AV.tK, T.strK, nilK, List.length_cons, List.length_nil, Nat.zero_add, b1]
    rw [wrap_succ (by omega)]
    have := ihj (k + 1) (by omega)
    rw [hta] at this
    simpa [strRows] using this
theorem R15 : ∀ t : Ty, t.Ok → (text t).length ≤ 100000000 → R 15 [t.av] [] = some (.t (.str (text t)), []) := by
  refine Ty.ind fun n l ih hok hlen => ?_
  have hl := hok.parts
  have parts := fun t (ht : t ∈ l) => ih t ht (hl.2 t ht) (Nat.le_trans (text_part (n := n) ht) hlen)
  unfold R at *
  rw [av_mk, call_unfold Try.func15, e15]
  simp only [rows_length]
  by_cases h : l = []
  · subst h
    simp [text, textB]
  · have h1 : ((l.length : Int) == 0) = false := by
      rw [beq_eq_false_iff_ne]
      have := List.length_pos_iff.2 h
      omega
    simp only [h1, cond_false]
    have := L15 (n := n) hl.1 h hlen (by unfold R; exact parts) l.length 0 (by omega)
    unfold R at this
    exact this

/-! ### Strings in their order -/
theorem cb_range : ∀ a b : Str, Lib.compareBytes a b = -1 ∨ Lib.compareBytes a b = 0 ∨ Lib.compareBytes a b = 1
  | [], [] => .inr (.inl rfl)
  | [], _ :: _ => .inl rfl
  | _ :: _, [] => .inr (.inr rfl)
  | a :: ar, b :: br => by
    simp only [Lib.compareBytes]
    split
    · exact .inl rfl
    · split
      · exact .inr (.inr rfl)
      · exact cb_range ar br
theorem cb_eq : ∀ a b : Str, Lib.compareBytes a b = 0 ↔ a = b
  | [], [] => by simp [Lib.compareBytes]
  | [], _ :: _ => by simp [Lib.compareBytes]
  | _ :: _, [] => by simp [Lib.compareBytes]
  | a :: ar, b :: br => by
    simp only [Lib.compareBytes]
    split
    · rename_i h
      simp only [List.cons.injEq]
      constructor
      · intro h'; omega
      · rintro ⟨rfl, _⟩; exact absurd h (by simp)
    · split
      · rename_i h
        simp only [List.cons.injEq]
        constructor
        · intro h'; omega
        · rintro ⟨rfl, _⟩; exact absurd h (by simp)
      · rename_i h1 h2
        have he : a = b := UInt8.le_antisymm (UInt8.not_lt.1 h2) (UInt8.not_lt.1 h1)
        rw [cb_eq ar br]
        simp [he]
theorem cb_anti : ∀ a b : Str, Lib.compareBytes a b = - Lib.compareBytes b a
  | [], [] => rfl
  | [], _ :: _ => rfl
  | _ :: _, [] => rfl
  | a :: ar, b :: br => by
    simp only [Lib.compareBytes]
    by_cases h1 : a < b
    · have h2 : ¬ b < a := UInt8.not_lt.2 (UInt8.le_of_lt h1)
      simp [h1, h2]
    · by_cases h2 : b < a
      · simp [h1, h2]
      · simp only [h1, h2, if_false]
        exact cb_anti ar br
theorem cb_trans : ∀ a b c : Str, Lib.compareBytes a b ≤ 0 → Lib.compareBytes b c ≤ 0 → Lib.compareBytes a c ≤ 0
  | [], _, [], _, _ => by simp [Lib.compareBytes]
  | [], _, _ :: _, _, _ => by simp [Lib.compareBytes]
  | _ :: _, [], _, h, _ => by simp [Lib.compareBytes] at h
  | _ :: _, _ :: _, [], _, h => by simp [Lib.compareBytes] at h
  | a :: ar, b :: br, c :: cs, h1, h2 => by
    simp only [Lib.compareBytes] at h1 h2 ⊢
    have e : ∀ {x y : UInt8}, ¬ x < y → ¬ y < x → x = y := fun {x y} p q => UInt8.le_antisymm (UInt8.not_lt.1 q) (UInt8.not_lt.1 p)
    by_cases hab : a < b
    · by_cases hbc : b < c
      · have : a < c := UInt8.lt_trans hab hbc
        simp [this]
      · by_cases hcb : c < b
        · simp [hbc, hcb] at h2
        · have := e hbc hcb; subst this; simp [hab]
    · by_cases hba : b < a
      · simp [hab, hba] at h1
      · have := e hab hba
        subst this
        by_cases hbc : a < c
        · simp [hbc]
        · by_cases hcb : c < a
          · simp [hbc, hcb] at h2
          · simp only [hbc, hcb, hab, hba, if_false] at h1 h2 ⊢
            exact cb_trans ar br cs h1 h2
structure Ord {α : Type} (f : α → α → Int) : Prop where
  range : ∀ a b, f a b = -1 ∨ f a b = 0 ∨ f a b = 1
  eq : ∀ a b, f a b = 0 ↔ a = b
  anti : ∀ a b, f a b = - f b a
  trans : ∀ a b c, f a b ≤ 0 → f b c ≤ 0 → f a c ≤ 0
theorem Ord.strict {α : Type} {f : α → α → Int} (o : Ord f) {a b c : α} (h1 : f a b ≤ 0) (h2 : f b c ≤ 0) (h : f a c = 0) : f a b = 0 ∧ f b c = 0 := by
  have := (o.eq a c).1 h
  subst this
  have := o.anti a b
  omega
theorem ord_S : Ord compareS := by
  have e : compareS = Lib.compareBytes := by funext a b; exact (compareS_eq a b).symm
  rw [e]
  exact ⟨cb_range, cb_eq, cb_anti, cb_trans⟩
theorem cond_cmp {x y : Int} {b : Bool} (hb : b = (x == 0)) : cond b y x = if x = 0 then y else x := by
  subst hb
  by_cases h : x = 0
  · simp [h]
  · have : (x == 0) = false := by rw [beq_eq_false_iff_ne]; exact h
    simp [h, this]
theorem cmp_mk (n n' : Str) (l l' : List Ty) : cmp (.mk n l) (.mk n' l') = if compareS n n' = 0 then cmpL l l' else compareS n n' := by
  simp only [cmp]; exact cond_cmp rfl
theorem cmpL_cons (t u : Ty) (l m : List Ty) : cmpL (t :: l) (u :: m) = if cmp t u = 0 then cmpL l m else cmp t u := by
  simp only [cmpL]; exact cond_cmp rfl
theorem cmp_range : ∀ t u, cmp t u = -1 ∨ cmp t u = 0 ∨ cmp t u = 1 := by
  refine Ty.ind fun n l ih u => ?_
  obtain ⟨n', m⟩ := u
  rw [cmp_mk]
  have hL : ∀ (l m : List Ty), (∀ t, t ∈ l → ∀ u, cmp t u = -1 ∨ cmp t u = 0 ∨ cmp t u = 1) → cmpL l m = -1 ∨ cmpL l m = 0 ∨ cmpL l m = 1 := by
    intro l
    induction l with
    | nil => intro m _; cases m <;> simp [cmpL]
    | cons t l ihl =>
      intro m h
      cases m with
      | nil => simp [cmpL]
      | cons u m =>
        rw [cmpL_cons]
        split
        · exact ihl m fun t ht => h t (by simp [ht])
        · exact h t (by simp) u
  split
  · exact hL l m ih
  · exact ord_S.range n n'
theorem cmp_eq : ∀ t u, cmp t u = 0 ↔ t = u := by
  refine Ty.ind fun n l ih u => ?_
  obtain ⟨n', m⟩ := u
  rw [cmp_mk]
  have hL : ∀ (l m : List Ty), (∀ t, t ∈ l → ∀ u, cmp t u = 0 ↔ t = u) → (cmpL l m = 0 ↔ l = m) := by
    intro l
    induction l with
    | nil => intro m _; cases m <;> simp [cmpL]
    | cons t l ihl =>
      intro m h
      cases m with
      | nil => simp [cmpL]
      | cons u m =>
        rw [cmpL_cons]
        have h1 := h t (by simp) u
        have h2 := ihl m fun t ht => h t (by simp [ht])
        split
        · rename_i h0
          rw [h2, h1.1 h0]; simp
        · rename_i h0
          constructor
          · intro h'; exact absurd h' h0
          · intro h'; injection h' with h' _; exact absurd (h1.2 h') h0
  have hn := ord_S.eq n n'
  split
  · rename_i h0
    rw [hL l m ih, hn.1 h0]; simp
  · rename_i h0
    constructor
    · intro h'; exact absurd h' h0
    · intro h'; injection h' with h' _; exact absurd (hn.2 h') h0
theorem cmp_anti : ∀ t u, cmp t u = - cmp u t := by
  refine Ty.ind fun n l ih u => ?_
  obtain ⟨n', m⟩ := u
  rw [cmp_mk, cmp_mk]
  have hL : ∀ (l m : List Ty), (∀ t, t ∈ l → ∀ u, cmp t u = - cmp u t) → cmpL l m = - cmpL m l := by
    intro l
    induction l with
    | nil => intro m _; cases m <;> simp [cmpL]
    | cons t l ihl =>
      intro m h
      cases m with
      | nil => simp [cmpL]
      | cons u m =>
        rw [cmpL_cons, cmpL_cons]
        have h1 := h t (by simp) u
        have h2 := ihl m fun t ht => h t (by simp [ht])
        by_cases h0 : cmp t u = 0
        · rw [if_pos h0, if_pos (by omega), h2]
        · rw [if_neg h0, if_neg (by omega), h1]
  have hn := ord_S.anti n n'
  by_cases h0 : compareS n n' = 0
  · rw [if_pos h0, if_pos (by omega), hL l m ih]
  · rw [if_neg h0, if_neg (by omega), hn]
theorem cmp_trans : ∀ t u v, cmp t u ≤ 0 → cmp u v ≤ 0 → cmp t v ≤ 0 := by
  refine Ty.ind fun n l ih u v => ?_
  obtain ⟨n', m⟩ := u
  obtain ⟨n'', k⟩ := v
  rw [cmp_mk, cmp_mk, cmp_mk]
  have hL : ∀ (l m k : List Ty), (∀ t, t ∈ l → ∀ u v, cmp t u ≤ 0 → cmp u v ≤ 0 → cmp t v ≤ 0) → cmpL l m ≤ 0 → cmpL m k ≤ 0 → cmpL l k ≤ 0 := by
    intro l
    induction l with
    | nil => intro m k _ _ _; cases k <;> simp [cmpL]
    | cons t l ihl =>
      intro m k h h1 h2
      cases m with
      | nil => simp [cmpL] at h1
      | cons u m =>
        cases k with
        | nil => simp [cmpL] at h2
        | cons v k =>
          rw [cmpL_cons] at h1 h2 ⊢
          have htr := h t (by simp) u v
          have an := cmp_anti u v
          by_cases a0 : cmp t u = 0
          · have := (cmp_eq t u).1 a0
            subst this
            rw [if_pos a0] at h1
            by_cases b0 : cmp t v = 0
            · rw [if_pos b0] at h2 ⊢
              exact ihl m k (fun t ht => h t (by simp [ht])) h1 h2
            · rw [if_neg b0] at h2 ⊢; exact h2
          · rw [if_neg a0] at h1
            by_cases b0 : cmp u v = 0
            · have := (cmp_eq u v).1 b0
              subst this
              rw [if_neg a0]; exact h1
            · rw [if_neg b0] at h2
              have h3 := htr h1 h2
              by_cases c0 : cmp t v = 0
              · have := (cmp_eq t v).1 c0
                subst this
                have := cmp_anti t u
                omega
              · rw [if_neg c0]; exact h3
  intro h1 h2
  by_cases a0 : compareS n n' = 0
  · have := (ord_S.eq n n').1 a0
    subst this
    rw [if_pos a0] at h1
    by_cases b0 : compareS n n'' = 0
    · rw [if_pos b0] at h2 ⊢
      exact hL l m k ih h1 h2
    · rw [if_neg b0] at h2 ⊢; exact h2
  · rw [if_neg a0] at h1
    by_cases b0 : compareS n' n'' = 0
    · have := (ord_S.eq n' n'').1 b0
      subst this
      rw [if_neg a0]; exact h1
    · rw [if_neg b0] at h2
      have h3 := ord_S.trans _ _ _ h1 h2
      by_cases c0 : compareS n n'' = 0
      · have := ord_S.strict h1 h2 c0
        omega
      · rw [if_neg c0]; exact h3
theorem ord_T : Ord cmp := ⟨cmp_range, cmp_eq, cmp_anti, cmp_trans⟩
theorem same_eq : ∀ t u, same t u = true ↔ t = u := by
  refine Ty.ind fun n l ih u => ?_
  obtain ⟨n', m⟩ := u
  have hL : ∀ (l m : List Ty), (∀ t, t ∈ l → ∀ u, same t u = true ↔ t = u) → (sameL l m = true ↔ l = m) := by
    intro l
    induction l with
    | nil => intro m _; cases m <;> simp [sameL]
    | cons t l ihl =>
      intro m h
      cases m with
      | nil => simp [sameL]
      | cons u m =>
        simp only [sameL, Bool.and_eq_true, List.cons.injEq]
        rw [h t (by simp) u, ihl m fun t ht => h t (by simp [ht])]
  simp only [same, Bool.and_eq_true, beq_iff_eq, Ty.mk.injEq]
  rw [hL l m ih]

/-! ### Texts tell types apart -/
def sign (c : UInt8) : Bool := c == 91 || c == 44 || c == 93
def Free (n : Str) : Prop := ∀ c, c ∈ n → sign c = false
def Stops (x : Str) : Prop := ∀ c, x.head? = some c → sign c = true
theorem split_free : ∀ {n n' x x' : Str}, Free n → Free n' → Stops x → Stops x' → n ++ x = n' ++ x' → n = n' ∧ x = x'
  | [], [], x, x', _, _, _, _, h => ⟨rfl, h⟩
  | [], c :: n', x, x', _, hf, hs, _, h => by
    simp only [List.nil_append, List.cons_append] at h
    subst h
    have := hs c rfl
    rw [hf c (by simp)] at this
    cases this
  | c :: n, [], x, x', hf, _, _, hs, h => by
    simp only [List.nil_append, List.cons_append] at h
    have := hs c (by rw [← h]; rfl)
    rw [hf c (by simp)] at this
    cases this
  | c :: n, c' :: n', x, x', hf, hf', hs, hs', h => by
    simp only [List.cons_append] at h
    injection h with h1 h2
    obtain ⟨q1, q2⟩ := split_free (fun d hd => hf d (by simp [hd])) (fun d hd => hf' d (by simp [hd])) hs hs' h2
    exact ⟨by rw [h1, q1], q2⟩
inductive Clean : Ty → Prop
  | mk (n : Str) (l : List Ty) (hn : Free n) (h : ∀ t, t ∈ l → Clean t) : Clean (.mk n l)
theorem Clean.parts {n : Str} {l : List Ty} (h : Clean (.mk n l)) : Free n ∧ ∀ t, t ∈ l → Clean t := by cases h with | mk _ _ a b => exact ⟨a, b⟩
/-- What may stand behind a type in a text: nothing, a comma or the closing bracket. -/
def Ends (x : Str) : Prop := ∀ c, x.head? = some c → c = 44 ∨ c = 93
theorem Ends.stops {x : Str} (h : Ends x) : Stops x := fun c hc => by rcases h c hc with rfl | rfl <;> rfl
theorem ends_R (l : List Ty) (x : Str) : Ends (textR l ++ 93 :: x) := by
  intro c hc
  cases l with
  | nil => simp [textR] at hc; exact .inr hc.symm
  | cons t l => simp [textR] at hc; exact .inl hc.symm
theorem text_apart : ∀ t, Clean t → ∀ u, Clean u → ∀ x x', Ends x → Ends x' → text t ++ x = text u ++ x' → t = u ∧ x = x' := by
  refine Ty.ind fun n l ih hc u hcu x x' hx hx' h => ?_
  obtain ⟨n', m⟩ := u
  obtain ⟨h1, h2⟩ := hc.parts
  obtain ⟨h1', h2'⟩ := hcu.parts
  simp only [text, List.append_assoc] at h
  have st : ∀ (l : List Ty) (x : Str), Ends x → Stops (textB l ++ x) := by
    intro l x hx
    cases l with
    | nil => simp only [textB, List.nil_append]; exact hx.stops
    | cons t l => intro c hc; simp [textB] at hc; subst hc; rfl
  obtain ⟨rfl, h0⟩ := split_free h1 h1' (st l x hx) (st m x' hx') h
  clear h
  have h := h0
  clear h0
  -- the rests of two lists of arguments
  have hR : ∀ (l m : List Ty), (∀ t, t ∈ l → Clean t → ∀ u, Clean u → ∀ x x', Ends x → Ends x' → text t ++ x = text u ++ x' → t = u ∧ x = x') → (∀ t, t ∈ l → Clean t) → (∀ t, t ∈ m → Clean t) →
      textR l ++ 93 :: x = textR m ++ 93 :: x' → l = m ∧ x = x' := by
    intro l
    induction l with
    | nil =>
      intro m _ _ _ h
      cases m with
      | nil => simp [textR] at h; exact ⟨rfl, h⟩
      | cons u m => simp [textR] at h
    | cons t l ihl =>
      intro m hh hl hm h
      cases m with
      | nil => simp [textR] at h
      | cons u m =>
        simp only [textR, List.append_assoc, List.cons_append, List.nil_append, List.cons.injEq, true_and] at h
        obtain ⟨rfl, h0⟩ := hh t (by simp) (hl t (by simp)) u (hm u (by simp)) _ _ (ends_R l x) (ends_R m x') h
        clear h
        have h := h0
        clear h0
        obtain ⟨q1, q2⟩ := ihl m (fun t ht => hh t (by simp [ht])) (fun t ht => hl t (by simp [ht])) (fun t ht => hm t (by simp [ht])) h
        exact ⟨by rw [q1], q2⟩
  cases l with
  | nil =>
    cases m with
    | nil => simp only [textB, List.nil_append] at h; exact ⟨rfl, h⟩
    | cons u m =>
      simp only [textB, List.nil_append, List.cons_append] at h
      have := hx 91 (by rw [h]; rfl)
      simp at this
  | cons t l =>
    cases m with
    | nil =>
      simp only [textB, List.nil_append, List.cons_append] at h
      have := hx' 91 (by rw [← h]; rfl)
      simp at this
    | cons u m =>
      simp only [textB, List.append_assoc, List.cons_append, List.nil_append, List.cons.injEq, true_and] at h
      obtain ⟨rfl, h0⟩ := ih t (by simp) (h2 t (by simp)) u (h2' u (by simp)) _ _ (ends_R l x) (ends_R m x') h
      clear h
      have h := h0
      clear h0
      obtain ⟨q1, q2⟩ := hR l m (fun t ht => ih t (by simp [ht])) (fun t ht => h2 t (by simp [ht])) (fun t ht => h2' t (by simp [ht])) h
      exact ⟨by rw [q1], q2⟩
theorem text_inj {t u : Ty} (h1 : Clean t) (h2 : Clean u) (h : text t = text u) : t = u :=
  (text_apart t h1 u h2 [] [] (fun c hc => by cases hc) (fun c hc => by cases hc) (by simpa using h)).1

/-! ### Made types -/
theorem free_names {n : Str} (h : n ∈ plainNames ∨ n ∈ declNames ∨ n = nArray) : Free n ∧ n.length ≤ 6 := by
  have h1 : ∀ n, n ∈ plainNames ++ declNames ++ [nArray] → (n.all fun c => !sign c) = true ∧ n.length ≤ 6 := by decide
  obtain ⟨q1, q2⟩ := h1 n (by rcases h with h | h | h <;> simp [h])
  exact ⟨fun c hc => by have := List.all_eq_true.1 q1 c hc; simpa using this, q2⟩
theorem good_ok : ∀ (D : Nat) (t : Ty), good D t → t.Ok ∧ Clean t ∧ (text t).length ≤ 4 ^ (D + 2)
  | 0, .mk n l, h => by
    obtain ⟨h1, rfl⟩ := h
    obtain ⟨f1, f2⟩ := free_names (n := n) (by rcases h1 with h | h <;> simp [h])
    exact ⟨.mk n [] (by simp) (fun t ht => by simp at ht), .mk n [] f1 (fun t ht => by simp at ht), by simp [text, textB]; omega⟩
  | D + 1, .mk n l, h => by
    have hp : 4 ^ (D + 1 + 2) = 4 * 4 ^ (D + 2) := by rw [Nat.pow_succ 4 (D + 2)]; omega
    have hq : 16 ≤ 4 ^ (D + 2) := by
      have : 0 < 4 ^ D := Nat.pow_pos (by omega)
      rw [Nat.pow_add]; omega
    rcases h with ⟨h1, rfl⟩ | ⟨h1, a, rfl, h2⟩ | ⟨h1, h2, _, h3⟩
    · obtain ⟨f1, f2⟩ := free_names (n := n) (.inl h1)
      exact ⟨.mk n [] (by simp) (fun t ht => by simp at ht), .mk n [] f1 (fun t ht => by simp at ht), by rw [hp]; simp [text, textB]; omega⟩
    · obtain ⟨f1, f2⟩ := free_names (n := n) (.inr (.inr h1))
      obtain ⟨g1, g2, g3⟩ := good_ok D a h2
      exact ⟨.mk n [a] (by simp) (fun t ht => by simp at ht; exact ht ▸ g1), .mk n [a] f1 (fun t ht => by simp at ht; exact ht ▸ g2), by rw [hp]; simp [text, textB, textR]; omega⟩
    · obtain ⟨f1, f2⟩ := free_names (n := n) (.inr (.inl h1))
      have hall := fun a ha => good_ok D a (h3 a ha)
      refine ⟨.mk n l (by omega) fun t ht => (hall t ht).1, .mk n l f1 fun t ht => (hall t ht).2.1, ?_⟩
      rw [hp]
      match l, h2, hall with
      | [], _, _ => simp [text, textB]; omega
      | [a], _, hall => have := (hall a (by simp)).2.2; simp [text, textB, textR]; omega
      | [a, b], _, hall => have := (hall a (by simp)).2.2; have := (hall b (by simp)).2.2; simp [text, textB, textR]; omega
      | [a, b, c], _, hall => have := (hall a (by simp)).2.2; have := (hall b (by simp)).2.2; have := (hall c (by simp)).2.2; simp [text, textB, textR]; omega
      | _ :: _ :: _ :: _ :: _, h2, _ => simp at h2
end Go.AS.Q4
