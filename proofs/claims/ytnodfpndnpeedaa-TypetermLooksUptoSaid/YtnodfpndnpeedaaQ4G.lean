/- AS, the seat of law 4: parameters; what matching and replacing have to do with each other. -/
import Derived.Test.YtnodfpndnpeedaaQ4E
namespace Go.AS.Q4
open Go.Proofs
set_option linter.all false

/-! ### Parameters -/
def builtin (s : Str) : Bool := cond (s == [73, 110, 116]) true (cond (s == [66, 121, 116, 101]) true (cond (s == [66, 111, 111, 108]) true (s == [65, 114, 114, 97, 121])))
def isParam (s : Str) : Bool := cond (!builtin s) (!containsS s [46]) false
theorem R37 (s : Str) : R 37 [.t (.str s)] [] = some (.t (.bool (builtin s)), []) := by
  unfold R builtin
  rw [call_unfold Try.func37, e37]
  cases (s == [73, 110, 116]) <;> cases (s == [66, 121, 116, 101]) <;> cases (s == [66, 111, 111, 108]) <;> rfl
theorem R58 (s : Str) : R 58 [.t (.str s)] [] = some (.t (.bool (isParam s)), []) := by
  have h := R37 s
  unfold R isParam at *
  rw [call_unfold Try.func58, e58, h]
  simp only [Option.bind_some, AV.boolK, AV.tK, T.boolK, nilK]
  cases builtin s <;> rfl
mutual
def prm : Ty → List Str → List Str
  | .mk n l, out => prmL l (cond (isParam n) (cond (decide (n ∈ out)) out (out ++ [n])) out)
def prmL : List Ty → List Str → List Str
  | [], out => out
  | t :: l, out => prmL l (prm t out)
end
theorem prm_len : ∀ t : Ty, ∀ out : List Str, (prm t out).length ≤ out.length + size t := by
  refine Ty.ind fun n l ih out => ?_
  have hL : ∀ (l : List Ty), (∀ t, t ∈ l → ∀ out : List Str, (prm t out).length ≤ out.length + size t) → ∀ out : List Str, (prmL l out).length ≤ out.length + sizeL l := by
    intro l
    induction l with
    | nil => intro _ out; simp [prmL, sizeL]
    | cons t l ihl =>
      intro h out
      simp only [prmL, sizeL]
      have h1 := h t (by simp) out
      have h2 := ihl (fun t ht => h t (by simp [ht])) (prm t out)
      omega
  simp only [prm, size]
  refine Nat.le_trans (hL l ih _) ?_
  cases isParam n <;> cases decide (n ∈ out) <;> simp <;> omega
def ph (out : List Str) : Heap := [(0, .row 1 1 9 (strRows out))]
theorem L57 {n : Str} {l : List Ty} (hl : l.length ≤ 1000) (hs : sizeL l ≤ 10000) (ih : ∀ t, t ∈ l → ∀ out : List Str, out.length ≤ 90000 → out.length + size t ≤ 90000 → R 57 [.rowp 0 1 none, t.av] (ph out) = some (.rowp 0 1 none, ph (prm t out))) :
    ∀ (j k : Nat) (out : List Str), j + k = l.length → out.length + sizeL (l.drop k) ≤ 90000 → L57_0 R (K57_0 R) (rows l) (strRows out) n (k : Int) = some (.rowp 0 1 none, ph (prmL (l.drop k) out)) := by
  intro j
  induction j with
  | zero =>
    intro k out hk ho
    have h1 : ¬ (k : Int) < (l.length : Int) := by omega
    rw [l57_0]
    simp only [rows_length]
    simp only [h1, decide_false, cond_false, x57_0_x0]
    rw [List.drop_eq_nil_of_le (by omega : l.length ≤ k)]
    rfl
  | succ j ihj =>
    intro k out hk ho
    obtain ⟨t, ht⟩ := at_of (l := l) (k := k) (by omega)
    rw [drop_of ht] at ho ⊢
    simp only [sizeL] at ho
    have iht := ih t (List.mem_of_getElem? ht) out (by omega) (by omega)
    have hpl := prm_len t out
    have next := ihj (k + 1) (prm t out) (by omega) (by omega)
    have h1 : (k : Int) < (l.length : Int) := by omega
    have h2 : (0 : Int) ≤ (k : Int) := by omega
    simp only [prmL]
    obtain ⟨n', a⟩ := t
    rw [l57_0]
    simp only [rows_length]
    unfold ph at iht
    rw [av_mk] at iht
    simp only [h1, h2, decide_true, cond_true, and_self, Int.toNat_natCast, nth_rows ht, nth, iht, Option.bind_some, AV.rowpK, Nat.beq, consK, Ent.rowK, nilK]
    rw [wrap_succ (by omega)]
    exact next
theorem R57 : ∀ t : Ty, t.Ok → size t ≤ 10000 → ∀ out : List Str, out.length ≤ 90000 → out.length + size t ≤ 90000 → R 57 [.rowp 0 1 none, t.av] (ph out) = some (.rowp 0 1 none, ph (prm t out)) := by
  refine Ty.ind fun n l ih hok hs out ho1 ho => ?_
  have hl := hok.parts
  simp only [size] at hs ho
  have h58 := R58 n
  have main : ∀ out : List Str, out.length + sizeL l ≤ 90000 → J57_0 R (strRows out) n (rows l) = some (.rowp 0 1 none, ph (prmL l out)) := by
    intro out ho
    have := L57 (n := n) hl.1 (by omega) (fun t ht out h1 h2 => ih t ht (hl.2 t ht) (by have := size_mem ht; omega) out h1 h2) l.length 0 out (by omega) (by simpa using ho)
    rw [j57_0]
    simpa using this
  simp only [prm]
  have h70 := fun h => R70 (l := out) h n
  unfold R ph at *
  rw [av_mk, call_unfold Try.func57, e57, h58]
  simp only [Option.bind_some, AV.boolK, AV.tK, T.boolK, nilK]
  cases hp : isParam n with
  | false =>
    simp only [cond_false]
    exact main out (by omega)
  | true =>
    simp only [cond_true]
    rw [h70 (by omega)]
    simp only [Option.bind_some, AV.boolK, AV.tK, T.boolK, nilK]
    cases hm : decide (n ∈ out) with
    | true =>
      simp only [Bool.not_true, cond_false, cond_true]
      exact main out (by omega)
    | false =>
      have hlim : lim 16 = 8796093022208 := by decide
      have b1 : Nat.ble ((strRows out).length + 1) (lim 16) = true := by rw [Nat.ble_eq, hlim, strRows_length]; omega
      have e : strRows out ++ [[T.str n]] = strRows (out ++ [n]) := by simp [strRows]
      simp only [Bool.not_false, cond_true, cond_false, List.length_cons, List.length_nil, Nat.zero_add, b1, e]
      exact main (out ++ [n]) (by simp; omega)
theorem R26 (t : Ty) (hok : t.Ok) (hs : size t ≤ 10000) : R 26 [t.av] [] = some (.t (.sl 1 (strRows (prm t []))), []) := by
  have h57 := R57 t hok hs [] (by simp) (by simp; omega)
  obtain ⟨n, l⟩ := t
  unfold R ph at *
  rw [show strRows [] = [] from rfl] at h57
  rw [av_mk] at *
  rw [call_unfold Try.func26, e26, h57]
  simp only [Option.bind_some, AV.rowpK, Nat.beq, cond_true, consK, Ent.rowK, nilK]

/-! ### Names that stand once -/
theorem tw_false : ∀ {l seen : List Str}, tw seen l = false ↔ (l.Nodup ∧ ∀ x, x ∈ l → x ∉ seen)
  | [], seen => by simp [tw]
  | x :: l, seen => by
    have ih := tw_false (l := l) (seen := seen ++ [x])
    simp only [tw, List.nodup_cons]
    by_cases h : x ∈ seen
    · simp [h]
    · simp only [h, decide_false, cond_false, ih]
      constructor
      · rintro ⟨h1, h2⟩
        refine ⟨⟨fun hx => h2 x hx (by simp), h1⟩, fun y hy => ?_⟩
        rcases List.mem_cons.1 hy with rfl | hy
        · exact h
        · exact fun hs => h2 y hy (by simp [hs])
      · rintro ⟨⟨h1, h2⟩, h3⟩
        refine ⟨h2, fun y hy => ?_⟩
        simp only [List.mem_append, List.mem_singleton, not_or]
        exact ⟨h3 y (by simp [hy]), fun e => h1 (e ▸ hy)⟩
theorem ix_nodup : ∀ {l : List Str} (_ : l.Nodup) {k : Nat} {s : Str}, l[k]? = some s → ix l s = some k
  | x :: l, h, 0, s, hk => by
    simp at hk
    subst hk
    simp [ix]
  | x :: l, h, k + 1, s, hk => by
    have hk : l[k]? = some s := by simpa using hk
    have hx : (s == x) = false := by
      rw [beq_eq_false_iff_ne]
      intro e
      subst e
      exact (List.nodup_cons.1 h).1 (List.mem_of_getElem? hk)
    simp only [ix, hx, cond_false, ix_nodup (List.nodup_cons.1 h).2 hk, Option.map_some]

/-! ### Where names stand -/
inductive Occ (n : Str) : Ty → Prop
  | here (l : List Ty) : Occ n (.mk n l)
  | there (m : Str) (l : List Ty) (a : Ty) (ha : a ∈ l) (h : Occ n a) : Occ n (.mk m l)
inductive LeafN (n : Str) : Ty → Prop
  | here : LeafN n (.mk n [])
  | there (m : Str) (l : List Ty) (a : Ty) (ha : a ∈ l) (h : LeafN n a) : LeafN n (.mk m l)
theorem prm_occ : ∀ t : Ty, ∀ (out : List Str) (n : Str), n ∈ prm t out → n ∈ out ∨ (isParam n = true ∧ Occ n t) := by
  refine Ty.ind fun m l ih out n h => ?_
  have hL : ∀ (l' : List Ty), (∀ t, t ∈ l' → t ∈ l) → ∀ out : List Str, n ∈ prmL l' out → n ∈ out ∨ (isParam n = true ∧ ∃ a, a ∈ l ∧ Occ n a) := by
    intro l'
    induction l' with
    | nil => intro _ out h; exact .inl h
    | cons t l' ihl =>
      intro hsub out h
      simp only [prmL] at h
      rcases ihl (fun t ht => hsub t (by simp [ht])) _ h with h | h
      · rcases ih t (hsub t (by simp)) out n h with h | ⟨h1, h2⟩
        · exact .inl h
        · exact .inr ⟨h1, t, hsub t (by simp), h2⟩
      · exact .inr h
  simp only [prm] at h
  rcases hL l (fun t ht => ht) _ h with h | ⟨h1, a, ha, h2⟩
  · cases hp : isParam m with
    | false => rw [hp] at h; exact .inl h
    | true =>
      rw [hp] at h
      cases hm : decide (m ∈ out) with
      | true => rw [hm] at h; exact .inl h
      | false =>
        rw [hm] at h
        simp only [cond_true, cond_false, List.mem_append, List.mem_singleton] at h
        rcases h with h | rfl
        · exact .inl h
        · exact .inr ⟨hp, .here l⟩
  · exact .inr ⟨h1, .there m l a ha h2⟩
theorem prm_nodup : ∀ t : Ty, ∀ out : List Str, out.Nodup → (prm t out).Nodup := by
  refine Ty.ind fun m l ih out h => ?_
  have hL : ∀ (l' : List Ty), (∀ t, t ∈ l' → t ∈ l) → ∀ out : List Str, out.Nodup → (prmL l' out).Nodup := by
    intro l'
    induction l' with
    | nil => intro _ out h; exact h
    | cons t l' ihl =>
      intro hsub out h
      simp only [prmL]
      exact ihl (fun t ht => hsub t (by simp [ht])) _ (ih t (hsub t (by simp)) out h)
  simp only [prm]
  refine hL l (fun t ht => ht) _ ?_
  cases isParam m with
  | false => exact h
  | true =>
    cases hm : decide (m ∈ out) with
    | true => exact h
    | false =>
      have hm : m ∉ out := by simpa using hm
      simp only [cond_true, cond_false]
      rw [List.nodup_append]
      exact ⟨h, by simp, fun a ha b hb => by simp at hb; subst hb; intro e; exact hm (e ▸ ha)⟩

/-! ### Matching and replacing -/
def Ext (f f' : List (Option Ty)) : Prop := ∀ (k : Nat) u, f[k]? = some (some u) → f'[k]? = some (some u)
/-- What is matched, replaced by what was found, gives the type. -/
theorem mt_sound {names : List Str} : ∀ (p t : Ty) (f : List (Option Ty)), f.length = names.length → (mt names p t f).1 = true →
    (mt names p t f).2.length = names.length ∧ Ext f (mt names p t f).2 ∧ ∀ by' : List Ty, (∀ (k : Nat) u, (mt names p t f).2[k]? = some (some u) → nth (.mk [] []) by' k = u) → pt names by' p = t := by
  refine Ty.ind fun n l ih t f hf h => ?_
  obtain ⟨n', m⟩ := t
  have hL : ∀ (l m : List Ty), l.length = m.length → (∀ p, p ∈ l → ∀ (t : Ty) (f : List (Option Ty)), f.length = names.length → (mt names p t f).1 = true →
      (mt names p t f).2.length = names.length ∧ Ext f (mt names p t f).2 ∧ ∀ by' : List Ty, (∀ (k : Nat) u, (mt names p t f).2[k]? = some (some u) → nth (.mk [] []) by' k = u) → pt names by' p = t) →
      ∀ f : List (Option Ty), f.length = names.length → (mtL names l m f).1 = true → (mtL names l m f).2.length = names.length ∧ Ext f (mtL names l m f).2 ∧ ∀ by' : List Ty, (∀ (k : Nat) u, (mtL names l m f).2[k]? = some (some u) → nth (.mk [] []) by' k = u) → ptL names by' l = m := by
    intro l
    induction l with
    | nil =>
      intro m hlm _ f hf _
      cases m with
      | nil => simp only [mtL, ptL]; exact ⟨hf, fun _ _ h => h, fun _ _ => by trivial⟩
      | cons _ _ => simp at hlm
    | cons p l ihl =>
      intro m hlm hh f hf h
      cases m with
      | nil => simp at hlm
      | cons t m =>
        simp only [mtL] at h ⊢
        cases hc : (mt names p t f).1 with
        | false => rw [hc] at h; cases h
        | true =>
          rw [hc] at h
          simp only [cond_true] at h ⊢
          obtain ⟨a1, a2, a3⟩ := hh p (by simp) t f hf hc
          obtain ⟨b1, b2, b3⟩ := ihl m (by simpa using hlm) (fun p hp => hh p (by simp [hp])) _ a1 h
          refine ⟨b1, fun k u hk => b2 k u (a2 k u hk), fun by' hb => ?_⟩
          simp only [ptL]
          rw [b3 by' hb, a3 by' fun k u hk => hb k u (b2 k u hk)]
  rw [mt_mk] at h ⊢
  cases hr : rp (.mk n l) names with
  | some k =>
    rw [hr] at h
    have hpt : ∀ by' : List Ty, pt names by' (.mk n l) = nth (.mk [] []) by' k := fun by' => by rw [pt_mk, hr]
    simp only at h ⊢
    cases hx : f[k]? with
    | none => rw [hx] at h; cases h
    | some x =>
      rw [hx] at h
      cases x with
      | some u =>
        simp only at h ⊢
        refine ⟨hf, fun _ _ h => h, fun by' hb => ?_⟩
        rw [hpt, hb k u hx]
        exact (same_eq _ _).1 h
      | none =>
        simp only at h ⊢
        refine ⟨by simpa using hf, fun j u hj => ?_, fun by' hb => ?_⟩
        · rw [List.getElem?_set]
          split
          · rename_i e; subst e; rw [hx] at hj; cases hj
          · exact hj
        · rw [hpt]
          exact hb k _ (by rw [List.getElem?_set, if_pos rfl, if_pos (List.getElem?_eq_some_iff.1 hx).1])
  | none =>
    rw [hr] at h
    have hpt : ∀ by' : List Ty, pt names by' (.mk n l) = .mk n (ptL names by' l) := fun by' => by rw [pt_mk, hr]
    simp only [Ty.name, Ty.args] at h ⊢
    cases hn : (n == n') with
    | false => rw [hn] at h; cases h
    | true =>
      rw [hn] at h
      simp only [cond_true] at h ⊢
      cases hc : (l.length == m.length) with
      | false => rw [hc] at h; cases h
      | true =>
        rw [hc] at h
        simp only [cond_true] at h ⊢
        obtain ⟨a1, a2, a3⟩ := hL l m (by simpa using hc) ih f hf h
        refine ⟨a1, a2, fun by' hb => ?_⟩
        rw [hpt, a3 by' hb]
        rw [beq_iff_eq] at hn
        rw [hn]
def Agree (by' : List Ty) (f : List (Option Ty)) : Prop := f.length = by'.length ∧ ∀ (k : Nat) u, f[k]? = some (some u) → by'[k]? = some u
/-- A pattern in which its names were replaced is matched, by just what was put in. -/
theorem mt_complete {names : List Str} {by' : List Ty} (hlen : names.length = by'.length) : ∀ (p : Ty) (f : List (Option Ty)), Agree by' f → (mt names p (pt names by' p) f).1 = true ∧ Agree by' (mt names p (pt names by' p) f).2 ∧ Ext f (mt names p (pt names by' p) f).2 ∧
    ∀ n, LeafN n p → ∀ k, ix names n = some k → ∃ u, (mt names p (pt names by' p) f).2[k]? = some (some u) := by
  refine Ty.ind fun n l ih f hf => ?_
  have hL : ∀ (l : List Ty), (∀ p, p ∈ l → ∀ (f : List (Option Ty)), Agree by' f → (mt names p (pt names by' p) f).1 = true ∧ Agree by' (mt names p (pt names by' p) f).2 ∧ Ext f (mt names p (pt names by' p) f).2 ∧
      ∀ n, LeafN n p → ∀ k, ix names n = some k → ∃ u, (mt names p (pt names by' p) f).2[k]? = some (some u)) → ∀ f : List (Option Ty), Agree by' f → (mtL names l (ptL names by' l) f).1 = true ∧ Agree by' (mtL names l (ptL names by' l) f).2 ∧ Ext f (mtL names l (ptL names by' l) f).2 ∧
      ∀ n, (∃ a, a ∈ l ∧ LeafN n a) → ∀ k, ix names n = some k → ∃ u, (mtL names l (ptL names by' l) f).2[k]? = some (some u) := by
    intro l
    induction l with
    | nil =>
      intro _ f hf
      simp only [mtL]
      exact ⟨by trivial, hf, fun _ _ h => h, fun n ⟨a, ha, _⟩ => by simp at ha⟩
    | cons p l ihl =>
      intro hh f hf
      obtain ⟨a1, a2, a3, a4⟩ := hh p (by simp) f hf
      obtain ⟨b1, b2, b3, b4⟩ := ihl (fun p hp => hh p (by simp [hp])) _ a2
      simp only [ptL, mtL, a1, cond_true]
      refine ⟨b1, b2, fun k u hk => b3 k u (a3 k u hk), fun n ⟨a, ha, hn⟩ k hk => ?_⟩
      rcases List.mem_cons.1 ha with rfl | ha
      · obtain ⟨u, hu⟩ := a4 n hn k hk
        exact ⟨u, b3 k u hu⟩
      · exact b4 n ⟨a, ha, hn⟩ k hk
  rw [mt_mk, pt_mk]
  cases hr : rp (.mk n l) names with
  | some k =>
    obtain ⟨hl0, hk⟩ := rp_some hr
    have hl0 : l = [] := hl0
    subst hl0
    have hix : ix names n = some k := hr
    have hkb : k < by'.length := by
      have := (List.getElem?_eq_some_iff.1 hk).1
      omega
    obtain ⟨b, hb⟩ := at_of hkb
    have hnb : nth (.mk [] []) by' k = b := by rw [nth_get, hb]; rfl
    obtain ⟨x, hx⟩ := at_of (l := f) (k := k) (by rw [hf.1]; exact hkb)
    have leaf : ∀ f' : List (Option Ty), (∃ u, f'[k]? = some (some u)) → ∀ n', LeafN n' (.mk n []) → ∀ k', ix names n' = some k' → ∃ u, f'[k']? = some (some u) := by
      intro f' hu n' hn' k' hk'
      cases hn' with
      | here => rw [hix] at hk'; injection hk' with hk'; subst hk'; exact hu
      | there _ _ a ha _ => simp at ha
    simp only [hnb, hx]
    cases x with
    | some u =>
      have := hf.2 k u hx
      rw [hb] at this
      injection this with this
      subst this
      exact ⟨(same_eq _ _).2 rfl, hf, fun _ _ h => h, leaf f ⟨_, hx⟩⟩
    | none =>
      have hset : (f.set k (some b))[k]? = some (some b) := by rw [List.getElem?_set, if_pos rfl, if_pos (by rw [hf.1]; exact hkb)]
      refine ⟨rfl, ⟨by simpa using hf.1, fun j u hj => ?_⟩, fun j u hj => ?_, leaf _ ⟨b, hset⟩⟩
      · by_cases hjk : k = j
        · subst hjk
          rw [hset] at hj
          injection hj with hj; injection hj with hj
          rw [hb, hj]
        · rw [List.getElem?_set, if_neg hjk] at hj
          exact hf.2 j u hj
      · rw [List.getElem?_set]
        split
        · rename_i e; subst e; rw [hx] at hj; cases hj
        · exact hj
  | none =>
    obtain ⟨b1, b2, b3, b4⟩ := hL l ih f hf
    have hn : (n == (Ty.mk n (ptL names by' l)).name) = true := by simp [Ty.name]
    have hc : (l.length == (Ty.mk n (ptL names by' l)).args.length) = true := by simp [Ty.args, ptL_map]
    have hc' : (l.length == (ptL names by' l).length) = true := hc
    simp only [hn, hc, hc', cond_true, Ty.args]
    refine ⟨b1, b2, b3, fun n' hn' k hk => ?_⟩
    cases hn' with
    | here =>
      have : rp (.mk n []) names = some k := hk
      rw [hr] at this
      cases this
    | there _ _ a ha h => exact b4 n' ⟨a, ha, h⟩ k hk

/-! ### Made types -/
theorem pt_none : ∀ t : Ty, pt [] [] t = t := by
  refine Ty.ind fun n l ih => ?_
  rw [pt_mk]
  have : rp (.mk n l) [] = none := by cases l <;> rfl
  rw [this]
  simp only
  rw [ptL_map, List.map_congr_left (g := id) fun t ht => ih t ht, List.map_id]
/-- How large a made type gets when types of some size are put in. -/
def rho (r : Nat) : Nat → Nat
  | 0 => r
  | 1 => r + 1
  | D + 2 => 1 + 3 * rho r (D + 1)
theorem rho_ge {r : Nat} (hr : 1 ≤ r) : ∀ D, r ≤ rho r D
  | 0 => Nat.le_refl _
  | 1 => by simp [rho]
  | D + 2 => by have := rho_ge hr (D + 1); simp only [rho]; omega
theorem rho_succ {r : Nat} (hr : 1 ≤ r) : ∀ D, 1 + rho r D ≤ rho r (D + 1)
  | 0 => by simp only [rho]; omega
  | D + 1 => by have := rho_ge hr (D + 1); simp only [rho]; omega
theorem size_leaf {names : List Str} {by' : List Ty} {r : Nat} (hr : 1 ≤ r) (hb : ∀ b, b ∈ by' → size b ≤ r) (n : Str) : size (pt names by' (.mk n [])) ≤ r := by
  rw [pt_mk]
  cases rp (.mk n []) names with
  | none => simp [ptL, size, sizeL]; exact hr
  | some k =>
    simp only
    rw [nth_get]
    cases hk : by'[k]? with
    | none => simp [size, sizeL]; exact hr
    | some b => exact hb b (List.mem_of_getElem? hk)
theorem size_pt {names : List Str} {by' : List Ty} {r : Nat} (hr : 1 ≤ r) (hb : ∀ b, b ∈ by' → size b ≤ r) : ∀ (D : Nat) (t : Ty), good D t → size (pt names by' t) ≤ rho r D
  | 0, .mk n l, h => by
    obtain ⟨_, rfl⟩ := h
    exact size_leaf hr hb n
  | D + 1, .mk n l, h => by
    have leaf := size_leaf (names := names) hr hb n
    have hge := rho_ge hr (D + 1)
    rcases h with ⟨_, rfl⟩ | ⟨_, a, rfl, h2⟩ | ⟨_, h2, h3, h4⟩
    · omega
    · have ih := size_pt (names := names) hr hb D a h2
      have hs := rho_succ hr D
      rw [pt_mk, show rp (.mk n [a]) names = none from rfl]
      simp only [ptL, size, sizeL]
      omega
    · cases D with
      | zero => rw [h3 rfl]; omega
      | succ D =>
        match l, h2, h4 with
        | [], _, _ => omega
        | [a], _, h4 =>
          have i1 := size_pt (names := names) hr hb (D + 1) a (h4 a (by simp))
          rw [pt_mk, show rp (.mk n [a]) names = none from rfl]
          simp only [ptL, size, sizeL, rho]
          omega
        | [a, b], _, h4 =>
          have i1 := size_pt (names := names) hr hb (D + 1) a (h4 a (by simp))
          have i2 := size_pt (names := names) hr hb (D + 1) b (h4 b (by simp))
          rw [pt_mk, show rp (.mk n [a, b]) names = none from rfl]
          simp only [ptL, size, sizeL, rho]
          omega
        | [a, b, c], _, h4 =>
          have i1 := size_pt (names := names) hr hb (D + 1) a (h4 a (by simp))
          have i2 := size_pt (names := names) hr hb (D + 1) b (h4 b (by simp))
          have i3 := size_pt (names := names) hr hb (D + 1) c (h4 c (by simp))
          rw [pt_mk, show rp (.mk n [a, b, c]) names = none from rfl]
          simp only [ptL, size, sizeL, rho]
          omega
        | _ :: _ :: _ :: _ :: _, h2, _ => simp at h2
theorem size_good {D : Nat} {t : Ty} (h : good D t) : size t ≤ rho 1 D := by
  have := size_pt (names := []) (by' := []) (r := 1) (by omega) (fun b hb => by simp at hb) D t h
  rwa [pt_none] at this
theorem param_names {n : Str} (h : n ∈ declNames ∨ n = nArray) : isParam n = false := by
  have : ∀ n, n ∈ declNames ++ [nArray] → isParam n = false := by decide
  exact this n (by rcases h with h | h <;> simp [h])
/-- The parameters of a made type have no arguments. -/
theorem good_leaf {n : Str} (hn : isParam n = true) : ∀ (D : Nat) (t : Ty), good D t → Occ n t → LeafN n t
  | 0, .mk m l, h, ho => by
    obtain ⟨_, rfl⟩ := h
    cases ho with
    | here => exact .here
    | there _ _ a ha _ => simp at ha
  | D + 1, .mk m l, h, ho => by
    cases ho with
    | here =>
      rcases h with ⟨_, rfl⟩ | ⟨h1, _⟩ | ⟨h1, _⟩
      · exact .here
      · rw [param_names (.inr h1)] at hn; cases hn
      · rw [param_names (.inl h1)] at hn; cases hn
    | there _ _ a ha h' =>
      have ga : good D a := by
        rcases h with ⟨_, rfl⟩ | ⟨_, b, rfl, h2⟩ | ⟨_, _, _, h4⟩
        · simp at ha
        · simp at ha; exact ha ▸ h2
        · exact h4 a ha
      exact .there m l a ha (good_leaf hn D a ga h')
end Go.AS.Q4
