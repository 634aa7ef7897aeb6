/- AS: regions whose order is open: soundness. -/
import Derived.Test.YtgihgeppdllnmaaAsG
namespace Go.AS
open Go.RowKit
set_option linter.all false

/-! ### What stands before what -/
theorem mem_unionN : ∀ {l m : List Nat} {p : Nat}, p ∈ unionN l m → p ∈ l ∨ p ∈ m
  | [], m, p, h => .inr h
  | k :: l, m, p, h => by
    simp only [unionN] at h
    cases hb : mem m k with
    | true =>
      rw [hb] at h
      rcases mem_unionN h with h | h
      · exact .inl (by simp [h])
      · exact .inr h
    | false =>
      rw [hb] at h
      rcases List.mem_cons.1 h with rfl | h
      · exact .inl (by simp)
      · rcases mem_unionN h with h | h
        · exact .inl (by simp [h])
        · exact .inr h
def beforeOne (acc : List (List Nat)) (o : Oper) : List Nat := o.after.toList.foldl (fun l e => cond (Region.binds .any e) (unionN (e.on :: nth [] acc e.on) l) l) []
theorem mem_beforeOne {acc : List (List Nat)} {p : Nat} : ∀ (es : List Edge) (l : List Nat), p ∈ es.foldl (fun l e => cond (Region.binds .any e) (unionN (e.on :: nth [] acc e.on) l) l) l → p ∈ l ∨ ∃ e, e ∈ es ∧ Region.binds .any e = true ∧ (p = e.on ∨ p ∈ nth [] acc e.on)
  | [], l, h => .inl h
  | e :: es, l, h => by
    simp only [List.foldl_cons] at h
    rcases mem_beforeOne es _ h with h | ⟨e', h1, h2⟩
    · cases hb : Region.binds .any e with
      | true =>
        rw [hb] at h
        rcases mem_unionN h with h | h
        · rcases List.mem_cons.1 h with h | h
          · exact .inr ⟨e, by simp, hb, .inl h⟩
          · exact .inr ⟨e, by simp, hb, .inr h⟩
        · exact .inl h
      | false => rw [hb] at h; exact .inl h
    · exact .inr ⟨e', by simp [h1], h2⟩
theorem befores_old (os : List Oper) : ∀ (acc : List (List Nat)) (i : Nat), i < acc.length → nth [] (befores acc os) i = nth [] acc i := by
  induction os with
  | nil => intro acc i _; rfl
  | cons o os ih =>
    intro acc i hi
    simp only [befores]
    rw [ih _ i (by simp; omega), nth_get, nth_get, List.getElem?_append_left hi]
theorem befores_at (os : List Oper) : ∀ (acc : List (List Nat)) (j : Nat) (o : Oper), os[j]? = some o → ∀ p, p ∈ nth [] (befores acc os) (acc.length + j) → ∃ e, e ∈ o.after ∧ Region.binds .any e = true ∧ (p = e.on ∨ p ∈ nth [] (befores acc os) e.on) := by
  induction os with
  | nil => intro acc j o h; simp at h
  | cons o0 os ih =>
    intro acc j o hj p hp
    cases j with
    | zero =>
      simp at hj
      subst hj
      simp only [befores, Nat.add_zero] at hp ⊢
      rw [befores_old os _ acc.length (by simp), nth_get, List.getElem?_append_right (Nat.le_refl _), Nat.sub_self] at hp
      replace hp : p ∈ o0.after.toList.foldl (fun l e => cond (Region.binds .any e) (unionN (e.on :: nth [] acc e.on) l) l) [] := hp
      rcases mem_beforeOne _ _ hp with h | ⟨e, h1, h2, h3⟩
      · simp at h
      · refine ⟨e, by simpa using h1, h2, ?_⟩
        rcases h3 with h3 | h3
        · exact .inl h3
        · right
          have hlt : e.on < acc.length := by
            by_cases hlt : e.on < acc.length
            · exact hlt
            · rw [nth_get, List.getElem?_eq_none (by omega)] at h3
              simp at h3
          rw [befores_old os _ e.on (by simp; omega), nth_get, List.getElem?_append_left hlt, ← nth_get]
          exact h3
    | succ j =>
      simp only [befores] at hp ⊢
      have := ih (acc ++ [o0.after.toList.foldl (fun l e => cond (Region.binds .any e) (unionN (e.on :: nth [] acc e.on) l) l) []]) j o (by simpa using hj) p (by
        simp only [List.length_append, List.length_cons, List.length_nil]
        rwa [show acc.length + (j + 1) = acc.length + (0 + 1) + j by omega] at hp)
      exact this

theorem meet_no {a b : List Nat} (h : meet a b = false) {k : Nat} (ha : k ∈ a) (hb : k ∈ b) : False := meet_false h k ha hb
theorem apart_ok {a b : FP} (h : FP.apart a b = true) : meet a.ws b.rs = false ∧ meet a.rs b.ws = false ∧ meet a.ws b.ws = false ∧ meet a.wr b.rd = false ∧ meet a.rd b.wr = false ∧ meet a.wr b.wr = false := by
  unfold FP.apart at h
  cases h1 : meet a.ws b.rs <;> cases h2 : meet a.rs b.ws <;> cases h3 : meet a.ws b.ws <;> cases h4 : meet a.wr b.rd <;> cases h5 : meet a.rd b.wr <;> cases h6 : meet a.wr b.wr <;> simp_all

theorem maskS_congr {R : List Nat} : ∀ {l l' : List AV} {i : Nat}, l.length = l'.length → (∀ t, i + t ∈ R → l[t]? = l'[t]?) → maskS R i l = maskS R i l'
  | [], [], _, _, _ => rfl
  | v :: l, v' :: l', i, hl, h => by
    simp only [maskS]
    rw [maskS_congr (l := l) (l' := l') (i := i + 1) (by simpa using hl) fun t ht => by
      have := h (t + 1) (by rwa [show i + (t + 1) = i + 1 + t by omega])
      simpa using this]
    congr 1
    cases hm : mem R i with
    | false => rfl
    | true =>
      have := h 0 (by simpa using (mem_iff R i).1 hm)
      simp at this
      rw [this]
  | [], _ :: _, _, hl, _ => by simp at hl
  | _ :: _, [], _, hl, _ => by simp at hl
theorem maskS_rel {w X cv h} {R : List Nat} : ∀ {l : List Value} {m : List AV} {i : Nat}, All2 (AR3 w X cv h) l m → All2 (AR3 w X cv h) l (maskS R i m)
  | [], [], _, _ => trivial
  | v :: l, a :: m, i, hh => by
    refine ⟨?_, maskS_rel hh.2⟩
    cases mem R i with
    | true => exact hh.1
    | false => trivial
theorem foldR_congr2 {L L' : Nat → Bool} (recs : List Rec) : ∀ (i : Nat) (s : St), (∀ j, j < recs.length → L (i + j) = L' (i + j)) → foldR L i recs s = foldR L' i recs s := by
  induction recs with
  | nil => intro i s _; rfl
  | cons rc recs ih =>
    intro i s h
    have h0 := h 0 (by simp)
    rw [Nat.add_zero] at h0
    simp only [foldR, h0]
    exact ih (i + 1) _ fun j hj => by
      have := h (j + 1) (by simp; omega)
      rwa [show i + (j + 1) = i + 1 + j by omega] at this
theorem Prog.congr {E : Start} {w X cv h h'} (p : Prog E w X cv h) (he : ∀ k, look h' k = look h k) : Prog E w X cv h' :=
  ⟨p.size, p.blk, p.xold, p.xkeep, fun b hb ⟨k, e, hk, hm⟩ => p.own b hb ⟨k, e, (he k) ▸ hk, hm⟩, fun k e hl => by
    obtain ⟨e', h1, h2⟩ := p.ent k e hl
    exact ⟨e', (he k).trans h1, h2⟩⟩
theorem Inv.drawn {S : Start} {a : Act} {w w' : World} {s : St} (hi : Inv S a w s) (hh : w'.heap = w.heap) (ho : w'.os = w.os ∧ w'.tape = w.tape ∧ w'.output = w.output) : Inv S a w' s := by
  obtain ⟨h0, X, cv, H, hs, p⟩ := hi
  have G : Go1 [] w X cv s.heap w' X cv s.heap := ⟨by rw [hh]; exact Nat.le_refl _, fun b _ _ => by rw [hh], fun _ _ h => h, fun _ _ h _ => h, fun _ _ h => h, fun k e hk => ⟨e, hk, .refl e, fun _ => rfl, fun _ => rfl⟩, fun _ _ => ⟨rfl, rfl⟩⟩
  refine ⟨h0, X, cv, H.step G ho (fun b hx => by rw [hh]; exact H.xge b hx) (fun k e b _ hk hm => ⟨by rw [hh], H.mx ⟨k, e, hk, hm⟩⟩) (fun k hk => by cases hk) (fun k k' e e' b hk => by cases hk), hs.imp fun _ _ => AR3.mono (G.keep H) G, p.go G⟩
def cntF : List Bool → Nat
  | [] => 0
  | b :: l => cond b (cntF l) (cntF l + 1)
theorem cntF_set : ∀ (l : List Bool) (i : Nat), l[i]? = some false → cntF (l.set i true) + 1 = cntF l
  | b :: l, 0, h => by simp at h; subst h; simp [cntF]
  | b :: l, i + 1, h => by
    have := cntF_set l i (by simpa using h)
    cases b <;> simp [cntF] <;> omega
theorem cntF_zero : ∀ {l : List Bool}, cntF l = 0 → ∀ (i : Nat) b, l[i]? = some b → b = true
  | b :: l, h, 0, b', hb => by simp at hb; subst hb; cases b <;> simp [cntF] at h ⊢
  | b :: l, h, i + 1, b', hb => by
    refine cntF_zero (l := l) ?_ i b' (by simpa using hb)
    cases b <;> simp [cntF] at h; exact h
theorem cntF_rep : ∀ n, cntF (List.replicate n false) = n
  | 0 => rfl
  | n + 1 => by simp [List.replicate_succ, cntF, cntF_rep n]
end Go.AS
