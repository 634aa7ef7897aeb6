/- AS: regions whose order is open: the trace. -/
import Derived.Test.YtgihgeppdllnmaaAsE
namespace Go.AS
open Go.RowKit
set_option linter.all false

section
variable {P : Program} {cx : Cx} {C : CallF} {β : Type} {r : β}
theorem edgesB_ok {n : Nat} : ∀ {l : List Edge}, edgesB n l = true → ∀ e, e ∈ l → Region.binds .any e = true → e.on < n
  | a :: l, h, e, he, hb => by
    simp only [edgesB] at h
    cases hc : cond (Region.binds .any a) (Nat.blt a.on n) true with
    | false => rw [hc] at h; cases h
    | true =>
      rw [hc] at h
      rcases List.mem_cons.1 he with rfl | he
      · rw [hb] at hc
        simpa [Nat.blt_eq] using hc
      · exact edgesB_ok h e he hb
theorem cond3 {a b c : Bool} {x : Option β} (h : cond (cond a (cond b c false) false) x none = some r) : a = true ∧ b = true ∧ c = true ∧ x = some r := by
  cases a <;> cases b <;> cases c <;> simp at h
  exact ⟨rfl, rfl, rfl, h⟩
theorem drawK_inv (E : EnvOk P cx C) {all : Array Oper} {bs : List (List Nat)} {k : St → Option β} : ∀ {os : List Oper} {n : Nat} {fs : List FP} {s : St}, drawK cx C all.toList bs n fs os s k = some r → ∃ recs sN, Tr P all bs n fs os s recs sN ∧ k sN = some r
  | [], n, fs, s, h => ⟨[], s, rfl, h⟩
  | o :: os, n, fs, s, h => by
    simp only [drawK] at h
    cases hbst : bst cx o (maskS (opReads all.toList o ++ o.dst.toList) 0 s.slots) s.heap with
    | some q =>
      obtain ⟨kk, e'⟩ := q
      rw [hbst] at h
      simp only at h
      obtain ⟨c, h⟩ := cond_some h
      have c1 : edgesB n o.after.toList = true := by
        cases hh : edgesB n o.after.toList with
        | true => rfl
        | false => rw [hh] at c; cases c
      have c2 : clash (nth [] bs n) ⟨opReads all.toList o ++ o.dst.toList, o.dst.toList, [kk], [kk]⟩ n fs = false := by
        rw [c1, cond_true] at c
        cases hh : clash (nth [] bs n) ⟨opReads all.toList o ++ o.dst.toList, o.dst.toList, [kk], [kk]⟩ n fs with
        | false => rfl
        | true => rw [hh] at c; cases c
      obtain ⟨b1, b2, e, b3, b4⟩ := bst_ok E.ok hbst
      let rc : Rec := ⟨o, opReads all.toList o ++ o.dst.toList, [kk], .undef, [(kk, e')], [kk], true⟩
      have happ : rc.app s = ⟨s.slots, upd s.heap kk e'⟩ := by
        show (⟨match o.dst with | some d => setN s.slots d .undef | none => s.slots, mergeH s.heap [(kk, e')] [kk]⟩ : St) = _
        rw [b1]
        simp [mergeH, look, asc]
      rw [← happ] at h
      obtain ⟨recs, sN, htr, hk⟩ := drawK_inv E h
      have hfr : ∀ k, k ∈ rc.wr → (∃ e, look rc.h1 k = some e) ∧ (k ∈ rc.M ∨ look s.heap k = none) := by
        intro k hk
        have hk : k = kk := by simpa [rc] using hk
        subst hk
        exact ⟨⟨e', by simp [rc, look, asc]⟩, .inl (by simp [rc])⟩
      exact ⟨rc :: recs, sN, ⟨rfl, ⟨rfl, fun hf => (by cases hf), fun hf => (by cases hf), fun hf => (by cases hf), fun _ => ⟨b1, b2, kk, e, e', rfl, by simp [rc], rfl, b3, b4⟩, fun hf => (by cases hf),
        hfr, fun e he hb => edgesB_ok c1 e (by simpa using he) hb⟩, c2, htr⟩, hk⟩
    | none =>
    rw [hbst] at h
    simp only at h
    obtain ⟨c1, c2, c3, h⟩ := cond3 h
    generalize hR : opReads all.toList o ++ o.dst.toList = R at h c2 c3
    generalize hM : cond (shal o) [] (reachA s.heap 1000 (refsAs (maskS R 0 s.slots)) []) = M at h c2 c3
    have hn := stepK_nat (cx := cx) (C := C) (fun t : St × List Nat × List Nat => cond (cond (clash (nth [] bs n) ⟨R, o.dst.toList, M, t.2.2⟩ n fs) false (freshWr M s.heap t.1.heap t.2.2))
        (drawK cx C all.toList bs (n + 1) (⟨R, o.dst.toList, M, t.2.2⟩ :: fs) os ⟨mergeS R 0 s.slots t.1.slots, mergeH s.heap t.1.heap t.2.2⟩ k) none) all.toList o ⟨maskS R 0 s.slots, pickH M s.heap⟩ fun a b c => some (a, b, c)
    simp only [Option.bind_some] at hn
    rw [h] at hn
    cases ht : stepK cx C all.toList o ⟨maskS R 0 s.slots, pickH M s.heap⟩ (fun a b c => some (a, b, c)) with
    | none => rw [ht] at hn; cases hn
    | some t =>
      rw [ht] at hn
      simp only [Option.bind_some] at hn
      obtain ⟨c4, hn⟩ := cond_some hn
      obtain ⟨v, h1, rd, wr, hform⟩ := stepK_form ht
      injection hform with hform
      subst hform
      have hheap : ((⟨maskS R 0 s.slots, pickH M s.heap⟩ : St).putd o.dst v h1).heap = h1 := by cases hd : o.dst <;> rfl
      simp only [hheap] at hn c4
      cases hcl : clash (nth [] bs n) ⟨R, o.dst.toList, M, wr⟩ n fs with
      | true => rw [hcl] at c4; cases c4
      | false =>
        rw [hcl] at c4
        simp only [cond_false] at c4
        have hslots : mergeS R 0 s.slots ((⟨maskS R 0 s.slots, pickH M s.heap⟩ : St).putd o.dst v h1).slots = match o.dst with | some d => setN s.slots d v | none => s.slots := by
          cases hd : o.dst with
          | none => exact mergeS_mask R s.slots 0
          | some d => exact mergeS_put R v s.slots 0 d (by rw [← hR, hd]; simp)
        let rc : Rec := ⟨o, R, M, v, h1, wr, false⟩
        have happ : rc.app s = ⟨mergeS R 0 s.slots ((⟨maskS R 0 s.slots, pickH M s.heap⟩ : St).putd o.dst v h1).slots, mergeH s.heap h1 wr⟩ := by
          rw [hslots]; rfl
        rw [← happ] at hn
        obtain ⟨recs, sN, htr, hk⟩ := drawK_inv E hn
        refine ⟨rc :: recs, sN, ⟨rfl, ⟨hR.symm, fun _ hsh => subN_ok (by rw [show shal o = false from hsh] at c2; exact c2), fun _ => c3, fun _ => ?_, fun hf => (by cases hf), fun _ hsh => ?_, freshWr_ok c4, fun e he hb => edgesB_ok c1 e (by simpa using he) hb⟩, hcl, htr⟩, hk⟩
        rotate_left
        · obtain ⟨v2, g1, g2, g3⟩ := shal_step (all := all.toList) E.ok (show shal o = true from hsh) ht
          injection g1 with g1
          injection g1 with g1 g4
          injection g4 with g4 g5
          refine ⟨g5.symm, g2, v2, fun d hd hl => ?_, g3⟩
          have hd : o.dst = some d := hd
          have e5 := congrArg St.slots g1
          rw [hd] at e5
          exact setN_inj _ d v2 v e5 hl
        intro hsh base wb w X cv a H hs
        obtain ⟨v', h', rd', wr', heq, hh⟩ := stepK_ok (all := all) E H hs ht
        injection heq with heq
        injection heq with e1 e2
        injection e2 with e2 e3
        subst e3
        have e4 : h' = h1 := by
          have := congrArg St.heap e1
          cases hd : o.dst <;> (rw [hd] at this; exact this)
        subst e4
        refine ⟨v', fun d hd hl => ?_, hh⟩
        have hd : o.dst = some d := hd
        have := congrArg St.slots e1
        rw [hd] at this
        exact setN_inj _ d v' v this hl
end

/-! ### What stands when a set of operations has been taken -/
def foldR (L : Nat → Bool) : Nat → List Rec → St → St
  | _, [], s => s
  | i, rc :: recs, s => foldR L (i + 1) recs (cond (L i) (rc.app s) s)
theorem foldR_heap {L L' : Nat → Bool} {k : Nat} : ∀ (recs : List Rec) (i : Nat) (s s' : St), (∀ (j : Nat) rc, recs[j]? = some rc → ∀ k, k ∈ rc.wr → ∃ e, look rc.h1 k = some e) → look s.heap k = look s'.heap k →
    (∀ (j : Nat) rc, recs[j]? = some rc → k ∈ rc.wr → L (i + j) = L' (i + j)) → look (foldR L i recs s).heap k = look (foldR L' i recs s').heap k
  | [], i, s, s', _, h, _ => h
  | rc :: recs, i, s, s', hw, h, hL => by
    simp only [foldR]
    refine foldR_heap recs (i + 1) _ _ (fun j rc hj => hw (j + 1) rc (by simpa using hj)) ?_ (fun j rc hj hk => by
      have := hL (j + 1) rc (by simpa using hj) hk
      rwa [show i + (j + 1) = i + 1 + j by omega] at this)
    have hw0 := hw 0 rc rfl
    have app : ∀ s, look (rc.app s).heap k = if k ∈ rc.wr then look rc.h1 k else look s.heap k := fun s => look_mergeH rc.wr s.heap k hw0
    by_cases hk : k ∈ rc.wr
    · have h0 := hL 0 rc rfl hk
      rw [Nat.add_zero] at h0
      rw [← h0]
      cases L i with
      | true => simp only [cond_true, app, if_pos hk]
      | false => exact h
    · have keep : ∀ (b : Bool) s, look (cond b (rc.app s) s).heap k = look s.heap k := by
        intro b s
        cases b with
        | true => simp only [cond_true, app, if_neg hk]
        | false => rfl
      rw [keep, keep, h]
theorem foldR_len {L : Nat → Bool} : ∀ (recs : List Rec) (i : Nat) (s : St), (foldR L i recs s).slots.length = s.slots.length
  | [], _, _ => rfl
  | rc :: recs, i, s => by
    simp only [foldR, foldR_len recs (i + 1)]
    cases L i with
    | false => rfl
    | true =>
      simp only [cond_true, Rec.app]
      split
      · rw [setN_set]; simp
      · rfl
theorem foldR_slot {L L' : Nat → Bool} {t : Nat} : ∀ (recs : List Rec) (i : Nat) (s s' : St), s.slots[t]? = s'.slots[t]? → (∀ (j : Nat) rc, recs[j]? = some rc → rc.o.dst = some t → L (i + j) = L' (i + j)) →
    (foldR L i recs s).slots[t]? = (foldR L' i recs s').slots[t]?
  | [], i, s, s', h, _ => h
  | rc :: recs, i, s, s', h, hL => by
    simp only [foldR]
    refine foldR_slot recs (i + 1) _ _ ?_ (fun j rc hj hk => by
      have := hL (j + 1) rc (by simpa using hj) hk
      rwa [show i + (j + 1) = i + 1 + j by omega] at this)
    by_cases hk : rc.o.dst = some t
    · have h0 := hL 0 rc rfl hk
      rw [Nat.add_zero] at h0
      rw [← h0]
      cases L i with
      | true =>
        simp only [cond_true, Rec.app, hk, setN_set, List.getElem?_set, if_true]
        have hl : t < s.slots.length ↔ t < s'.slots.length := by
          constructor
          · intro hlt
            rw [List.getElem?_eq_getElem hlt] at h
            exact (List.getElem?_eq_some_iff.1 h.symm).1
          · intro hlt
            rw [List.getElem?_eq_getElem hlt] at h
            exact (List.getElem?_eq_some_iff.1 h).1
        by_cases h1 : t < s.slots.length
        · rw [if_pos h1, if_pos (hl.1 h1)]
        · rw [if_neg h1, if_neg (fun h2 => h1 (hl.2 h2))]
      | false => exact h
    · have keep : ∀ (b : Bool) (s : St), (cond b (rc.app s) s).slots[t]? = s.slots[t]? := by
        intro b s
        cases b with
        | false => rfl
        | true =>
          simp only [cond_true, Rec.app]
          split
          · rename_i d hd
            rw [setN_set, List.getElem?_set, if_neg]
            intro he
            subst he
            exact hk hd
          · rfl
      rw [keep, keep, h]
end Go.AS
