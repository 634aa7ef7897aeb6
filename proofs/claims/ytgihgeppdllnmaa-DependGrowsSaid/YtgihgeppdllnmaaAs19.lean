/- AS, part 19: code. -/
import Derived.Test.YtgihgeppdllnmaaAs18
import Derived.Test.YtgihgeppdllnmaaAsI
namespace Go.AS
open Go.RowKit
set_option linter.all false

section
variable {P : Program} {cx : Cx} {C : CallF} {β : Type} {r : β}
theorem step_inv (E : EnvOk P cx C) {S : Start} {all : Array Oper} {o : Oper} {s : St} {a : Act} {w : World} (hi : Inv S a w s) {k : St → List Nat → List Nat → Option β} (hk : stepK cx C all.toList o s k = some r) {K : Act → World → Prop} {Q : Exit → Act → World → Prop}
    (hK : ∀ s' rd wr a' w', k s' rd wr = some r → Inv S a' w' s' → K a' w') :
    if Region.wanted o (yielded all a.tmps) then o.wp P a w K Q else K (a.put o.dst undef) w := by
  obtain ⟨h0, X, cv, H, hs, p⟩ := hi
  obtain ⟨v, h', rd, wr, hk, hh⟩ := stepK_ok E H hs hk
  have fin : ∀ val w' X' cv', HRel S.base S.wb w' X' cv' h' → Go1 wr w X cv s.heap w' X' cv' h' → AR3 w' X' cv' h' val v → K (a.put o.dst val) w' := by
    intro val w' X' cv' H' G' A'
    refine hK _ _ _ _ _ hk ⟨?_, X', cv', ?_, ?_, ?_⟩
    · cases hd : o.dst <;> simp [Act.put, h0]
    · cases hd : o.dst <;> exact H'
    · have hs' := hs.imp fun _ _ => AR3.mono (G'.keep H) G'
      have := put_ok hs' A' o.dst h'
      cases hd : o.dst <;> (rw [hd] at this; exact this)
    · cases hd : o.dst <;> exact p.go G'
  rcases hh with ⟨hw, ho⟩ | ⟨hw, rfl, rfl⟩
  · rw [if_pos hw]; exact ho K Q fin
  · rw [if_neg (by rw [hw]; simp)]
    exact fin undef w X cv H ((Go1.refl w X cv s.heap []).more (by simp)) rfl
theorem regK_ok (E : EnvOk P cx C) {S : Start} {all : Array Oper} {Q : Exit → Act → World → Prop} : ∀ (rest : List Oper) (i : Nat) {s : St} {a : Act} {w : World} {k : St → Option β}, all.toList.drop i = rest → Inv S a w s → regK cx C all.toList rest s k = some r →
    (∀ s' a' w', k s' = some r → Inv S a' w' s' → Q .normal a' w') → wpOps P all Q (List.range' i rest.length) a w
  | [], i, s, a, w, k, _, hi, hk, hQ => hQ s a w hk hi
  | o :: os, i, s, a, w, k, hd, hi, hk, hQ => by
    have ho : all[i]? = some o := by
      have : (all.toList.drop i)[0]? = some o := by rw [hd]; rfl
      rw [List.getElem?_drop] at this
      simpa using this
    have hd' : all.toList.drop (i + 1) = os := by
      rw [← List.drop_drop, hd]
      rfl
    simp only [regK] at hk
    have h1 := step_inv E (K := wpOps P all Q (List.range' (i + 1) os.length)) (Q := Q) hi hk fun s' rd wr a' w' hk' hi' => regK_ok E os (i + 1) hd' hi' hk' hQ
    simp only [List.length_cons, List.range'_succ, wpOps, ho]
    split
    · rename_i hw; rw [if_pos hw] at h1; exact .inl h1
    · rename_i hw; rw [if_neg hw] at h1; exact h1

def tup3s (a : St) (b c : List Nat) : Option (St × List Nat × List Nat) := some (a, b, c)
theorem stepK_parts {all : List Oper} {o : Oper} {s : St} {k : St → List Nat → List Nat → Option β} (h : stepK cx C all o s k = some r) : ∃ t, stepK cx C all o s tup3s = some t ∧ k t.1 t.2.1 t.2.2 = some r := by
  have e : stepK cx C all o s k = (stepK cx C all o s tup3s).bind fun t => k t.1 t.2.1 t.2.2 := by rw [stepK_nat]; rfl
  rw [e] at h
  obtain ⟨t, h1, h2⟩ := Option.bind_eq_some_iff.1 h
  exact ⟨t, h1, h2⟩
theorem step_op (E : EnvOk P cx C) {S : Start} {ops : Array Oper} {i : Nat} {o : Oper} (ho : ops[i]? = some o) {s : St} {t : St × List Nat × List Nat} (hk : stepK cx C ops.toList o s tup3s = some t) {a : Act} {w : World} (hi : Inv S a w s) {K : Act → World → Prop} {Q : Exit → Act → World → Prop}
    (hK : ∀ a' w', Inv S a' w' t.1 → K a' w') : wpOp P ops Q i K a w := by
  have := step_inv E (K := K) (Q := Q) hi hk fun s' rd wr a' w' h hi' => by
    unfold tup3s at h
    injection h with h
    subst h
    exact hK a' w' hi'
  unfold wpOp
  rw [ho]
  simp only
  split
  · rename_i hw; rw [if_pos hw] at this; exact .inl this
  · rename_i hw; rw [if_neg hw] at this; exact this
theorem mem_boundBy : ∀ {l : List Edge} {p : Nat}, p ∈ boundBy l ↔ ∃ e, e ∈ l ∧ Region.binds .any e = true ∧ e.on = p
  | [], p => by simp [boundBy]
  | e :: l, p => by
    have ih := mem_boundBy (l := l) (p := p)
    simp only [boundBy]
    cases hb : Region.binds .any e with
    | true =>
      rw [cond_true, List.mem_cons, ih]
      constructor
      · rintro (h | ⟨e', h1, h2, h3⟩)
        · exact ⟨e, by simp, hb, h.symm⟩
        · exact ⟨e', by simp [h1], h2, h3⟩
      · rintro ⟨e', h1, h2, h3⟩
        rcases List.mem_cons.1 h1 with rfl | h1
        · exact .inl h3.symm
        · exact .inr ⟨e', h1, h2, h3⟩
    | false =>
      rw [cond_false, ih]
      constructor
      · rintro ⟨e', h1, h2, h3⟩
        exact ⟨e', by simp [h1], h2, h3⟩
      · rintro ⟨e', h1, h2, h3⟩
        rcases List.mem_cons.1 h1 with rfl | h1
        · rw [hb] at h2; cases h2
        · exact ⟨e', h1, h2, h3⟩
theorem coin_ok (E : EnvOk P cx C) (hmix : P.follows .mixedOrders = true) {S : Start} {id : Nat} {ops : Array Oper} {s : St} {a : Act} {w : World} {k : St → Option β} (hi : Inv S a w s) (hb : coinL ops.toList = true)
    (h1 : regK cx C ops.toList ops.toList s k = some r) (h2 : regK cx C ops.toList (swapL ops.toList) s k = some r)
    {Q : Exit → Act → World → Prop} (hQ : ∀ s' a' w', k s' = some r → Inv S a' w' s' → Q .normal a' w') : (Code.region id ops true).wp P Q a w := by
  unfold coinL at hb
  split at hb
  · rename_i o0 o1 o2 o3 hl
    have hops : ops = #[o0, o1, o2, o3] := by apply Array.ext'; rw [hl]
    subst hops
    obtain ⟨b0, hb⟩ := cond_some' hb
    obtain ⟨b1, hb⟩ := cond_some' hb
    obtain ⟨b2, hb⟩ := cond_some' hb
    obtain ⟨b3, hb⟩ := cond_some' hb
    obtain ⟨b1, c1⟩ := cond_some' b1
    obtain ⟨b2, c2⟩ := cond_some' b2
    obtain ⟨b3, b4⟩ := cond_some' b3
    have e0 := subN_ok b0
    have e1 := subN_ok c1
    have e2 := subN_ok c2
    have e3 := subN_ok hb
    have b1 := (mem_iff _ _).1 b1
    have b2 := (mem_iff _ _).1 b2
    have b3 := (mem_iff _ _).1 b3
    have b4 := (mem_iff _ _).1 b4
    clear hb c1 c2 b0
    have g0 : (#[o0, o1, o2, o3] : Array Oper)[0]? = some o0 := rfl
    have g1 : (#[o0, o1, o2, o3] : Array Oper)[1]? = some o1 := rfl
    have g2 : (#[o0, o1, o2, o3] : Array Oper)[2]? = some o2 := rfl
    have g3 : (#[o0, o1, o2, o3] : Array Oper)[3]? = some o3 := rfl
    -- the steps
    simp only [regK, swapL] at h1 h2
    obtain ⟨t0, s0, h1⟩ := stepK_parts h1
    obtain ⟨t0', s0', h2⟩ := stepK_parts h2
    rw [s0] at s0'
    injection s0' with s0'
    subst s0'
    obtain ⟨t1, s1, h1⟩ := stepK_parts h1
    obtain ⟨t2, s2, h1⟩ := stepK_parts h1
    obtain ⟨t3, s3, h1⟩ := stepK_parts h1
    obtain ⟨u2, v2, h2⟩ := stepK_parts h2
    obtain ⟨u1, v1, h2⟩ := stepK_parts h2
    obtain ⟨u3, v3, h2⟩ := stepK_parts h2
    -- what is ready
    have rd : ∀ (listed : Array Bool) (i : Nat), i ∈ Region.ready .any #[o0, o1, o2, o3] listed → listed.getD i true = false ∧ ((i = 0) ∨ (i = 1 ∧ listed.getD 0 false = true) ∨ (i = 2 ∧ listed.getD 0 false = true) ∨ (i = 3 ∧ listed.getD 1 false = true ∧ listed.getD 2 false = true)) := by
      intro listed i hi
      obtain ⟨q1, q2, o, q3, q4⟩ := ready_mem hi
      refine ⟨q2, ?_⟩
      have q4 : ∀ p, p ∈ boundBy o.after.toList → listed.getD p false = true := by
        intro p hp
        obtain ⟨e, p1, p2, rfl⟩ := mem_boundBy.1 hp
        exact q4 e (by simpa using p1) p2
      have hi4 : i < 4 := q1
      match i, hi4 with
      | 0, _ => exact .inl rfl
      | 1, _ => rw [g1] at q3; injection q3 with q3; subst q3; exact .inr (.inl ⟨rfl, q4 0 b1⟩)
      | 2, _ => rw [g2] at q3; injection q3 with q3; subst q3; exact .inr (.inr (.inl ⟨rfl, q4 0 b2⟩))
      | 3, _ => rw [g3] at q3; injection q3 with q3; subst q3; exact .inr (.inr (.inr ⟨rfl, q4 1 b3, q4 2 b4⟩))
    have mk : ∀ (listed : Array Bool) (i : Nat) (o : Oper), (#[o0, o1, o2, o3] : Array Oper)[i]? = some o → listed.getD i true = false → (∀ p, p ∈ boundBy o.after.toList → listed.getD p false = true) → i ∈ Region.ready .any #[o0, o1, o2, o3] listed := by
      intro listed i o ho hl' he
      exact ready_of ho hl' fun e h1 h2 => he e.on (mem_boundBy.2 ⟨e, by simpa using h1, h2, rfl⟩)
    have done : ∀ (a : Act) (w : World) (s' : St), k s' = some r → Inv S a w s' → wpAny P .any #[o0, o1, o2, o3] Q 0 #[true, true, true, true] a w := by
      intro a w s' hk hi
      refine ⟨?_, hQ s' a w hk hi⟩
      apply List.eq_nil_iff_forall_not_mem.2
      intro i hi
      obtain ⟨q1, q2⟩ := rd _ _ hi
      rcases q2 with rfl | ⟨rfl, _⟩ | ⟨rfl, _⟩ | ⟨rfl, _⟩ <;> cases q1
    have last : ∀ (a : Act) (w : World) (s' : St) (t : St × List Nat × List Nat), stepK cx C [o0, o1, o2, o3] o3 s' tup3s = some t → k t.1 = some r → Inv S a w s' → wpAny P .any #[o0, o1, o2, o3] Q 1 #[true, true, true, false] a w := by
      intro a w s' t hs hk hi
      refine ⟨fun h0 => ?_, fun i him => ?_⟩
      · have := mk #[true, true, true, false] 3 o3 g3 rfl (fun p hp => by
          have := e3 p hp
          simp at this
          rcases this with rfl | rfl | rfl <;> rfl)
        rw [h0] at this
        cases this
      · obtain ⟨q1, q2⟩ := rd _ _ him
        rcases q2 with rfl | ⟨rfl, _⟩ | ⟨rfl, _⟩ | ⟨rfl, _⟩
        · cases q1
        · cases q1
        · cases q1
        · exact step_op E g3 hs hi fun a' w' hi' => done a' w' _ hk hi'
    have way1 : ∀ (a : Act) (w : World), Inv S a w t1.1 → wpAny P .any #[o0, o1, o2, o3] Q 2 #[true, true, false, false] a w := by
      intro a w hi
      refine ⟨fun h0 => ?_, fun i him => ?_⟩
      · have := mk #[true, true, false, false] 2 o2 g2 rfl (fun p hp => by
          have := e2 p hp
          simp at this
          subst this
          rfl)
        rw [h0] at this
        cases this
      · obtain ⟨q1, q2⟩ := rd _ _ him
        rcases q2 with rfl | ⟨rfl, _⟩ | ⟨rfl, _⟩ | ⟨rfl, _, q3⟩
        · cases q1
        · cases q1
        · exact step_op E g2 s2 hi fun a' w' hi' => last a' w' _ _ s3 h1 hi'
        · cases q3
    have way2 : ∀ (a : Act) (w : World), Inv S a w u2.1 → wpAny P .any #[o0, o1, o2, o3] Q 2 #[true, false, true, false] a w := by
      intro a w hi
      refine ⟨fun h0 => ?_, fun i him => ?_⟩
      · have := mk #[true, false, true, false] 1 o1 g1 rfl (fun p hp => by
          have := e1 p hp
          simp at this
          subst this
          rfl)
        rw [h0] at this
        cases this
      · obtain ⟨q1, q2⟩ := rd _ _ him
        rcases q2 with rfl | ⟨rfl, _⟩ | ⟨rfl, _⟩ | ⟨rfl, q3, _⟩
        · cases q1
        · exact step_op E g1 v1 hi fun a' w' hi' => last a' w' _ _ v3 h2 hi'
        · cases q1
        · cases q3
    have mid : ∀ (a : Act) (w : World), Inv S a w t0.1 → wpAny P .any #[o0, o1, o2, o3] Q 3 #[true, false, false, false] a w := by
      intro a w hi
      refine ⟨fun h0 => ?_, fun i him => ?_⟩
      · have := mk #[true, false, false, false] 1 o1 g1 rfl (fun p hp => by
          have := e1 p hp
          simp at this
          subst this
          rfl)
        rw [h0] at this
        cases this
      · obtain ⟨q1, q2⟩ := rd _ _ him
        rcases q2 with rfl | ⟨rfl, _⟩ | ⟨rfl, _⟩ | ⟨rfl, q3, _⟩
        · cases q1
        · exact step_op E g1 s1 hi fun a' w' hi' => way1 a' w' hi'
        · exact step_op E g2 v2 hi fun a' w' hi' => way2 a' w' hi'
        · cases q3
    refine wp_region_any hmix (show wpAny P .any #[o0, o1, o2, o3] Q 4 #[false, false, false, false] a _ from ⟨fun h0 => ?_, fun i him => ?_⟩)
    · have := mk #[false, false, false, false] 0 o0 g0 rfl (fun p hp => by
        have := e0 p hp
        cases this)
      rw [h0] at this
      cases this
    · obtain ⟨q1, q2⟩ := rd _ _ him
      rcases q2 with rfl | ⟨rfl, q3⟩ | ⟨rfl, q3⟩ | ⟨rfl, q3, _⟩
      · exact step_op E g0 s0 (hi.drawn (w' := { w with drawn := w.drawn + 1 }) rfl ⟨rfl, rfl, rfl⟩) fun a' w' hi' => mid a' w' hi'
      · cases q3
      · cases q3
      · cases q3
  · cases hb
where
  cond_some' {a b : Bool} (h : cond a b false = true) : a = true ∧ b = true := by cases a <;> simp_all
theorem coinK_ok {x y : Option β} (h : coinK x y = some r) : x = some r ∧ y = some r := by
  unfold coinK at h
  split at h
  · rename_i he; exact ⟨h, he ▸ h⟩
  · cases h

theorem iter_lfp {F : (St → Option β) → St → Option β} {s : St} (h : lfp F s = some r) : ∃ n, iter F n s = some r := by
  unfold lfp at h
  split at h
  · exact ⟨_, h⟩
  · cases h
theorem imp_keys {S : Start} {a : Act} {w : World} {s : St} (hi : Inv S a w s) {k : Nat} {e : Ent} (hl : look S.h k = some e) : k ∈ s.heap.map (·.1) := by
  obtain ⟨_, X, cv, _, _, p⟩ := hi
  obtain ⟨e', h1, _⟩ := p.ent k e hl
  clear p
  revert h1
  generalize s.heap = h
  intro h1
  induction h with
  | nil => cases h1
  | cons q h ih =>
    obtain ⟨k0, e0⟩ := q
    simp only [look, asc] at h1
    cases hb : Nat.beq k0 k with
    | true => simp [beq_eq hb]
    | false => rw [hb] at h1; simp; exact .inr (by simpa using ih h1)

theorem meetK_ok {S : Start} (hS : ∀ k e, look S.h k = some e → k < 4096) {lv : Lv} {c : Code} {f : St → Option β} {s : St} {a : Act} {w : World} (hi : Inv S a w s) (h : meetK lv c f s = some r) : ∃ s', f s' = some r ∧ Inv S a w s' := by
  unfold meetK at h
  split at h
  · exact ⟨s, h, hi⟩
  · split at h
    · exact ⟨s, h, hi⟩
    · rename_i m _
      obtain ⟨n, hn⟩ := iter_lfp h
      cases n with
      | zero => cases hn
      | succ n =>
        refine ⟨_, hn, norm_ok hi _ fun k e hl => ?_⟩
        simp only [keepKeys, List.mem_append, List.mem_filter]
        exact .inl ⟨imp_keys hi hl, by simpa [Nat.blt_eq] using hS k e hl⟩
theorem look1_ok {l : List (Nat × (St → Option β))} {id : Nat} {s : St} (h : look1 l id s = some r) : ∃ f, (id, f) ∈ l ∧ f s = some r ∧ ∀ s', look1 l id s' = f s' := by
  induction l with
  | nil => cases h
  | cons q l ih =>
    obtain ⟨k, f⟩ := q
    simp only [look1] at h
    cases hb : Nat.beq k id with
    | true =>
      have := beq_eq hb
      subst this
      rw [hb] at h
      exact ⟨f, by simp, h, fun s' => by simp only [look1, hb, cond_true]⟩
    | false =>
      rw [hb] at h
      obtain ⟨f', h1, h2, h3⟩ := ih h
      exact ⟨f', by simp [h1], h2, fun s' => by simp only [look1, hb, cond_false]; exact h3 s'⟩

/-- What follows a piece of code. -/
structure KsOk (S : Start) (ks : Ks β) (r : β) (Q : Exit → Act → World → Prop) : Prop where
  kn : ∀ s a w, ks.kn s = some r → Inv S a w s → Q .normal a w
  ex : ∀ id s a w, look1 ks.ex id s = some r → Inv S a w s → Q (.exit id) a w
  kr : ∀ s a w, ks.kr s = some r → Inv S a w s → Q .ret a w

theorem run_ok (E : EnvOk P cx C) (hmix : P.follows .mixedOrders = true) {S : Start} (hS : ∀ k e, look S.h k = some e → k < 4096) {lv : Lv} : ∀ (c : Code) {ks : Ks β} {s : St} {a : Act} {w : World} {Q : Exit → Act → World → Prop}, KsOk S ks r Q → Inv S a w s → run cx C lv c ks s = some r → c.wp P Q a w
  | .skip, ks, s, a, w, Q, K, hi, h => wp_skip (K.kn s a w (by simpa [run] using h) hi)
  | .region id ops draw, ks, s, a, w, Q, K, hi, h => by
    simp only [run] at h
    cases draw with
    | true =>
      simp only [cond_true] at h
      cases hc : coinL ops.toList with
      | false => rw [hc, cond_false] at h; exact drawK_ok E hmix hi h fun s' a' w' hk' hi' => K.kn s' a' w' hk' hi'
      | true =>
        rw [hc, cond_true] at h
        obtain ⟨h1, h2⟩ := coinK_ok h
        exact coin_ok E hmix hi hc h1 h2 fun s' a' w' hk' hi' => K.kn s' a' w' hk' hi'
    | false =>
      refine wp_region ?_
      have := regK_ok E (Q := Q) ops.toList 0 (by simp) hi h fun s' a' w' hk' hi' => K.kn s' a' w' hk' hi'
      rwa [Array.length_toList, ← List.range_eq_range'] at this
  | .seq x y, ks, s, a, w, Q, K, hi, h => by
    simp only [run] at h
    refine wp_seq (run_ok E hmix hS x (ks := ⟨meetK lv y (run cx C lv y ks), ks.ex, ks.kr⟩) ⟨fun s' a' w' h' hi' => ?_, fun id s' a' w' h' hi' => K.ex id s' a' w' h' hi', fun s' a' w' h' hi' => K.kr s' a' w' h' hi'⟩ hi h)
    obtain ⟨s2, h2, hi2⟩ := meetK_ok hS hi' h'
    exact run_ok E hmix hS y K hi2 h2
  | .cond c x y, ks, s, a, w, Q, K, hi, h => by
    simp only [run] at h
    obtain ⟨h0, X, cv, H, hs, p⟩ := hi
    obtain ⟨t, _, h, hc⟩ := boolK_ok h (opd_ok hs c)
    refine wp_cond (t := t) hc ?_
    cases t with
    | true => exact run_ok E hmix hS x K ⟨h0, X, cv, H, hs, p⟩ h
    | false => exact run_ok E hmix hS y K ⟨h0, X, cv, H, hs, p⟩ h
  | .block id c, ks, s, a, w, Q, K, hi, h => by
    simp only [run] at h
    refine wp_block (run_ok E hmix hS c (ks := ⟨ks.kn, (id, ks.kn) :: ks.ex, ks.kr⟩) ⟨fun s' a' w' h' hi' => K.kn s' a' w' h' hi', fun id' s' a' w' h' hi' => ?_, fun s' a' w' h' hi' => K.kr s' a' w' h' hi'⟩ hi h)
    simp only [look1] at h'
    cases hb : Nat.beq id id' with
    | true =>
      have := beq_eq hb
      subst this
      rw [hb] at h'
      simp only [Exit.inBlock, if_true]
      exact K.kn s' a' w' h' hi'
    | false =>
      rw [hb] at h'
      have hne : id' ≠ id := fun he => Nat.ne_of_beq_eq_false hb he.symm
      simp only [Exit.inBlock, hne, if_false]
      exact K.ex id' s' a' w' h' hi'
  | .exit id, ks, s, a, w, Q, K, hi, h => wp_exit (K.ex id s a w (by simpa [run] using h) hi)
  | .ret, ks, s, a, w, Q, K, hi, h => wp_ret (K.kr s a w (by simpa [run] using h) hi)
  | .loop c, ks, s, a, w, Q, K, hi, h => by
    simp only [run] at h
    have hi1 := tok_ok hi lv
    have hkeys : ∀ k e, look S.h k = some e → k ∈ (headMask lv c (tok lv s)).keys := by
      intro k e hl
      unfold headMask
      split
      · exact imp_keys hi1 hl
      · split
        · exact imp_keys hi1 hl
        · simp only [keepKeys, List.mem_append, List.mem_filter]
          exact .inl ⟨imp_keys hi1 hl, by simpa [Nat.blt_eq] using hS k e hl⟩
    generalize headMask lv c (tok lv s) = m at h hkeys
    obtain ⟨n, hn⟩ := iter_lfp h
    refine wp_loop_rounds n ?_
    have key : ∀ (n : Nat) s1 a w, iter (fun rec s1 => run cx C lv c ⟨fun s2 => rec (norm m s2), ks.ex, ks.kr⟩ s1) n s1 = some r → Inv S a w s1 → Code.rounds P c Q n a w := by
      intro n
      induction n with
      | zero => intro s1 a w hn _; cases hn
      | succ n ih =>
        intro s1 a w hn hi1
        rw [rounds_succ]
        refine run_ok E hmix hS c (ks := ⟨fun s2 => iter _ n (norm m s2), ks.ex, ks.kr⟩) ⟨fun s' a' w' h' hi' => ih _ _ _ h' (norm_ok hi' m hkeys), fun id s' a' w' h' hi' => K.ex id s' a' w' h' hi', fun s' a' w' h' hi' => K.kr s' a' w' h' hi'⟩ hi1 hn
    exact key n _ a w hn (norm_ok hi1 m hkeys)
  | .label _, _, _, _, _, _, _, _, h => by simp [run] at h
  | .goto _, _, _, _, _, _, _, _, h => by simp [run] at h
  | .scope _, _, _, _, _, _, _, _, h => by simp [run] at h
  | .rangeFunc _ _ _ _, _, _, _, _, _, _, _, h => by simp [run] at h
end
end Go.AS
