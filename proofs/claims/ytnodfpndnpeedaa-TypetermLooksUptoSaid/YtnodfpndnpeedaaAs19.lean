/- AS, part 19: code. -/
import Derived.Test.YtnodfpndnpeedaaAs18
import Derived.Test.YtnodfpndnpeedaaAsI
namespace Go.AS
open Go.RowKit
set_option linter.all false

section
variable {P : Program} {cx : Cx} {C : CallF} {β : Type} {r : β}
theorem step_inv (E : EnvOk P cx C) {S : Start} {all : Array Oper} {o : Oper} {s : St} {a : Act} {w : World} (hi : Inv S a w s) {k : St → List Nat → List Nat → Option β} (hk : stepK cx C all.toList o s k = some r) {K : Act → World → Prop} {Q : Exit → Act → World → Prop}
    (hK : ∀ s' rd wr a' w', k s' rd wr = some r → Inv S a' w' s' → K a' w') :
    if Region.wanted o (yielded all a.tmps) then o.wp P a w K Q else K (a.put o.dst undef) w := by
  obtain ⟨h0, X, cv, H, hs, p⟩ := hi
  obtain ⟨v, h', rd, wr, hk, hh⟩ := stepK_ok E H hs hk
  have fin : ∀ val w' X' cv', HRel S.base S.wb w' X' cv' h' → Go1 wr w X cv s.heap w' X' cv' h' → AR3 w' X' cv' h' val v → K (a.put o.dst val) w' := by
    intro val w' X' cv' H' G' A'
    refine hK _ _ _ _ _ hk ⟨?_, X', cv', ?_, ?_, ?_⟩
    · cases hd : o.dst <;> simp [Act.put, h0]
    · cases hd : o.dst <;> exact H'
    · have hs' := hs.imp fun _ _ => AR3.mono (G'.keep H) G'
      have := put_ok hs' A' o.dst h'
      cases hd : o.dst <;> (rw [hd] at this; exact this)
    · cases hd : o.dst <;> exact p.go G'
  rcases hh with ⟨hw, ho⟩ | ⟨hw, rfl, rfl⟩
  · rw [if_pos hw]; exact ho K Q fin
  · rw [if_neg (by rw [hw]; simp)]
    exact fin undef w X cv H ((Go1.refl w X cv s.heap []).more (by simp)) rfl
theorem regK_ok (E : EnvOk P cx C) {S : Start} {all : Array Oper} {Q : Exit → Act → World → Prop} : ∀ (rest : List Oper) (i : Nat) {s : St} {a : Act} {w : World} {k : St → Option β}, all.toList.drop i = rest → Inv S a w s → regK cx C all.toList rest s k = some r →
    (∀ s' a' w', k s' = some r → Inv S a' w' s' → Q .normal a' w') → wpOps P all Q (List.range' i rest.length) a w
  | [], i, s, a, w, k, _, hi, hk, hQ => hQ s a w hk hi
  | o :: os, i, s, a, w, k, hd, hi, hk, hQ => by
    have ho : all[i]? = some o := by
      have : (all.toList.drop i)[0]? = some o := by rw [hd]; rfl
      rw [List.getElem?_drop] at this
      simpa using this
    have hd' : all.toList.drop (i + 1) = os := by
      rw [← List.drop_drop, hd]
      rfl
    simp only [regK] at hk
    have h1 := step_inv E (K := wpOps P all Q (List.range' (i + 1) os.length)) (Q := Q) hi hk fun s' rd wr a' w' hk' hi' => regK_ok E os (i + 1) hd' hi' hk' hQ
    simp only [List.length_cons, List.range'_succ, wpOps, ho]
    split
    · rename_i hw; rw [if_pos hw] at h1; exact .inl h1
    · rename_i hw; rw [if_neg hw] at h1; exact h1

theorem iter_lfp {F : (St → Option β) → St → Option β} {s : St} (h : lfp F s = some r) : ∃ n, iter F n s = some r := by
  unfold lfp at h
  split at h
  · exact ⟨_, h⟩
  · cases h
theorem imp_keys {S : Start} {a : Act} {w : World} {s : St} (hi : Inv S a w s) {k : Nat} {e : Ent} (hl : look S.h k = some e) : k ∈ s.heap.map (·.1) := by
  obtain ⟨_, X, cv, _, _, p⟩ := hi
  obtain ⟨e', h1, _⟩ := p.ent k e hl
  clear p
  revert h1
  generalize s.heap = h
  intro h1
  induction h with
  | nil => cases h1
  | cons q h ih =>
    obtain ⟨k0, e0⟩ := q
    simp only [look, asc] at h1
    cases hb : Nat.beq k0 k with
    | true => simp [beq_eq hb]
    | false => rw [hb] at h1; simp; exact .inr (by simpa using ih h1)

theorem meetK_ok {S : Start} (hS : ∀ k e, look S.h k = some e → k < 4096) {lv : Lv} {c : Code} {f : St → Option β} {s : St} {a : Act} {w : World} (hi : Inv S a w s) (h : meetK lv c f s = some r) : ∃ s', f s' = some r ∧ Inv S a w s' := by
  unfold meetK at h
  split at h
  · exact ⟨s, h, hi⟩
  · split at h
    · exact ⟨s, h, hi⟩
    · rename_i m _
      obtain ⟨n, hn⟩ := iter_lfp h
      cases n with
      | zero => cases hn
      | succ n =>
        refine ⟨_, hn, norm_ok hi _ fun k e hl => ?_⟩
        simp only [keepKeys, List.mem_append, List.mem_filter]
        exact .inl ⟨imp_keys hi hl, by simpa [Nat.blt_eq] using hS k e hl⟩
theorem look1_ok {l : List (Nat × (St → Option β))} {id : Nat} {s : St} (h : look1 l id s = some r) : ∃ f, (id, f) ∈ l ∧ f s = some r ∧ ∀ s', look1 l id s' = f s' := by
  induction l with
  | nil => cases h
  | cons q l ih =>
    obtain ⟨k, f⟩ := q
    simp only [look1] at h
    cases hb : Nat.beq k id with
    | true =>
      have := beq_eq hb
      subst this
      rw [hb] at h
      exact ⟨f, by simp, h, fun s' => by simp only [look1, hb, cond_true]⟩
    | false =>
      rw [hb] at h
      obtain ⟨f', h1, h2, h3⟩ := ih h
      exact ⟨f', by simp [h1], h2, fun s' => by simp only [look1, hb, cond_false]; exact h3 s'⟩

/-- What follows a piece of code. -/
structure KsOk (S : Start) (ks : Ks β) (r : β) (Q : Exit → Act → World → Prop) : Prop where
  kn : ∀ s a w, ks.kn s = some r → Inv S a w s → Q .normal a w
  ex : ∀ id s a w, look1 ks.ex id s = some r → Inv S a w s → Q (.exit id) a w
  kr : ∀ s a w, ks.kr s = some r → Inv S a w s → Q .ret a w

theorem run_ok (E : EnvOk P cx C) (hmix : P.follows .mixedOrders = true) {S : Start} (hS : ∀ k e, look S.h k = some e → k < 4096) {lv : Lv} : ∀ (c : Code) {ks : Ks β} {s : St} {a : Act} {w : World} {Q : Exit → Act → World → Prop}, KsOk S ks r Q → Inv S a w s → run cx C lv c ks s = some r → c.wp P Q a w
  | .skip, ks, s, a, w, Q, K, hi, h => wp_skip (K.kn s a w (by simpa [run] using h) hi)
  | .region id ops draw, ks, s, a, w, Q, K, hi, h => by
    simp only [run] at h
    cases draw with
    | true => exact drawK_ok E hmix hi h fun s' a' w' hk' hi' => K.kn s' a' w' hk' hi'
    | false =>
      refine wp_region ?_
      have := regK_ok E (Q := Q) ops.toList 0 (by simp) hi h fun s' a' w' hk' hi' => K.kn s' a' w' hk' hi'
      rwa [Array.length_toList, ← List.range_eq_range'] at this
  | .seq x y, ks, s, a, w, Q, K, hi, h => by
    simp only [run] at h
    refine wp_seq (run_ok E hmix hS x (ks := ⟨meetK lv y (run cx C lv y ks), ks.ex, ks.kr⟩) ⟨fun s' a' w' h' hi' => ?_, fun id s' a' w' h' hi' => K.ex id s' a' w' h' hi', fun s' a' w' h' hi' => K.kr s' a' w' h' hi'⟩ hi h)
    obtain ⟨s2, h2, hi2⟩ := meetK_ok hS hi' h'
    exact run_ok E hmix hS y K hi2 h2
  | .cond c x y, ks, s, a, w, Q, K, hi, h => by
    simp only [run] at h
    obtain ⟨h0, X, cv, H, hs, p⟩ := hi
    obtain ⟨t, _, h, hc⟩ := boolK_ok h (opd_ok hs c)
    refine wp_cond (t := t) hc ?_
    cases t with
    | true => exact run_ok E hmix hS x K ⟨h0, X, cv, H, hs, p⟩ h
    | false => exact run_ok E hmix hS y K ⟨h0, X, cv, H, hs, p⟩ h
  | .block id c, ks, s, a, w, Q, K, hi, h => by
    simp only [run] at h
    refine wp_block (run_ok E hmix hS c (ks := ⟨ks.kn, (id, ks.kn) :: ks.ex, ks.kr⟩) ⟨fun s' a' w' h' hi' => K.kn s' a' w' h' hi', fun id' s' a' w' h' hi' => ?_, fun s' a' w' h' hi' => K.kr s' a' w' h' hi'⟩ hi h)
    simp only [look1] at h'
    cases hb : Nat.beq id id' with
    | true =>
      have := beq_eq hb
      subst this
      rw [hb] at h'
      simp only [Exit.inBlock, if_true]
      exact K.kn s' a' w' h' hi'
    | false =>
      rw [hb] at h'
      have hne : id' ≠ id := fun he => Nat.ne_of_beq_eq_false hb he.symm
      simp only [Exit.inBlock, hne, if_false]
      exact K.ex id' s' a' w' h' hi'
  | .exit id, ks, s, a, w, Q, K, hi, h => wp_exit (K.ex id s a w (by simpa [run] using h) hi)
  | .ret, ks, s, a, w, Q, K, hi, h => wp_ret (K.kr s a w (by simpa [run] using h) hi)
  | .loop c, ks, s, a, w, Q, K, hi, h => by
    simp only [run] at h
    have hi1 := tok_ok hi lv
    have hkeys : ∀ k e, look S.h k = some e → k ∈ (headMask lv c (tok lv s)).keys := by
      intro k e hl
      unfold headMask
      split
      · exact imp_keys hi1 hl
      · split
        · exact imp_keys hi1 hl
        · exact imp_keys hi1 hl
    generalize headMask lv c (tok lv s) = m at h hkeys
    obtain ⟨n, hn⟩ := iter_lfp h
    refine wp_loop_rounds n ?_
    have key : ∀ (n : Nat) s1 a w, iter (fun rec s1 => run cx C lv c ⟨fun s2 => rec (norm m s2), ks.ex, ks.kr⟩ s1) n s1 = some r → Inv S a w s1 → Code.rounds P c Q n a w := by
      intro n
      induction n with
      | zero => intro s1 a w hn _; cases hn
      | succ n ih =>
        intro s1 a w hn hi1
        rw [rounds_succ]
        refine run_ok E hmix hS c (ks := ⟨fun s2 => iter _ n (norm m s2), ks.ex, ks.kr⟩) ⟨fun s' a' w' h' hi' => ih _ _ _ h' (norm_ok hi' m hkeys), fun id s' a' w' h' hi' => K.ex id s' a' w' h' hi', fun s' a' w' h' hi' => K.kr s' a' w' h' hi'⟩ hi1 hn
    exact key n _ a w hn (norm_ok hi1 m hkeys)
  | .label _, _, _, _, _, _, _, _, h => by simp [run] at h
  | .goto _, _, _, _, _, _, _, _, h => by simp [run] at h
  | .scope _, _, _, _, _, _, _, _, h => by simp [run] at h
  | .rangeFunc _ _ _ _, _, _, _, _, _, _, _, h => by simp [run] at h
end
end Go.AS
