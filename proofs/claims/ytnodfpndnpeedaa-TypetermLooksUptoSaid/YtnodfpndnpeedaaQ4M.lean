/- AS, the seat of law 4: the law of matching. -/
import Derived.Test.YtnodfpndnpeedaaQ4G
import Derived.Test.YtnodfpndnpeedaaQ4L6
namespace Go.AS.Q4
open Go.Proofs
set_option linter.all false

/-! ### What is found -/
def AllF (Q : Ty → Prop) (f : List (Option Ty)) : Prop := ∀ (k : Nat) u, f[k]? = some (some u) → Q u
theorem mt_all {names : List Str} {Q : Ty → Prop} (hQ : ∀ n l, Q (.mk n l) → ∀ t, t ∈ l → Q t) : ∀ (p t : Ty) (f : List (Option Ty)), Q t → AllF Q f → AllF Q (mt names p t f).2 := by
  refine Ty.ind fun n l ih t f ht hf => ?_
  have hL : ∀ (l m : List Ty), (∀ p, p ∈ l → ∀ (t : Ty) (f : List (Option Ty)), Q t → AllF Q f → AllF Q (mt names p t f).2) → (∀ t, t ∈ m → Q t) → ∀ f, AllF Q f → AllF Q (mtL names l m f).2 := by
    intro l
    induction l with
    | nil => intro m _ _ f hf; simp only [mtL]; exact hf
    | cons p l ihl =>
      intro m hh hm f hf
      cases m with
      | nil => simp only [mtL]; exact hf
      | cons t m =>
        simp only [mtL]
        have h1 := hh p (by simp) t f (hm t (by simp)) hf
        cases (mt names p t f).1 with
        | true => simp only [cond_true]; exact ihl m (fun p hp => hh p (by simp [hp])) (fun t ht => hm t (by simp [ht])) _ h1
        | false => simp only [cond_false]; exact h1
  rw [mt_mk]
  split
  · rename_i k hk
    split
    · exact hf
    · intro j u hj
      rw [List.getElem?_set] at hj
      split at hj
      · split at hj
        · injection hj with hj; injection hj with hj; exact hj ▸ ht
        · cases hj
      · exact hf j u hj
    · exact hf
  · obtain ⟨n', m⟩ := t
    cases (n == (Ty.mk n' m).name) with
    | false => exact hf
    | true =>
      simp only [cond_true]
      cases (l.length == (Ty.mk n' m).args.length) with
      | false => exact hf
      | true => exact hL l m ih (fun t h => hQ n' m ht t h) f hf
theorem none_found (n : Nat) (Q : Ty → Prop) : AllF Q (List.replicate n none) := by
  intro k u h
  rw [List.getElem?_replicate] at h
  split at h <;> cases h
theorem mtch_sound {p t : Ty} {names : List Str} {by' : List Ty} (ht : t.Ok) (h : mtch p t names = some by') : by'.length = names.length ∧ tw [] names = false ∧ pt names by' p = t ∧ (∀ b, b ∈ by' → b.Ok ∧ size b ≤ size t) := by
  unfold mtch at h
  have hf0 : FOk names (List.replicate names.length none) := ⟨by simp, none_found _ _⟩
  have q1 := mt_sound p t (List.replicate names.length none) (by simp) (names := names)
  have q2 := mt_ok p t ht _ hf0
  have q3 := mt_all (names := names) (Q := fun u => size u ≤ size t) (fun n l hq u hu => by
    have := size_mem hu
    simp only [size] at hq
    omega) p t _ (Nat.le_refl _) (none_found names.length _)
  generalize mt names p t (List.replicate names.length none) = r at h q1 q2 q3
  cases htw : tw [] names with
  | true => rw [htw] at h; cases h
  | false =>
    rw [htw] at h
    simp only [cond_false] at h
    cases hr : r.1 with
    | false => rw [hr] at h; cases h
    | true =>
      rw [hr] at h
      simp only [Bool.not_true, cond_false] at h
      cases hn : r.2.any Option.isNone with
      | true => rw [hn] at h; cases h
      | false =>
        rw [hn] at h
        simp only [cond_false] at h
        injection h with h
        subst h
        obtain ⟨s1, s2, s3⟩ := q1 hr
        obtain ⟨a1, a2⟩ := allF_len hn
        refine ⟨a1.trans s1, rfl, s3 _ fun k u hk => ?_, fun b hb => ?_⟩
        · obtain ⟨t', e, ht'⟩ := a2 k _ hk
          injection e with e
          subst e
          rw [nth_get, ht']; rfl
        · obtain ⟨k, hk⟩ := List.mem_iff_getElem?.1 hb
          have hlt := (List.getElem?_eq_some_iff.1 hk).1
          obtain ⟨x, hx⟩ := at_of (l := r.2) (k := k) (by omega)
          obtain ⟨t', e, ht'⟩ := a2 k _ hx
          subst e
          rw [hk] at ht'
          injection ht' with ht'
          subst ht'
          exact ⟨q2.2 k _ hx, q3 k _ hx⟩
theorem mtch_complete {p : Ty} {names : List Str} {by' : List Ty} (hlen : names.length = by'.length) (hnd : names.Nodup) (hleaf : ∀ n, n ∈ names → LeafN n p) : mtch p (pt names by' p) names = some by' := by
  unfold mtch
  have htw : tw [] names = false := tw_false.2 ⟨hnd, fun _ _ => by simp⟩
  obtain ⟨r1, r2, _, r4⟩ := mt_complete hlen p (List.replicate names.length none) ⟨by simpa using hlen, fun k u hk => by
    rw [List.getElem?_replicate] at hk
    split at hk <;> cases hk⟩
  have hf0 : (mt names p (pt names by' p) (List.replicate names.length none)).2.length = names.length := by rw [r2.1, hlen]
  generalize mt names p (pt names by' p) (List.replicate names.length none) = r at r1 r2 r4 hf0
  have hall : r.2.any Option.isNone = false := by
    rw [List.any_eq_false]
    intro x hx
    obtain ⟨k, hk⟩ := List.mem_iff_getElem?.1 hx
    have hlt := (List.getElem?_eq_some_iff.1 hk).1
    obtain ⟨n, hn⟩ := at_of (l := names) (k := k) (by omega)
    obtain ⟨u, hu⟩ := r4 n (hleaf n (List.mem_of_getElem? hn)) k (ix_nodup hnd hn)
    rw [hk] at hu
    injection hu with hu
    subst hu
    simp
  obtain ⟨a1, a2⟩ := allF_len hall
  have e : allF r.2 = by' := by
    apply List.ext_getElem?
    intro k
    by_cases hk : k < r.2.length
    · obtain ⟨x, hx⟩ := at_of hk
      obtain ⟨t, e, ht⟩ := a2 k x hx
      subst e
      rw [ht, r2.2 k t hx]
    · rw [List.getElem?_eq_none (by omega), List.getElem?_eq_none (by rw [← r2.1]; omega)]
  simp only [htw, r1, hall, e, cond_false, Bool.not_true]

/-! ### The law -/
theorem L60 {l : List Int} (hl : l.length ≤ 700) {names : List Str} (hn : names.length ≤ 1000) (s2 : Str) (r3 : List (List T)) : ∀ (j : Nat) (b : List Ty) (i : Nat), b.length + j = names.length → (∀ t, t ∈ b → good 3 t) → i ≤ l.length →
    ∃ b' i', b'.length = names.length ∧ (∀ t, t ∈ b' → good 3 t) ∧ L6_0 R (K6_0 R) (strRows names) (ints l) s2 r3 (rows b) (b.length : Int) (i : Int) = X6_0_x0 (K6_0 R) (strRows names) (ints l) s2 r3 (rows b') (names.length : Int) false (i' : Int) := by
  intro j
  induction j with
  | zero =>
    intro b i hb hg hi
    refine ⟨b, i, by omega, hg, ?_⟩
    have h1 : decide ((b.length : Int) < (names.length : Int)) = false := decide_eq_false (by omega)
    rw [l6_0, strRows_length, h1, cond_false, show b.length = names.length by omega]
  | succ j ihj =>
    intro b i hb hg hi
    obtain ⟨t, i1, g1, g2, g3⟩ := R11 hl 3 (by omega) i hi
    obtain ⟨b', i', q1, q2, q3⟩ := ihj (b ++ [t]) i1 (by simp; omega) (fun u hu => by
      rcases List.mem_append.1 hu with hu | hu
      · exact hg u hu
      · simp at hu; exact hu ▸ g1) g2
    refine ⟨b', i', q1, q2, ?_⟩
    have h1 : (b.length : Int) < (names.length : Int) := by omega
    have b1 : Nat.ble (b.length + 1) (lim 40) = true := by rw [Nat.ble_eq, lim40]; omega
    obtain ⟨n, a⟩ := t
    unfold dh at g3
    rw [av_mk] at g3
    simp only [Int.cast_ofNat_Int, Int.reduceSub] at g3
    rw [rows_append, rows_one, List.length_append] at q3
    simp only [List.length_cons, List.length_nil, Nat.zero_add] at q3
    rw [l6_0]
    simp only [strRows_length, h1, decide_true, cond_true, g3, Option.bind_some, AV.aggK, consK, AV.strK, AV.tK, T.strK, AV.sl1K, T.slK, Nat.beq, nilK, Ent.boxK, AV.int1K, AV.intK, T.intK, IntKind.same, rows_length, List.length_cons, List.length_nil, Nat.zero_add, b1]
    rw [wrap_succ (by omega)]
    exact q3
theorem L61 {b : List Ty} (hb : b.length ≤ 1000) (hok : ∀ t, t ∈ b → t.Ok) (r1 : List (List T)) (s2 : Str) (r3 : List (List T)) (s5 : Str) (r6 : List (List T)) (i8 : Int) : ∀ (j k : Nat), j + k = b.length →
    L6_1 R (K6_1 R) (rows b) r1 s2 r3 (rows b) s5 r6 (k : Int) i8 = some (.t (.bool true), []) := by
  have aw := awake
  intro j
  induction j with
  | zero =>
    intro k hk
    have h1 : ¬ (k : Int) < (b.length : Int) := by omega
    rw [l6_1]
    simp only [rows_length]
    simp only [h1, decide_false, cond_false, x6_1_x1, aw, Option.bind_some, AV.boolK, AV.tK, T.boolK, nilK]
  | succ j ihj =>
    intro k hk
    obtain ⟨t, ht⟩ := at_of (l := b) (k := k) (by omega)
    have h14 := R14 t (hok t (List.mem_of_getElem? ht)) t
    rw [(same_eq t t).2 rfl] at h14
    obtain ⟨n, a⟩ := t
    have h1 : (k : Int) < (b.length : Int) := by omega
    have h2 : (0 : Int) ≤ (k : Int) := by omega
    rw [l6_1]
    simp only [rows_length]
    rw [av_mk] at h14
    simp only [h1, h2, decide_true, cond_true, and_self, Int.toNat_natCast, nth_rows ht, nth, h14, Option.bind_some, AV.boolK, AV.tK, T.boolK, nilK, Bool.not_true, cond_false]
    rw [wrap_succ (by omega)]
    exact ihj (k + 1) (by omega)
theorem sub_ok {t : Ty} {names : List Str} {by' : List Ty} (hlen : names.length = by'.length) (htw : tw [] names = false) (hs : size (pt names by' t) ≤ 4096) : sub t names by' = (pt names by' t, 0) := by
  unfold sub
  rw [if_neg (by omega), if_neg (by rw [htw]; simp), if_neg (by omega)]
theorem rho_nums : rho 1 3 = 22 ∧ rho 1 4 = 67 ∧ rho 22 4 = 634 := by decide
set_option maxRecDepth 100000 in
theorem R6 (l : List Int) : R 6 [.t (.sl 1 (ints l))] [] = some (.t (.bool true), []) := by
  have aw := awake
  have l9 := R9 l
  by_cases hl : l.length ≤ 700
  rotate_left
  · have : ¬ ((l.length : Int) ≤ 700) := by omega
    unfold R at *
    rw [call_unfold Try.func6, e6, l9]
    simp only [this, decide_false, Bool.not_false, cond_true, aw, Option.bind_some, AV.boolK, AV.tK, T.boolK, nilK]
  have h1 : ((l.length : Int) ≤ 700) := by omega
  obtain ⟨p, i1, gp, hi1, op⟩ := R11 hl 4 (by omega) 0 (by omega)
  obtain ⟨t, i2, gt, hi2, ot⟩ := R11 hl 4 (by omega) i1 hi1
  obtain ⟨okp, _, _⟩ := good_ok 4 p gp
  obtain ⟨okt, _, _⟩ := good_ok 4 t gt
  have dl := R12 l
  have szp := size_good gp
  have szt := size_good gt
  obtain ⟨n1, n2, n3⟩ := rho_nums
  have h26 := R26 p okp (by omega)
  have hnl := prm_len p []
  have hnd := prm_nodup p [] (by simp)
  have hleaf : ∀ n, n ∈ prm p [] → LeafN n p := by
    intro n hn
    rcases prm_occ p [] n hn with h | ⟨h2, h3⟩
    · simp at h
    · exact good_leaf h2 4 p gp h3
  generalize prm p [] = names at h26 hnl hnd hleaf
  simp only [List.length_nil, Nat.zero_add] at hnl
  have htw : tw [] names = false := tw_false.2 ⟨hnd, fun _ _ => by simp⟩
  have h22 := R22 okp okt (names := names) (by omega)
  -- what follows the first half
  have second : ∀ i : Nat, i ≤ l.length → J6_0 R (strRows names) (ints l) p.name (rows p.args) (i : Int) = some (.t (.bool true), []) := by
    intro i hi
    obtain ⟨b, i', q1, q2, q3⟩ := L60 hl (names := names) (by omega) p.name (rows p.args) names.length [] i (by simp) (fun t ht => by simp at ht) hi
    have okb : ∀ t, t ∈ b → t.Ok := fun t ht => (good_ok 3 t (q2 t ht)).1
    have szb : ∀ t, t ∈ b → size t ≤ 22 := fun t ht => by have := size_good (q2 t ht); omega
    have szx := size_pt (names := names) (by' := b) (r := 22) (by omega) szb 4 p gp
    have h18 := R18 (t := p) (names := names) (by' := b) (by omega) (by omega) okb (fun t ht => by have := szb t ht; omega) okp (by omega)
    rw [sub_ok q1.symm htw (by omega)] at h18
    have okx := pt_ok (names := names) okb p okp
    have h22 := R22 okp okx (names := names) (by omega)
    rw [mtch_complete q1.symm hnd hleaf] at h22
    have e61 := L61 (by omega : b.length ≤ 1000) okb (ints l) p.name (rows p.args) (pt names b p).name (rows (pt names b p).args) (i' : Int) b.length 0 (by omega)
    have avp : p.av = .agg [.t (.str p.name), .t (.sl 2 (rows p.args))] := rfl
    have avx : (pt names b p).av = .agg [.t (.str (pt names b p).name), .t (.sl 2 (rows (pt names b p).args))] := rfl
    rw [avp, avx] at h18 h22
    rw [j6_0]
    rw [show (0 : Int) = (([] : List Ty).length : Int) from rfl, show ([] : List (List T)) = rows [] from rfl, q3, x6_0_x0, h18]
    have hbb : ((b.length : Int) == (b.length : Int)) = true := by simp
    simp only [Option.bind_some, AV.tupK, consK, AV.aggK, AV.strK, AV.tK, T.strK, AV.sl1K, T.slK, Nat.beq, cond_true, nilK, AV.int1K, AV.intK, T.intK, IntKind.same, beq_self_eq_true, Bool.not_true, cond_false, h22, mtchAV, AV.boolK, T.boolK, rows_length, hbb]
    exact e61
  have hm := fun by' h => mtch_sound okt (p := p) (names := names) (by' := by') h
  have h18 := fun by' (h : mtch p t names = some by') => R18 (t := p) (names := names) (by' := by') (by omega) (by have := (hm by' h).1; omega) (fun b hb => ((hm by' h).2.2.2 b hb).1) (fun b hb => by have := ((hm by' h).2.2.2 b hb).2; omega) okp (by rw [(hm by' h).2.2.1]; omega)
  have h18' : ∀ by', mtch p t names = some by' → R 18 [p.av, .t (.sl 1 (strRows names)), .t (.sl 2 (rows by'))] [] = some (.tup [t.av, .t (.int .i64 0)], []) := by
    intro by' h
    obtain ⟨a1, a2, a3, _⟩ := hm by' h
    have := h18 by' h
    rw [sub_ok a1.symm a2 (by rw [a3]; omega), a3] at this
    exact this
  have h14 := R14 t okt t
  rw [(same_eq t t).2 rfl] at h14
  clear hm h18 hleaf hnd htw
  obtain ⟨np, lp⟩ := p
  obtain ⟨nt, lt⟩ := t
  simp only [Ty.name, Ty.args] at second
  generalize mtch (.mk np lp) (.mk nt lt) names = m at h22 h18'
  unfold R dh at *
  simp only [av_mk] at *
  simp only [Int.cast_ofNat_Int, Int.reduceSub] at op ot dl
  rw [call_unfold Try.func6, e6]
  simp only [l9, h1, decide_true, dl, op, ot, h26, h22, Option.bind_some, AV.ptrK, AV.boolK, AV.tK, T.boolK, consK, Nat.beq, cond_true, cond_false, Ent.boxK, AV.sl1K, T.slK, AV.int1K, AV.intK, T.intK, IntKind.same, nilK, AV.aggK, AV.strK, T.strK, Bool.not_true]
  cases m with
  | none =>
    simp only [mtchAV, AV.tupK, consK, AV.sl1K, AV.tK, T.slK, Nat.beq, cond_true, AV.boolK, T.boolK, nilK, cond_false]
    exact second i2 hi2
  | some by' =>
    simp only [mtchAV, AV.tupK, consK, AV.sl1K, AV.tK, T.slK, Nat.beq, cond_true, AV.boolK, T.boolK, nilK, h18' by' rfl, Option.bind_some, AV.aggK, AV.strK, T.strK, AV.int1K, AV.intK, T.intK, IntKind.same, beq_self_eq_true, Bool.not_true, cond_false, h14]
    exact second i2 hi2
end Go.AS.Q4
