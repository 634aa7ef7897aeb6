/- AS, the seat of law 4: the loops of the law of replacing. Printed by gen4v.py. -/
import Derived.Test.YtnodfpndnpeedaaQ4K
import Derived.Test.YtnodfpndnpeedaaQ4L4
namespace Go.AS.Q4
open Go.Proofs
set_option linter.all false

def nlRows (l : List (List Str)) : List (List T) := l.map fun n => [.sl 1 (strRows n)]
theorem nlRows_length (l : List (List Str)) : (nlRows l).length = l.length := by simp [nlRows]
theorem nth_nlRows {l : List (List Str)} {k : Nat} {n : List Str} (h : l[k]? = some n) : nth [] (nlRows l) k = [.sl 1 (strRows n)] := by rw [nlRows, nth_map [] _ h]
def plRows (l : List (Ty × Ty)) : List (List T) := l.map fun p => [.str p.1.name, .sl 2 (rows p.1.args), .str p.2.name, .sl 2 (rows p.2.args)]
theorem plRows_length (l : List (Ty × Ty)) : (plRows l).length = l.length := by simp [plRows]
theorem nth_plRows {l : List (Ty × Ty)} {k : Nat} {p : Ty × Ty} (h : l[k]? = some p) : nth [] (plRows l) k = [.str p.1.name, .sl 2 (rows p.1.args), .str p.2.name, .sl 2 (rows p.2.args)] := by rw [plRows, nth_map [] _ h]
theorem av_eta (t : Ty) : (.agg [.t (.str t.name), .t (.sl 2 (rows t.args))] : AV) = t.av := rfl
theorem nth_rows' {l : List Ty} {k : Nat} {t : Ty} (h : l[k]? = some t) : nth [] (rows l) k = [.str t.name, .sl 2 (rows t.args)] := by
  obtain ⟨n, a⟩ := t
  exact nth_rows h
/-- The size of a type in which was replaced. -/
theorem size_mul {names : List Str} {by' : List Ty} {r : Nat} (hr : 1 ≤ r) (hb : ∀ b, b ∈ by' → size b ≤ r) : ∀ t : Ty, size (pt names by' t) ≤ size t * r := by
  refine Ty.ind fun n l ih => ?_
  have h1 : 1 ≤ size (.mk n l) := size_pos _
  have h2 : r ≤ size (.mk n l) * r := Nat.le_mul_of_pos_left r h1
  rw [pt_mk]
  cases hrp : rp (.mk n l) names with
  | some k =>
    simp only
    rw [nth_get]
    cases hk : by'[k]? with
    | none => have e : size (Ty.mk [] []) = 1 := rfl; simp only [Option.getD_none]; omega
    | some b => have := hb b (List.mem_of_getElem? hk); simp only [Option.getD_some]; omega
  | none =>
    simp only
    have hL : ∀ l : List Ty, (∀ t, t ∈ l → size (pt names by' t) ≤ size t * r) → sizeL (ptL names by' l) ≤ sizeL l * r := by
      intro l
      induction l with
      | nil => intro _; simp [ptL, sizeL]
      | cons t l ihl =>
        intro h
        have a1 := h t (by simp)
        have a2 := ihl fun t ht => h t (by simp [ht])
        simp only [ptL, sizeL, Nat.add_mul]
        omega
    have := hL l ih
    simp only [size, Nat.add_mul]
    omega
theorem sub_eq (t : Ty) (names : List Str) (by' : List Ty) (hb : ∀ b, b ∈ by' → b.Ok) (ht : t.Ok) : (sub t names by').1.Ok := by
  unfold sub
  have h0 : (Ty.mk [] []).Ok := .mk _ _ (by simp) fun t ht => by simp at ht
  split
  · exact h0
  · split
    · exact h0
    · split
      · exact h0
      · exact pt_ok hb t ht

theorem M4_3_0_0 {b : List Ty} (hb : b.length ≤ 10000) (hok : ∀ t, t ∈ b → t.Ok) (ks : Ks Res) (x0 : T) (s3 : Str) (r4 : List (List T)) (s5 : Str) (r6 : List (List T)) (s7 : Str) (r8 : List (List T)) (s9 : Str) (r10 : List (List T)) (r11 : List (List T)) (r12 : List (List T)) (r13 : List (List T)) (r14 : List (List T)) (s15 : Str) (r16 : List (List T)) (r17 : List (List T)) (x18 : T) (x19 : T) (x20 : T) (x21 : T) (r22 : List (List T)) (r23 : List (List T)) (i24 : Int) (i25 : Int) : ∀ (j k : Nat), j + k = b.length →
    L4_3_0_0 R (K4_3_0_0 R ks) x0 (rows b) (rows b) s3 r4 s5 r6 s7 r8 s9 r10 r11 r12 r13 r14 s15 r16 r17 x18 x19 x20 x21 r22 r23 i24 i25 (k : Int) = L4_3_0 R ks x0 s3 r4 s5 r6 s7 r8 s9 r10 r11 r12 r13 r14 s15 r16 r17 x18 x19 x20 x21 r22 r23 i24 (IntKind.wrap .i64 (i25 + (1 : Int))) := by
  intro j
  induction j with
  | zero =>
    intro k hk
    have h1 : decide ((k : Int) < (b.length : Int)) = false := decide_eq_false (by omega)
    rw [l4_3_0_0, rows_length, h1, cond_false, x4_3_0_0_x1]
  | succ j ihj =>
    intro k hk
    obtain ⟨t, ht⟩ := at_of (l := b) (k := k) (by omega)
    have h20 := R20 t (hok t (List.mem_of_getElem? ht)) t
    rw [(same_eq t t).2 rfl] at h20
    have h1 : (k : Int) < (b.length : Int) := by omega
    have h2 : (0 : Int) ≤ (k : Int) := by omega
    rw [l4_3_0_0]
    simp only [rows_length, h1, h2, decide_true, cond_true, and_self, Int.toNat_natCast, nth_rows' ht, nth, av_eta, h20, Option.bind_some, AV.boolK, AV.tK, T.boolK, nilK, Bool.not_true, cond_false]
    rw [wrap_succ (by omega)]
    exact ihj (k + 1) (by omega)

theorem M4_3_0 {NL : List (List Str)} (hN : ∀ n, n ∈ NL → n.length ≤ 10000) (hNl : NL.length ≤ 1000) {p t : Ty} (hp : p.Ok) (ht : t.Ok) (ks : Ks Res) (x0 : T) (s1 : Str) (r2 : List (List T)) (s3 : Str) (r4 : List (List T)) (s5 : Str) (r6 : List (List T)) (s7 : Str) (r8 : List (List T)) (r9 : List (List T)) (r10 : List (List T)) (r11 : List (List T)) (r12 : List (List T)) (s13 : Str) (r14 : List (List T)) (r15 : List (List T)) (r20 : List (List T)) (i22 : Int) : ∀ (j k : Nat), j + k = NL.length →
    L4_3_0 R (K4_3_0 R ks) x0 s1 r2 s3 r4 s5 r6 s7 r8 r9 r10 r11 r12 s13 r14 r15 (.str p.name) (.sl 2 (rows p.args)) (.str t.name) (.sl 2 (rows t.args)) r20 (nlRows NL) i22 (k : Int) = L4_3 R ks x0 s1 r2 s3 r4 s5 r6 s7 r8 r9 r10 r11 r12 s13 r14 r15 (IntKind.wrap .i64 (i22 + (1 : Int))) := by
  intro j
  induction j with
  | zero =>
    intro k hk
    have h1 : decide ((k : Int) < (NL.length : Int)) = false := decide_eq_false (by omega)
    rw [l4_3_0, nlRows_length, h1, cond_false, x4_3_0_x2]
  | succ j ihj =>
    intro k hk
    obtain ⟨n, hn⟩ := at_of (l := NL) (k := k) (by omega)
    have hnl := hN n (List.mem_of_getElem? hn)
    have h22 := R22 hp ht hnl
    have h23 := R23 hp ht hnl
    have hm := fun by' h => mtch_sound ht (p := p) (names := n) (by' := by') h
    have h1 : (k : Int) < (NL.length : Int) := by omega
    have h2 : (0 : Int) ≤ (k : Int) := by omega
    have next := ihj (k + 1) (by omega)
    have go : ∀ b : List Ty, b.length ≤ 10000 → (∀ t, t ∈ b → t.Ok) → L4_3_0_0 R (K4_3_0_0 R (K4_3_0 R ks)) x0 (rows b) (rows b) s1 r2 s3 r4 s5 r6 s7 r8 r9 r10 r11 r12 s13 r14 r15 (.str p.name) (.sl 2 (rows p.args)) (.str t.name) (.sl 2 (rows t.args)) r20 (nlRows NL) i22 (k : Int) (0 : Int) = L4_3 R ks x0 s1 r2 s3 r4 s5 r6 s7 r8 r9 r10 r11 r12 s13 r14 r15 (IntKind.wrap .i64 (i22 + (1 : Int))) := by
      intro b hb hok
      have := M4_3_0_0 hb hok (K4_3_0 R ks) x0 s1 r2 s3 r4 s5 r6 s7 r8 r9 r10 r11 r12 s13 r14 r15 (.str p.name) (.sl 2 (rows p.args)) (.str t.name) (.sl 2 (rows t.args)) r20 (nlRows NL) i22 (k : Int) b.length 0 (by omega)
      rw [show (0 : Int) = ((0 : Nat) : Int) from rfl, this, wrap_succ (by omega)]
      exact next
    rw [l4_3_0]
    simp only [nlRows_length, h1, h2, decide_true, cond_true, and_self, Int.toNat_natCast, nth_nlRows hn, nth, av_eta, h22, h23, Option.bind_some]
    cases hc : mtch p t n with
    | none =>
      simp only [mtchAV, AV.tupK, consK, AV.sl1K, AV.tK, T.slK, Nat.beq, cond_true, AV.boolK, T.boolK, nilK, beq_self_eq_true, Bool.not_true, cond_false]
      exact go [] (by simp) fun t ht => by simp at ht
    | some b =>
      simp only [mtchAV, AV.tupK, consK, AV.sl1K, AV.tK, T.slK, Nat.beq, cond_true, AV.boolK, T.boolK, nilK, beq_self_eq_true, Bool.not_true, cond_false]
      obtain ⟨q1, _, _, q4⟩ := hm b hc
      exact go b (by omega) fun t ht => (q4 t ht).1

theorem M4_3 {PL : List (Ty × Ty)} (hPL : PL.length ≤ 1000) (hp : ∀ p, p ∈ PL → p.1.Ok ∧ Nm p.1 ∧ size p.1 ≤ 10000 ∧ p.2.Ok) {made : List Str} (hmade : made.length ≤ 1000) (s1 : Str) (r2 : List (List T)) (s3 : Str) (r4 : List (List T)) (s5 : Str) (r6 : List (List T)) (s7 : Str) (r8 : List (List T)) (r9 : List (List T)) (r10 : List (List T)) (r11 : List (List T)) (r12 : List (List T)) (s13 : Str) (r14 : List (List T)) : ∀ (j k : Nat), j + k = PL.length →
    L4_3 R (K4_3 R) (.sl 1 (strRows made)) s1 r2 s3 r4 s5 r6 s7 r8 r9 r10 r11 r12 s13 r14 (plRows PL) (k : Int) = some (.t (.bool true), []) := by
  have aw := awake
  intro j
  induction j with
  | zero =>
    intro k hk
    have h1 : decide ((k : Int) < (PL.length : Int)) = false := decide_eq_false (by omega)
    rw [l4_3, plRows_length, h1, cond_false, x4_3_x0, aw]
    rfl
  | succ j ihj =>
    intro k hk
    obtain ⟨p, hpk⟩ := at_of (l := PL) (k := k) (by omega)
    obtain ⟨a1, a2, a3, a4⟩ := hp p (List.mem_of_getElem? hpk)
    have h21 := R21 p.1 a1 a2 (by omega)
    have hpl := prm_len p.1 []
    have next := ihj (k + 1) (by omega)
    have h1 : (k : Int) < (PL.length : Int) := by omega
    have h2 : (0 : Int) ≤ (k : Int) := by omega
    have main := M4_3_0 (NL := [made, [[84], [85]], prm p.1 []]) (fun n hn => by
      simp at hn
      rcases hn with rfl | rfl | rfl
      · omega
      · simp
      · simp at hpl; omega) (by simp) a1 a4 (K4_3 R) (.sl 1 (strRows made)) s1 r2 s3 r4 s5 r6 s7 r8 r9 r10 r11 r12 s13 r14 (plRows PL) [[(T.str ([84] : List UInt8))], [(T.str ([85] : List UInt8))]] (k : Int) 3 0 (by simp)
    rw [l4_3]
    simp only [plRows_length, h1, h2, decide_true, cond_true, and_self, Int.toNat_natCast, nth_plRows hpk, nth, av_eta, h21, Option.bind_some, AV.sl1K, AV.tK, T.slK, Nat.beq, nilK]
    refine (show _ = _ from main).trans ?_
    rw [wrap_succ (by omega)]
    exact next

theorem M4_1 {S : List Ty} (hS : S.length ≤ 1000) (hok : ∀ t, t ∈ S → t.Ok ∧ size t ≤ 10000) {made : List Str} (hmade : made.length ≤ 1000) {by' : List Ty} (hbl : by'.length ≤ 1000) (hb : ∀ t, t ∈ by' → t.Ok ∧ size t ≤ 10000) (s2 : Str) (r3 : List (List T)) (s4 : Str) (r5 : List (List T)) (s6 : Str) (r7 : List (List T)) (s8 : Str) (r9 : List (List T)) : ∀ (j k : Nat), j + k = S.length →
    L4_1 R (K4_1 R) (.sl 1 (strRows made)) (rows by') s2 r3 s4 r5 s6 r7 s8 r9 (rows S) (k : Int) = X4_1_x2 (K4_1 R) (.sl 1 (strRows made)) (rows by') s2 r3 s4 r5 s6 r7 s8 r9 (rows S) (S.length : Int) false := by
  intro j
  induction j with
  | zero =>
    intro k hk
    have h1 : decide ((k : Int) < (S.length : Int)) = false := decide_eq_false (by omega)
    rw [l4_1, rows_length, h1, cond_false, show k = S.length by omega]
  | succ j ihj =>
    intro k hk
    obtain ⟨t, ht⟩ := at_of (l := S) (k := k) (by omega)
    obtain ⟨a1, a2⟩ := hok t (List.mem_of_getElem? ht)
    have hsz := size_mul (names := made) (by' := by') (r := 10000) (by omega) (fun b h => (hb b h).2) t
    have hsz2 : size t * 10000 ≤ 10000 * 10000 := Nat.mul_le_mul_right _ a2
    have h18 := R18 (t := t) (names := made) (by' := by') hmade hbl (fun b h => (hb b h).1) (fun b h => by have := (hb b h).2; omega) a1 (by omega)
    have h19 := R19 (t := t) (names := made) (by' := by') hmade hbl (fun b h => (hb b h).1) (fun b h => by have := (hb b h).2; omega) a1 (by omega)
    have h20 := R20 _ (sub_eq t made by' (fun b h => (hb b h).1) a1) (sub t made by').1
    rw [(same_eq _ _).2 rfl] at h20
    have next := ihj (k + 1) (by omega)
    have h1 : (k : Int) < (S.length : Int) := by omega
    have h2 : (0 : Int) ≤ (k : Int) := by omega
    generalize (sub t made by').2 = e at h18 h19
    generalize (sub t made by').1 = u at h18 h19 h20
    obtain ⟨nu, lu⟩ := u
    simp only [av_mk] at h18 h19 h20
    rw [l4_1]
    simp only [rows_length, h1, h2, decide_true, cond_true, and_self, Int.toNat_natCast, nth_rows' ht, nth, av_eta, h18, h19, Option.bind_some, AV.tupK, consK, AV.aggK, AV.strK, AV.tK, T.strK, AV.sl1K, T.slK, Nat.beq, nilK, AV.int1K, AV.intK, T.intK, IntKind.same, beq_self_eq_true, Bool.not_true, cond_false, h20, AV.boolK, T.boolK]
    rw [wrap_succ (by omega)]
    exact next

theorem M4_4_0_0 {b : List Ty} (hb : b.length ≤ 10000) (hok : ∀ t, t ∈ b → t.Ok) (ks : Ks Res) (x0 : T) (s3 : Str) (r4 : List (List T)) (s5 : Str) (r6 : List (List T)) (s7 : Str) (r8 : List (List T)) (s9 : Str) (r10 : List (List T)) (r11 : List (List T)) (r12 : List (List T)) (r13 : List (List T)) (s14 : Str) (r15 : List (List T)) (r16 : List (List T)) (x17 : T) (x18 : T) (x19 : T) (x20 : T) (r21 : List (List T)) (r22 : List (List T)) (i23 : Int) (i24 : Int) : ∀ (j k : Nat), j + k = b.length →
    L4_4_0_0 R (K4_4_0_0 R ks) x0 (rows b) (rows b) s3 r4 s5 r6 s7 r8 s9 r10 r11 r12 r13 s14 r15 r16 x17 x18 x19 x20 r21 r22 i23 i24 (k : Int) = L4_4_0 R ks x0 s3 r4 s5 r6 s7 r8 s9 r10 r11 r12 r13 s14 r15 r16 x17 x18 x19 x20 r21 r22 i23 (IntKind.wrap .i64 (i24 + (1 : Int))) := by
  intro j
  induction j with
  | zero =>
    intro k hk
    have h1 : decide ((k : Int) < (b.length : Int)) = false := decide_eq_false (by omega)
    rw [l4_4_0_0, rows_length, h1, cond_false, x4_4_0_0_x1]
  | succ j ihj =>
    intro k hk
    obtain ⟨t, ht⟩ := at_of (l := b) (k := k) (by omega)
    have h20 := R20 t (hok t (List.mem_of_getElem? ht)) t
    rw [(same_eq t t).2 rfl] at h20
    have h1 : (k : Int) < (b.length : Int) := by omega
    have h2 : (0 : Int) ≤ (k : Int) := by omega
    rw [l4_4_0_0]
    simp only [rows_length, h1, h2, decide_true, cond_true, and_self, Int.toNat_natCast, nth_rows' ht, nth, av_eta, h20, Option.bind_some, AV.boolK, AV.tK, T.boolK, nilK, Bool.not_true, cond_false]
    rw [wrap_succ (by omega)]
    exact ihj (k + 1) (by omega)

theorem M4_4_0 {NL : List (List Str)} (hN : ∀ n, n ∈ NL → n.length ≤ 10000) (hNl : NL.length ≤ 1000) {p t : Ty} (hp : p.Ok) (ht : t.Ok) (ks : Ks Res) (x0 : T) (s1 : Str) (r2 : List (List T)) (s3 : Str) (r4 : List (List T)) (s5 : Str) (r6 : List (List T)) (s7 : Str) (r8 : List (List T)) (r9 : List (List T)) (r10 : List (List T)) (r11 : List (List T)) (s12 : Str) (r13 : List (List T)) (r14 : List (List T)) (r19 : List (List T)) (i21 : Int) : ∀ (j k : Nat), j + k = NL.length →
    L4_4_0 R (K4_4_0 R ks) x0 s1 r2 s3 r4 s5 r6 s7 r8 r9 r10 r11 s12 r13 r14 (.str p.name) (.sl 2 (rows p.args)) (.str t.name) (.sl 2 (rows t.args)) r19 (nlRows NL) i21 (k : Int) = L4_4 R ks x0 s1 r2 s3 r4 s5 r6 s7 r8 r9 r10 r11 s12 r13 r14 (IntKind.wrap .i64 (i21 + (1 : Int))) := by
  intro j
  induction j with
  | zero =>
    intro k hk
    have h1 : decide ((k : Int) < (NL.length : Int)) = false := decide_eq_false (by omega)
    rw [l4_4_0, nlRows_length, h1, cond_false, x4_4_0_x2]
  | succ j ihj =>
    intro k hk
    obtain ⟨n, hn⟩ := at_of (l := NL) (k := k) (by omega)
    have hnl := hN n (List.mem_of_getElem? hn)
    have h22 := R22 hp ht hnl
    have h23 := R23 hp ht hnl
    have hm := fun by' h => mtch_sound ht (p := p) (names := n) (by' := by') h
    have h1 : (k : Int) < (NL.length : Int) := by omega
    have h2 : (0 : Int) ≤ (k : Int) := by omega
    have next := ihj (k + 1) (by omega)
    have go : ∀ b : List Ty, b.length ≤ 10000 → (∀ t, t ∈ b → t.Ok) → L4_4_0_0 R (K4_4_0_0 R (K4_4_0 R ks)) x0 (rows b) (rows b) s1 r2 s3 r4 s5 r6 s7 r8 r9 r10 r11 s12 r13 r14 (.str p.name) (.sl 2 (rows p.args)) (.str t.name) (.sl 2 (rows t.args)) r19 (nlRows NL) i21 (k : Int) (0 : Int) = L4_4 R ks x0 s1 r2 s3 r4 s5 r6 s7 r8 r9 r10 r11 s12 r13 r14 (IntKind.wrap .i64 (i21 + (1 : Int))) := by
      intro b hb hok
      have := M4_4_0_0 hb hok (K4_4_0 R ks) x0 s1 r2 s3 r4 s5 r6 s7 r8 r9 r10 r11 s12 r13 r14 (.str p.name) (.sl 2 (rows p.args)) (.str t.name) (.sl 2 (rows t.args)) r19 (nlRows NL) i21 (k : Int) b.length 0 (by omega)
      rw [show (0 : Int) = ((0 : Nat) : Int) from rfl, this, wrap_succ (by omega)]
      exact next
    rw [l4_4_0]
    simp only [nlRows_length, h1, h2, decide_true, cond_true, and_self, Int.toNat_natCast, nth_nlRows hn, nth, av_eta, h22, h23, Option.bind_some]
    cases hc : mtch p t n with
    | none =>
      simp only [mtchAV, AV.tupK, consK, AV.sl1K, AV.tK, T.slK, Nat.beq, cond_true, AV.boolK, T.boolK, nilK, beq_self_eq_true, Bool.not_true, cond_false]
      exact go [] (by simp) fun t ht => by simp at ht
    | some b =>
      simp only [mtchAV, AV.tupK, consK, AV.sl1K, AV.tK, T.slK, Nat.beq, cond_true, AV.boolK, T.boolK, nilK, beq_self_eq_true, Bool.not_true, cond_false]
      obtain ⟨q1, _, _, q4⟩ := hm b hc
      exact go b (by omega) fun t ht => (q4 t ht).1

theorem M4_4 {PL : List (Ty × Ty)} (hPL : PL.length ≤ 1000) (hp : ∀ p, p ∈ PL → p.1.Ok ∧ Nm p.1 ∧ size p.1 ≤ 10000 ∧ p.2.Ok) {made : List Str} (hmade : made.length ≤ 1000) (s1 : Str) (r2 : List (List T)) (s3 : Str) (r4 : List (List T)) (s5 : Str) (r6 : List (List T)) (s7 : Str) (r8 : List (List T)) (r9 : List (List T)) (r10 : List (List T)) (r11 : List (List T)) (s12 : Str) (r13 : List (List T)) : ∀ (j k : Nat), j + k = PL.length →
    L4_4 R (K4_4 R) (.sl 1 (strRows made)) s1 r2 s3 r4 s5 r6 s7 r8 r9 r10 r11 s12 r13 (plRows PL) (k : Int) = some (.t (.bool true), []) := by
  have aw := awake
  intro j
  induction j with
  | zero =>
    intro k hk
    have h1 : decide ((k : Int) < (PL.length : Int)) = false := decide_eq_false (by omega)
    rw [l4_4, plRows_length, h1, cond_false, x4_4_x0, aw]
    rfl
  | succ j ihj =>
    intro k hk
    obtain ⟨p, hpk⟩ := at_of (l := PL) (k := k) (by omega)
    obtain ⟨a1, a2, a3, a4⟩ := hp p (List.mem_of_getElem? hpk)
    have h21 := R21 p.1 a1 a2 (by omega)
    have hpl := prm_len p.1 []
    have next := ihj (k + 1) (by omega)
    have h1 : (k : Int) < (PL.length : Int) := by omega
    have h2 : (0 : Int) ≤ (k : Int) := by omega
    have main := M4_4_0 (NL := [made, [[84], [85]], prm p.1 []]) (fun n hn => by
      simp at hn
      rcases hn with rfl | rfl | rfl
      · omega
      · simp
      · simp at hpl; omega) (by simp) a1 a4 (K4_4 R) (.sl 1 (strRows made)) s1 r2 s3 r4 s5 r6 s7 r8 r9 r10 r11 s12 r13 (plRows PL) [[(T.str ([84] : List UInt8))], [(T.str ([85] : List UInt8))]] (k : Int) 3 0 (by simp)
    rw [l4_4]
    simp only [plRows_length, h1, h2, decide_true, cond_true, and_self, Int.toNat_natCast, nth_plRows hpk, nth, av_eta, h21, Option.bind_some, AV.sl1K, AV.tK, T.slK, Nat.beq, nilK]
    refine (show _ = _ from main).trans ?_
    rw [wrap_succ (by omega)]
    exact next

theorem M4_2 {S : List Ty} (hS : S.length ≤ 1000) (hok : ∀ t, t ∈ S → t.Ok ∧ size t ≤ 10000) {made : List Str} (hmade : made.length ≤ 1000) {by' : List Ty} (hbl : by'.length ≤ 1000) (hb : ∀ t, t ∈ by' → t.Ok ∧ size t ≤ 10000) (s2 : Str) (r3 : List (List T)) (s4 : Str) (r5 : List (List T)) (s6 : Str) (r7 : List (List T)) (s8 : Str) (r9 : List (List T)) : ∀ (j k : Nat), j + k = S.length →
    L4_2 R (K4_2 R) (.sl 1 (strRows made)) (rows by') s2 r3 s4 r5 s6 r7 s8 r9 (rows S) (k : Int) = X4_2_x2 (K4_2 R) (.sl 1 (strRows made)) (rows by') s2 r3 s4 r5 s6 r7 s8 r9 (rows S) (S.length : Int) false := by
  intro j
  induction j with
  | zero =>
    intro k hk
    have h1 : decide ((k : Int) < (S.length : Int)) = false := decide_eq_false (by omega)
    rw [l4_2, rows_length, h1, cond_false, show k = S.length by omega]
  | succ j ihj =>
    intro k hk
    obtain ⟨t, ht⟩ := at_of (l := S) (k := k) (by omega)
    obtain ⟨a1, a2⟩ := hok t (List.mem_of_getElem? ht)
    have hsz := size_mul (names := made) (by' := by') (r := 10000) (by omega) (fun b h => (hb b h).2) t
    have hsz2 : size t * 10000 ≤ 10000 * 10000 := Nat.mul_le_mul_right _ a2
    have h18 := R18 (t := t) (names := made) (by' := by') hmade hbl (fun b h => (hb b h).1) (fun b h => by have := (hb b h).2; omega) a1 (by omega)
    have h19 := R19 (t := t) (names := made) (by' := by') hmade hbl (fun b h => (hb b h).1) (fun b h => by have := (hb b h).2; omega) a1 (by omega)
    have h20 := R20 _ (sub_eq t made by' (fun b h => (hb b h).1) a1) (sub t made by').1
    rw [(same_eq _ _).2 rfl] at h20
    have next := ihj (k + 1) (by omega)
    have h1 : (k : Int) < (S.length : Int) := by omega
    have h2 : (0 : Int) ≤ (k : Int) := by omega
    generalize (sub t made by').2 = e at h18 h19
    generalize (sub t made by').1 = u at h18 h19 h20
    obtain ⟨nu, lu⟩ := u
    simp only [av_mk] at h18 h19 h20
    rw [l4_2]
    simp only [rows_length, h1, h2, decide_true, cond_true, and_self, Int.toNat_natCast, nth_rows' ht, nth, av_eta, h18, h19, Option.bind_some, AV.tupK, consK, AV.aggK, AV.strK, AV.tK, T.strK, AV.sl1K, T.slK, Nat.beq, nilK, AV.int1K, AV.intK, T.intK, IntKind.same, beq_self_eq_true, Bool.not_true, cond_false, h20, AV.boolK, T.boolK]
    rw [wrap_succ (by omega)]
    exact next

end Go.AS.Q4
