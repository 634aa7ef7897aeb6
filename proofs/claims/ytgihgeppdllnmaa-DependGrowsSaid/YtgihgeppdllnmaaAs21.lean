/- AS, part 21: loops, meeting ways and calls are what their bodies say. -/
import Derived.Test.YtgihgeppdllnmaaAs20
namespace Go.AS
set_option linter.all false

/-! ### Chains -/
structure OLim {α : Type} (f : Nat → Option α) (g : Option α) : Prop where
  mono : ∀ n r, f n = some r → f (n + 1) = some r
  sup : ∀ r, g = some r ↔ ∃ n, f n = some r
section
variable {α β : Type}
theorem OLim.le {f : Nat → Option α} {g : Option α} (h : OLim f g) {n m : Nat} (hnm : n ≤ m) {r : α} (hr : f n = some r) : f m = some r := by
  induction hnm with
  | refl => exact hr
  | step _ ih => exact h.mono _ _ ih
theorem OLim.const (x : Option α) : OLim (fun _ => x) x := ⟨fun _ _ h => h, fun r => ⟨fun h => ⟨0, h⟩, fun ⟨_, h⟩ => h⟩⟩
theorem OLim.bind {f : Nat → Option α} {g : Option α} {k : Nat → α → Option β} {kk : α → Option β} (h : OLim f g) (hk : ∀ a, OLim (fun n => k n a) (kk a)) : OLim (fun n => (f n).bind (k n)) (g.bind kk) := by
  refine ⟨fun n r hr => ?_, fun r => ⟨fun hr => ?_, fun ⟨n, hr⟩ => ?_⟩⟩
  · obtain ⟨a, h1, h2⟩ := Option.bind_eq_some_iff.1 hr
    exact Option.bind_eq_some_iff.2 ⟨a, h.mono n a h1, (hk a).mono n r h2⟩
  · obtain ⟨a, h1, h2⟩ := Option.bind_eq_some_iff.1 hr
    obtain ⟨n, h1⟩ := (h.sup a).1 h1
    obtain ⟨m, h2⟩ := ((hk a).sup r).1 h2
    exact ⟨max n m, Option.bind_eq_some_iff.2 ⟨a, h.le (Nat.le_max_left _ _) h1, (hk a).le (Nat.le_max_right _ _) h2⟩⟩
  · obtain ⟨a, h1, h2⟩ := Option.bind_eq_some_iff.1 hr
    exact Option.bind_eq_some_iff.2 ⟨a, (h.sup a).2 ⟨n, h1⟩, ((hk a).sup r).2 ⟨n, h2⟩⟩
theorem OLim.cond {f f' : Nat → Option α} {g g' : Option α} (b : Bool) (h : OLim f g) (h' : OLim f' g') : OLim (fun n => cond b (f n) (f' n)) (cond b g g') := by
  cases b
  · exact h'
  · exact h
theorem OLim.coin {f f' : Nat → Option α} {g g' : Option α} (h : OLim f g) (h' : OLim f' g') : OLim (fun n => coinK (f n) (f' n)) (coinK g g') := by
  have key : ∀ {x y : Option α} {r : α}, coinK x y = some r ↔ x = some r ∧ y = some r := by
    intro x y r
    constructor
    · exact coinK_ok
    · rintro ⟨rfl, rfl⟩; exact coinK_self _
  refine ⟨fun n r hr => ?_, fun r => ⟨fun hr => ?_, fun ⟨n, hr⟩ => ?_⟩⟩
  · obtain ⟨h1, h2⟩ := key.1 hr
    exact key.2 ⟨h.mono n r h1, h'.mono n r h2⟩
  · obtain ⟨h1, h2⟩ := key.1 hr
    obtain ⟨n, h1⟩ := (h.sup r).1 h1
    obtain ⟨m, h2⟩ := (h'.sup r).1 h2
    exact ⟨max n m, key.2 ⟨h.le (Nat.le_max_left _ _) h1, h'.le (Nat.le_max_right _ _) h2⟩⟩
  · obtain ⟨h1, h2⟩ := key.1 hr
    exact key.2 ⟨(h.sup r).2 ⟨n, h1⟩, (h'.sup r).2 ⟨n, h2⟩⟩
/-- From one of two that is below the other. -/
theorem OLim.two {x y : Option α} (h : ∀ r, x = some r → y = some r) : OLim (fun n => match n with | 0 => x | _ + 1 => y) y := by
  refine ⟨fun n r hr => ?_, fun r => ⟨fun hr => ⟨1, hr⟩, fun ⟨n, hr⟩ => ?_⟩⟩
  · cases n with
    | zero => exact h r hr
    | succ n => exact hr
  · cases n with
    | zero => exact h r hr
    | succ n => exact hr
theorem eq_of_some {x y : Option α} (h : ∀ r, x = some r ↔ y = some r) : x = y := by
  cases x with
  | none => cases y with
    | none => rfl
    | some r => exact absurd ((h r).2 rfl) (by simp)
  | some r => exact ((h r).1 rfl).symm
end
def CLim (Cn : Nat → CallF) (C : CallF) : Prop := ∀ f args h, OLim (fun n => Cn n f args h) (C f args h)
theorem CLim.const (C : CallF) : CLim (fun _ => C) C := fun _ _ _ => .const _

section
variable {cx : Cx} {β : Type} {Cn : Nat → CallF} {C : CallF}
theorem callK_lim (hC : CLim Cn C) (d : Nat) (ty f : Nat) (args0 : List AV) (h0 : Heap) (k : OpK β) : OLim (fun n => callK cx (Cn n) d ty f args0 h0 k) (callK cx C d ty f args0 h0 k) := by
  unfold callK
  cases nilArgs d ((asc cx.own f).getD []) 0 h0 args0 with
  | none => exact .const _
  | some p1 =>
    obtain ⟨args, h, w0⟩ := p1
    simp only
    cases convArgs h (mutKeys ((asc cx.own f).getD []) 0 args) ((asc cx.own f).getD []) [] 0 args with
    | none => exact .const _
    | some p2 =>
      obtain ⟨args1, i1, b1⟩ := p2
      simp only
      cases convEnts h (mutKeys ((asc cx.own f).getD []) 0 args) 64 0 i1 with
      | none => exact .const _
      | some p3 =>
        obtain ⟨h1, imps, b2⟩ := p3
        simp only
        exact OLim.cond _ (.const _) (OLim.bind (hC f args1 h1) fun p => .const _)
theorem opK_lim (hC : CLim Cn C) (o : Oper) (s : St) (k : OpK β) : OLim (fun n => opK cx (Cn n) o s k) (opK cx C o s k) := by
  cases hop : o.op with
  | call c =>
    simp only [opK, hop]
    cases hc : c.callee with
    | value f =>
      simp only
      cases opd s f <;> first | exact .const _ | skip
      rename_i f caps
      simp only
      refine OLim.cond _ ?_ (.const _)
      cases asc cx.prim f with
      | some p => exact .const _
      | none => exact callK_lim hC ..
    | builtin b => cases b <;> exact .const _
    | invoke r m => exact .const _
  | makeFunc fn first caps => (simp only [opK, hop]; cases fn <;> exact .const _)
  | slice t x lo hi mx => (simp only [opK, hop]; cases mx <;> exact .const _)
  | makeMap t r => (simp only [opK, hop]; cases r <;> exact .const _)
  | lookup t x i ok => (simp only [opK, hop]; cases ok <;> exact .const _)
  | _ => (simp only [opK, hop]; exact .const _)
theorem stepK_lim0 (hC : CLim Cn C) (all : List Oper) (o : Oper) (s : St) (k : St → List Nat → List Nat → Option β) : OLim (fun n => stepK cx (Cn n) all o s k) (stepK cx C all o s k) := by
  unfold stepK
  cases o.guard with
  | none => exact opK_lim hC ..
  | some q =>
    obtain ⟨j, want⟩ := q
    simp only
    cases (nth default all j).dst with
    | none => exact .const _
    | some g =>
      simp only
      cases nth .dead s.slots g <;> first | exact .const _ | skip
      rename_i x
      cases x <;> first | exact .const _ | skip
      rename_i b
      simp only [T.boolK]
      cases want
      · exact OLim.cond _ (.const _) (opK_lim hC ..)
      · exact OLim.cond _ (opK_lim hC ..) (.const _)
def tup3 (a : St) (b c : List Nat) : Option (St × List Nat × List Nat) := some (a, b, c)
theorem stepK_bind (all : List Oper) (o : Oper) (s : St) (k : St → List Nat → List Nat → Option β) : stepK cx C all o s k = (stepK cx C all o s tup3).bind fun t => k t.1 t.2.1 t.2.2 := by
  rw [stepK_nat]
  rfl
theorem stepK_lim (hC : CLim Cn C) (all : List Oper) (o : Oper) (s : St) {kn : Nat → St → List Nat → List Nat → Option β} {k : St → List Nat → List Nat → Option β} (hk : ∀ a b c, OLim (fun n => kn n a b c) (k a b c)) :
    OLim (fun n => stepK cx (Cn n) all o s (kn n)) (stepK cx C all o s k) := by
  have h1 : (fun n => stepK cx (Cn n) all o s (kn n)) = fun n => (stepK cx (Cn n) all o s tup3).bind fun t => kn n t.1 t.2.1 t.2.2 := funext fun n => stepK_bind ..
  rw [h1, stepK_bind]
  exact (stepK_lim0 hC all o s tup3).bind fun t => hk ..
theorem regK_lim (hC : CLim Cn C) (all : List Oper) {kn : Nat → St → Option β} {k : St → Option β} (hk : ∀ a, OLim (fun n => kn n a) (k a)) : ∀ (os : List Oper) (s : St), OLim (fun n => regK cx (Cn n) all os s (kn n)) (regK cx C all os s k)
  | [], s => hk s
  | o :: os, s => by
    simp only [regK]
    exact stepK_lim hC all o s fun a b c => regK_lim hC all hk os a
theorem drawK_lim (hC : CLim Cn C) (all : List Oper) (bs : List (List Nat)) {kn : Nat → St → Option β} {k : St → Option β} (hk : ∀ a, OLim (fun n => kn n a) (k a)) : ∀ (os : List Oper) (i : Nat) (fs : List FP) (s : St), OLim (fun n => drawK cx (Cn n) all bs i fs os s (kn n)) (drawK cx C all bs i fs os s k)
  | [], i, fs, s => hk s
  | o :: os, i, fs, s => by
    simp only [drawK]
    cases bst cx o (maskS (opReads all o ++ o.dst.toList) 0 s.slots) s.heap with
    | some q => obtain ⟨kk, e⟩ := q; exact OLim.cond _ (drawK_lim hC all bs hk os _ _ _) (.const _)
    | none => exact OLim.cond _ (stepK_lim hC all o _ fun a b c => OLim.cond _ (drawK_lim hC all bs hk os _ _ _) (.const _)) (.const _)

/-! ### Least fixed points -/
theorem iter_le {F : (St → Option β) → St → Option β} (hF : ∀ f g : St → Option β, (∀ s r, f s = some r → g s = some r) → ∀ s r, F f s = some r → F g s = some r) : ∀ n s r, iter F n s = some r → iter F (n + 1) s = some r := by
  intro n
  induction n with
  | zero => intro s r h; cases h
  | succ n ih => intro s r h; exact hF _ _ ih s r h
theorem lfp_iff {F : (St → Option β) → St → Option β} (hF : ∀ f g : St → Option β, (∀ s r, f s = some r → g s = some r) → ∀ s r, F f s = some r → F g s = some r) (s : St) : OLim (fun n => iter F n s) (lfp F s) := by
  have mono := iter_le hF
  have le : ∀ {n m}, n ≤ m → ∀ {r}, iter F n s = some r → iter F m s = some r := by
    intro n m hnm r hr
    induction hnm with
    | refl => exact hr
    | step _ ih => exact mono _ _ _ ih
  refine ⟨fun n r h => mono n s r h, fun r => ⟨iter_lfp, fun ⟨n, hn⟩ => ?_⟩⟩
  unfold lfp
  have hex : ∃ n r, iter F n s = some r := ⟨n, r, hn⟩
  rw [dif_pos hex]
  obtain ⟨r', hr'⟩ := hex.choose_spec
  have h1 := le (Nat.le_max_left n hex.choose) hn
  have h2 := le (Nat.le_max_right n hex.choose) hr'
  rw [h1] at h2
  rw [hr', ← h2]
theorem lfp_const (f : St → Option β) (s : St) : lfp (fun _ => f) s = f s := by
  refine eq_of_some fun r => ⟨fun h => ?_, fun h => ?_⟩
  · obtain ⟨n, hn⟩ := iter_lfp h
    cases n with
    | zero => cases hn
    | succ n => exact hn
  · exact ((lfp_iff (F := fun _ => f) (fun _ _ _ s r h => h) s).sup r).2 ⟨1, h⟩
noncomputable def meetS (lv : Lv) (c : Code) (s : St) : St := match firstReg c with
  | none => s
  | some id => match asc lv (100000 + id) with
    | none => s
    | some m => norm ⟨m, keepKeys s m⟩ s
theorem meetK_eq (lv : Lv) (c : Code) (f : St → Option β) (s : St) : meetK lv c f s = f (meetS lv c s) := by
  unfold meetK meetS
  cases firstReg c with
  | none => rfl
  | some id =>
    simp only
    cases asc lv (100000 + id) with
    | none => rfl
    | some m => exact lfp_const f _

structure KsLim (K : Nat → Ks β) (k : Ks β) : Prop where
  kn : ∀ s, OLim (fun n => (K n).kn s) (k.kn s)
  ex : ∀ id s, OLim (fun n => look1 (K n).ex id s) (look1 k.ex id s)
  kr : ∀ s, OLim (fun n => (K n).kr s) (k.kr s)
theorem KsLim.const (k : Ks β) : KsLim (fun _ => k) k := ⟨fun _ => .const _, fun _ _ => .const _, fun _ => .const _⟩
theorem boolK_bind (v : AV) (k : Bool → Option β) : AV.boolK v k = (AV.boolK v some).bind k := by rw [boolK_nat]; rfl
theorem run_lim {lv : Lv} : ∀ (c : Code) {Cn : Nat → CallF} {C : CallF} (_ : CLim Cn C) {K : Nat → Ks β} {k : Ks β} (_ : KsLim K k) (s : St), OLim (fun n => run cx (Cn n) lv c (K n) s) (run cx C lv c k s)
  | .skip, Cn, C, hC, K, k, hK, s => by simp only [run]; exact hK.kn s
  | .region id ops draw, Cn, C, hC, K, k, hK, s => by
    simp only [run]
    exact OLim.cond _ (OLim.cond _ (OLim.coin (regK_lim hC _ hK.kn ..) (regK_lim hC _ hK.kn ..)) (drawK_lim hC _ _ hK.kn ..)) (regK_lim hC _ hK.kn ..)
  | .seq a b, Cn, C, hC, K, k, hK, s => by
    simp only [run]
    exact run_lim a hC (K := fun n => ⟨meetK lv b (run cx (Cn n) lv b (K n)), (K n).ex, (K n).kr⟩) (k := ⟨meetK lv b (run cx C lv b k), k.ex, k.kr⟩) ⟨fun s => by simp only [meetK_eq]; exact run_lim b hC hK _, hK.ex, hK.kr⟩ s
  | .cond c a b, Cn, C, hC, K, k, hK, s => by
    simp only [run]
    have h1 : (fun n => AV.boolK (opd s c) fun t => cond t (run cx (Cn n) lv a (K n) s) (run cx (Cn n) lv b (K n) s)) = fun n => (AV.boolK (opd s c) some).bind fun t => cond t (run cx (Cn n) lv a (K n) s) (run cx (Cn n) lv b (K n) s) := funext fun n => boolK_bind ..
    have h2 := boolK_bind (opd s c) fun t => cond t (run cx C lv a k s) (run cx C lv b k s)
    rw [h1, h2]
    exact (OLim.const _).bind fun t => OLim.cond _ (run_lim a hC hK s) (run_lim b hC hK s)
  | .block id c, Cn, C, hC, K, k, hK, s => by
    simp only [run]
    refine run_lim c hC (K := fun n => ⟨(K n).kn, (id, (K n).kn) :: (K n).ex, (K n).kr⟩) (k := ⟨k.kn, (id, k.kn) :: k.ex, k.kr⟩) ⟨hK.kn, fun id' s => ?_, hK.kr⟩ s
    simp only [look1]
    exact OLim.cond _ (hK.kn s) (hK.ex id' s)
  | .exit id, Cn, C, hC, K, k, hK, s => by simp only [run]; exact hK.ex id s
  | .ret, Cn, C, hC, K, k, hK, s => by simp only [run]; exact hK.kr s
  | .loop c, Cn, C, hC, K, k, hK, s => by
    simp only [run]
    generalize headMask lv c (tok lv s) = m
    generalize norm m (tok lv s) = s0
    have mono : ∀ (C : CallF) (k : Ks β), ∀ f g : St → Option β, (∀ s r, f s = some r → g s = some r) → ∀ s r, run cx C lv c ⟨fun s2 => f (norm m s2), k.ex, k.kr⟩ s = some r → run cx C lv c ⟨fun s2 => g (norm m s2), k.ex, k.kr⟩ s = some r := by
      intro C k f g hfg s r h
      exact (run_lim c (CLim.const C) (K := fun n => ⟨fun s2 => match n with | 0 => f (norm m s2) | _ + 1 => g (norm m s2), k.ex, k.kr⟩) (k := ⟨fun s2 => g (norm m s2), k.ex, k.kr⟩) ⟨fun s => OLim.two (hfg _), fun id s => OLim.const (look1 k.ex id s), fun s => OLim.const (k.kr s)⟩ s).mono 0 r h
    have it : ∀ j s, OLim (fun n => iter (fun rec s1 => run cx (Cn n) lv c ⟨fun s2 => rec (norm m s2), (K n).ex, (K n).kr⟩ s1) j s) (iter (fun rec s1 => run cx C lv c ⟨fun s2 => rec (norm m s2), k.ex, k.kr⟩ s1) j s) := by
      intro j
      induction j with
      | zero => intro s; exact .const _
      | succ j ih => intro s; exact run_lim c hC (K := fun n => ⟨fun s2 => iter _ j (norm m s2), (K n).ex, (K n).kr⟩) (k := ⟨fun s2 => iter _ j (norm m s2), k.ex, k.kr⟩) ⟨fun s => ih _, hK.ex, hK.kr⟩ s
    have l1 := fun n => lfp_iff (mono (Cn n) (K n)) s0
    have l2 := lfp_iff (mono C k) s0
    refine ⟨fun n r h => ?_, fun r => ⟨fun h => ?_, fun ⟨n, h⟩ => ?_⟩⟩
    · obtain ⟨j, hj⟩ := ((l1 n).sup r).1 h
      exact ((l1 (n + 1)).sup r).2 ⟨j, (it j s0).mono n r hj⟩
    · obtain ⟨j, hj⟩ := (l2.sup r).1 h
      obtain ⟨n, hn⟩ := ((it j s0).sup r).1 hj
      exact ⟨n, ((l1 n).sup r).2 ⟨j, hn⟩⟩
    · obtain ⟨j, hj⟩ := ((l1 n).sup r).1 h
      exact (l2.sup r).2 ⟨j, ((it j s0).sup r).2 ⟨n, hj⟩⟩
  | .label _, Cn, C, hC, K, k, hK, s => by simp only [run]; exact .const _
  | .goto _, Cn, C, hC, K, k, hK, s => by simp only [run]; exact .const _
  | .scope _, Cn, C, hC, K, k, hK, s => by simp only [run]; exact .const _
  | .refuse _, Cn, C, hC, K, k, hK, s => by simp only [run]; exact .const _
  | .rangeFunc _ _ _ _, Cn, C, hC, K, k, hK, s => by simp only [run]; exact .const _
end

/-! ### The unfoldings -/
theorem joinL_unfold {β : Type} (cx : Cx) (C : CallF) (lv : Lv) (c : Code) (ks : Ks β) (s : St) : joinL cx C lv c ks s = run cx C lv c ks s := lfp_const _ s
theorem loopL_unfold {β : Type} (cx : Cx) (C : CallF) (lv : Lv) (c : Code) (m : Mask) (ks : Ks β) (s : St) : loopL cx C lv c m ks s = run cx C lv c (loopKs cx C lv c m ks) s := by
  have mono : ∀ f g : St → Option β, (∀ s r, f s = some r → g s = some r) → ∀ s r, run cx C lv c ⟨fun s2 => f (norm m s2), ks.ex, ks.kr⟩ s = some r → run cx C lv c ⟨fun s2 => g (norm m s2), ks.ex, ks.kr⟩ s = some r := by
    intro f g hfg s r h
    exact (run_lim c (CLim.const C) (K := fun n => ⟨fun s2 => match n with | 0 => f (norm m s2) | _ + 1 => g (norm m s2), ks.ex, ks.kr⟩) (k := ⟨fun s2 => g (norm m s2), ks.ex, ks.kr⟩) ⟨fun s => OLim.two (hfg _), fun id s => OLim.const (look1 ks.ex id s), fun s => OLim.const (ks.kr s)⟩ s).mono 0 r h
  have l := fun s => lfp_iff mono s
  have main := run_lim (cx := cx) (lv := lv) c (CLim.const C) (K := fun n => ⟨fun s2 => iter (fun rec s1 => run cx C lv c ⟨fun s2 => rec (norm m s2), ks.ex, ks.kr⟩ s1) n (norm m s2), ks.ex, ks.kr⟩) (k := loopKs cx C lv c m ks) ⟨fun s => l _, fun id s => OLim.const (look1 ks.ex id s), fun s => OLim.const (ks.kr s)⟩ s
  refine eq_of_some fun r => ⟨fun h => ?_, fun h => ?_⟩
  · obtain ⟨n, hn⟩ := ((l s).sup r).1 h
    cases n with
    | zero => cases hn
    | succ n => exact (main.sup r).2 ⟨n, hn⟩
  · obtain ⟨n, hn⟩ := (main.sup r).1 h
    exact ((l s).sup r).2 ⟨n + 1, hn⟩
section
variable {P : Program} {cx : Cx}
theorem body_lim {Cn : Nat → CallF} {C : CallF} (hC : CLim Cn C) (f : FuncId) (fn : Func) (args : List AV) (h : Heap) : OLim (fun n => body cx (Cn n) f fn args h) (body cx C f fn args h) := by
  unfold body
  cases fn.body with
  | none => exact .const _
  | some c => exact OLim.cond _ (run_lim c hC (KsLim.const _) _) (.const _)
def two (C C' : CallF) : Nat → CallF
  | 0 => C
  | _ + 1 => C'
theorem callN_mono : ∀ n f args h r, callN P cx n f args h = some r → callN P cx (n + 1) f args h = some r := by
  intro n
  induction n with
  | zero => intro f args h r hr; cases hr
  | succ n ih =>
    intro f args h r hr
    simp only [callN] at hr ⊢
    cases hf : P.funcs[f]? with
    | none => rw [hf] at hr; cases hr
    | some fn =>
      rw [hf] at hr
      have h2 : CLim (two (callN P cx n) (callN P cx (n + 1))) (callN P cx (n + 1)) := fun f args h => by
        have := OLim.two (ih f args h)
        refine ⟨fun i r hr => ?_, fun r => ⟨fun hr => ⟨1, hr⟩, fun ⟨i, hr⟩ => ?_⟩⟩
        · cases i with
          | zero => exact ih f args h r hr
          | succ i => exact hr
        · cases i with
          | zero => exact ih f args h r hr
          | succ i => exact hr
      exact (body_lim h2 f fn args h).mono 0 r hr
theorem call_lim : CLim (callN P cx) (call P cx) := by
  intro f args h
  have mono := fun n r => callN_mono (P := P) (cx := cx) n f args h r
  have le : ∀ {n m}, n ≤ m → ∀ {r}, callN P cx n f args h = some r → callN P cx m f args h = some r := by
    intro n m hnm r hr
    induction hnm with
    | refl => exact hr
    | step _ ih => exact mono _ _ ih
  refine ⟨mono, fun r => ⟨fun hr => ?_, fun ⟨n, hn⟩ => ?_⟩⟩
  · unfold call at hr
    split at hr
    · exact ⟨_, hr⟩
    · cases hr
  · unfold call
    have hex : ∃ n r, callN P cx n f args h = some r := ⟨n, r, hn⟩
    rw [dif_pos hex]
    obtain ⟨r', hr'⟩ := hex.choose_spec
    have h1 := le (Nat.le_max_left n hex.choose) hn
    have h2 := le (Nat.le_max_right n hex.choose) hr'
    rw [h1] at h2
    rw [hr', ← h2]
theorem call_unfold {f : FuncId} {fn : Func} (hf : P.funcs[f]? = some fn) (args : List AV) (h : Heap) : call P cx f args h = body cx (call P cx) f fn args h := by
  have main := body_lim (cx := cx) (call_lim (P := P) (cx := cx)) f fn args h
  have l := call_lim (P := P) (cx := cx) f args h
  refine eq_of_some fun r => ⟨fun hr => ?_, fun hr => ?_⟩
  · obtain ⟨n, hn⟩ := (l.sup r).1 hr
    cases n with
    | zero => cases hn
    | succ n =>
      simp only [callN, hf] at hn
      exact (main.sup r).2 ⟨n, hn⟩
  · obtain ⟨n, hn⟩ := (main.sup r).1 hr
    exact (l.sup r).2 ⟨n + 1, by simp only [callN, hf]; exact hn⟩
end
end Go.AS
