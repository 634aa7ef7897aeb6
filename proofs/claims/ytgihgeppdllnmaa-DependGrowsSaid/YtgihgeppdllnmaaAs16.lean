/- AS, part 16: any operation. -/
import Derived.Test.YtgihgeppdllnmaaAsM
namespace Go.AS
open Go.RowKit
set_option linter.all false

def Enter (P : Program) (f : FuncId) : Prop := ∃ fn, P.funcs[f]? = some fn ∧ (fn.name == "runtime.NumGoroutine") = false ∧ fn.body.isNone = false
def PrimOk (P : Program) (p : Prim) (f : FuncId) : Prop := Enter P f ∧ ∀ (β : Type) (xs : List T) (k : AV → Option β) (r : β), primK p xs k = some r → ∃ v, k v = some r ∧ BareR v v ∧
  ∀ w X vs, All2 (TR w X) vs xs → Calls P f vs.toArray w fun e w' => ∃ val, e = .returned val ∧ (∀ X' cv h, AR3 w' X' cv h val v) ∧ w.heap.size ≤ w'.heap.size ∧ (∀ b, b < w.heap.size → w'.heap[b]? = w.heap[b]?) ∧ w'.os = w.os ∧ w'.tape = w.tape ∧ w'.output = w.output
structure EnvOk (P : Program) (cx : Cx) (C : CallF) : Prop where
  ok : CxOk P cx
  call : CallOk P C
  enter : ∀ f args h p, C f args h = some p → Enter P f
  prim : ∀ f p, asc cx.prim f = some p → PrimOk P p f

def OpOk (P : Program) (o : Oper) (a : Act) (base : Nat) (wb w : World) (X : Nat → Prop) (cv : CV) (h : Heap) (v : AV) (h' : Heap) (wr : List Nat) : Prop :=
  ∀ (K : Act → World → Prop) (Q : Exit → Act → World → Prop), (∀ val w' X' cv', HRel base wb w' X' cv' h' → Go1 wr w X cv h w' X' cv' h' → AR3 w' X' cv' h' val v → K (a.put o.dst val) w') → o.wp P a w K Q

section
variable {P : Program} {o : Oper} {a : Act} {base : Nat} {wb w : World} {X : Nat → Prop} {cv : CV} {h : Heap} {v : AV} {h' : Heap} {wr : List Nat}
theorem OpOk.value {val : Value} {w' : World} {X' : Nat → Prop} {cv' : CV} (hr : (execOp a.eval o).run P w = .ok (.value val) w') (H : HRel base wb w' X' cv' h') (G : Go1 wr w X cv h w' X' cv' h') (A : AR3 w' X' cv' h' val v) : OpOk P o a base wb w X cv h v h' wr := by
  intro K Q hK
  unfold Oper.wp
  rw [hr]
  exact hK _ _ _ _ H G A
theorem OpOk.pure {val : Value} (H : HRel base wb w X cv h) (hr : (execOp a.eval o).run P w = .ok (.value val) w) (A : AR3 w X cv h val v) : OpOk P o a base wb w X cv h v h [] := .value hr H (.refl ..) A
theorem OpOk.skip {w' : World} {X' : Nat → Prop} {cv' : CV} (hr : (execOp a.eval o).run P w = .ok .skip w') (H : HRel base wb w' X' cv' h') (G : Go1 wr w X cv h w' X' cv' h') : OpOk P o a base wb w X cv h .undef h' wr := by
  intro K Q hK
  unfold Oper.wp
  rw [hr]
  exact hK _ _ _ _ H G rfl
theorem OpOk.call {f : FuncId} {args : Array Value} (hr : (execOp a.eval o).run P w = .ok (.enter f args) w) (hc : Calls P f args w fun e w' => ∃ val X' cv', e = .returned val ∧ HRel base wb w' X' cv' h' ∧ Go1 wr w X cv h w' X' cv' h' ∧ AR3 w' X' cv' h' val v) : OpOk P o a base wb w X cv h v h' wr := by
  intro K Q hK
  unfold Oper.wp
  rw [hr, Oper.upon_enter]
  refine hc.mono fun e w' hh => ?_
  obtain ⟨val, X', cv', rfl, H, G, A⟩ := hh
  exact hK _ _ _ _ H G A
theorem run_enter {f : FuncId} (he : Enter P f) (args : Array Value) : (callFunc f args).run P w = .ok (.enter f args) w := by
  obtain ⟨fn, h1, h2, h3⟩ := he
  have h2' : fn.name ≠ "runtime.NumGoroutine" := by simpa using h2
  have h3' : fn.body ≠ none := by intro h0; rw [h0] at h3; cases h3
  simp [callFunc, h1, h2', h3']
end

theorem args_ok {w X cv h} {cx : Cx} {s : St} {a : Act} (hs : All2 (AR3 w X cv h) a.tmps.toList s.slots) : ∀ (l : List Operand) (m : List TypeId), l.length = m.length → All2 (AR3 w X cv h) (l.map a.eval) ((l.zip m).map fun p => opdT cx s p.2 p.1)
  | [], [], _ => trivial
  | x :: l, t :: m, h => ⟨opdT_ok hs t x, args_ok hs l m (by simpa using h)⟩
  | [], _ :: _, h => by simp at h
  | _ :: _, [], h => by simp at h
theorem bareArgs_ok {base wb w X cv h} (H : HRel base wb w X cv h) : ∀ {vals : List Value} {l : List AV} {xs : List T} {b : List Nat}, All2 (AR3 w X cv h) vals l → bareArgs h l = some (xs, b) → (∀ k ∈ b, ∃ v s e rows, look h k = some (.row v s e rows)) ∧ ∀ B, (∀ k ∈ b, k ∈ B) → All2 (TR w (X1of X cv B)) vals xs
  | [], [], xs, b, _, hb => by
    simp only [bareArgs] at hb
    injection hb with hb; injection hb with e1 e2
    subst e1 e2
    exact ⟨by simp, fun _ _ => trivial⟩
  | val :: vals, v :: l, xs, b, hv, hb => by
    simp only [bareArgs] at hb
    split at hb
    · rename_i x i1 b1 hc
      split at hb
      · cases hb
      · rename_i xs' b2 hrec
        injection hb with hb; injection hb with e1 e2
        subst e1 e2
        obtain ⟨q1, q2⟩ := bareArgs_ok H hv.2 hrec
        have hv1 : AR1 w X cv h val v := by
          rcases hv.1.parts with hv | ⟨ps, l, rfl, _, _⟩
          · rcases hv.parts with hv | ⟨cells, l, rfl, _, _⟩
            · exact hv
            · cases hc
          · cases hc
        obtain ⟨p1, p2, p3, _, p4⟩ := convL_ok H hv1 hc
        refine ⟨fun k hk => ?_, fun B hB => ⟨?_, q2 B fun k hk => hB k (by simp [hk])⟩⟩
        · rcases List.mem_append.1 hk with hk | hk
          · exact p3 k hk
          · exact q1 k hk
        · have hi1 : i1 = [] := convL_bare hc
          subst hi1
          have T : Tgt w X cv h [] [] B (X1of X cv B) cv [] := ⟨fun b hb => hb.1, fun kk hk b hb hx => hx.2 kk hk hb, by simp, by simp, by simp, by simp⟩
          exact p4 [] B _ cv [] T (List.prefix_refl _) fun k hk => hB k (by simp [hk])
    · cases hb
where
  convL_bare {h : Heap} {v : AV} {x : T} {i1 b1 : List Nat} (hc : convL h [] false [] v = some (.t x, i1, b1)) : i1 = [] := by
    unfold convL at hc
    split at hc
    · injection hc with hc; injection hc with e1 hc; injection hc with e2 e3; exact e2.symm
    · injection hc with hc; injection hc with e1 hc; injection hc with e2 e3; exact e2.symm
    · split at hc
      · obtain ⟨_, hc⟩ := cond_some hc
        injection hc with hc; injection hc with e1 hc; injection hc with e2 e3; exact e2.symm
      · obtain ⟨_, hc⟩ := cond_some hc
        injection hc with hc; injection hc with e1 hc; injection hc with e2 e3; exact e2.symm
      · cases hc
    · split at hc
      · injection hc with hc; injection hc with e1 hc; cases e1
      · rename_i off _ _ _
        cases hb : Nat.beq off 0 <;> rw [hb] at hc <;> (injection hc with hc; injection hc with e1 hc; injection hc with e2 e3; exact e2.symm)
      · cases hc
    · injection hc with hc; injection hc with e1 hc; cases e1
    · split at hc
      · injection hc with hc; injection hc with e1 hc; cases e1
      · cases hc
    · cases hc
theorem prim_ok {P : Program} {p : Prim} {f : FuncId} (hp : PrimOk P p f) {β : Type} {r : β} {base wb w X cv h} (H : HRel base wb w X cv h) {vals : List Value} {l : List AV} {xs : List T} {b : List Nat} (hv : All2 (AR3 w X cv h) vals l) (hb : bareArgs h l = some (xs, b)) {k : AV → Option β} (hk : primK p xs k = some r) :
    ∃ v, k v = some r ∧ Calls P f vals.toArray w fun e w' => ∃ val X' cv', e = .returned val ∧ HRel base wb w' X' cv' h ∧ Go1 [] w X cv h w' X' cv' h ∧ AR3 w' X' cv' h val v := by
  obtain ⟨v, hk, hbare, hc⟩ := hp.2 β xs k r hk
  obtain ⟨q1, q2⟩ := bareArgs_ok H hv hb
  refine ⟨v, hk, (hc w _ vals (q2 b fun _ h => h)).mono fun e w' hh => ?_⟩
  obtain ⟨val, rfl, h1, h2, h3, h4⟩ := hh
  have G : Go1 [] w X cv h w' X cv h := ⟨h2, fun b hb _ => h3 b hb, fun _ _ h => h, fun _ _ h _ => h, fun _ _ h => h, fun k e hk => ⟨e, hk, .refl e, fun _ => rfl, fun _ => rfl⟩, fun _ _ => ⟨rfl, rfl⟩⟩
  refine ⟨val, X, cv, rfl, ?_, G, h1 X cv h⟩
  refine H.step G h4 (fun b hx => ?_) (fun k e b _ hk hm => ?_) (fun k hk => by cases hk) (fun k k' e e' b hk => by cases hk)
  · have := H.xge b hx; omega
  · have hx := H.mx ⟨k, e, hk, hm⟩
    exact ⟨h3 b (H.xge b hx).2, hx⟩

theorem binOp_run {P : Program} {o : Oper} {a : Act} {w : World} {op : BinOp} {t : TypeId} {x y : Operand} {z} {val : Value} (ho : o.op = .binOp op t x y z) (hg : (eqGuard op t x y (a.eval x) (a.eval y)).run P w = .ok () w) (hb : (binOp op t (a.eval x) (a.eval y)).run P w = .ok val w) : (execOp a.eval o).run P w = .ok (.value val) w := by
  simp [execOp, ho, hg, hb]

theorem AR3.leaf {w X cv h v a} (H : AR3 w X cv h v a) (hl : a.leaf = true) : AR0 w X cv h v a := by cases a <;> first | exact H | cases hl
theorem AR3.store {w X cv h v a} (H : AR3 w X cv h v a) (hs : a.storable = true) : AR1 w X cv h v a := by cases a <;> first | exact H | cases hs
theorem caps_store {w X cv h} {s : St} {a : Act} (ev : ∀ x, AR3 w X cv h (a.eval x) (opd s x)) : ∀ (l : List Operand), allStorable (l.map (opd s)) = true → All2 (AR1 w X cv h) (l.map a.eval) (l.map (opd s))
  | [], _ => trivial
  | x :: l, hl => by
    simp only [List.map_cons, allStorable] at hl
    cases h1 : (opd s x).storable with
    | true => rw [h1] at hl; exact ⟨(ev x).store h1, caps_store ev l hl⟩
    | false => rw [h1] at hl; cases hl
theorem caps_ok {w X cv h} {s : St} {a : Act} (ev : ∀ x, AR3 w X cv h (a.eval x) (opd s x)) : ∀ (l : List Operand), allLeaf (l.map (opd s)) = true → All2 (AR0 w X cv h) (l.map a.eval) (l.map (opd s))
  | [], _ => trivial
  | x :: l, hl => by
    simp only [List.map_cons, allLeaf] at hl
    cases h1 : (opd s x).leaf with
    | true => rw [h1] at hl; exact ⟨(ev x).leaf h1, caps_ok ev l hl⟩
    | false => rw [h1] at hl; cases hl

section
variable {P : Program} {cx : Cx} {C : CallF} {β : Type} {r : β}
theorem run_builtin {o : Oper} {a : Act} {w : World} {c : Call} {b : Builtin} (ho : o.op = .call c) (hc : c.callee = .builtin b) : ∃ cs, (execOp a.eval o).run P w = (builtin b c.argTypes o.type cs (c.args.map a.eval)).run P w :=
  ⟨c.args.map fun | .const _ => true | _ => false, by simp only [execOp, ho, resolve, hc, invoke, Sem.run_bind, Sem.run_pure, Result.andThen_ok]; rfl⟩
theorem len_str {w : World} {t ty : TypeId} {s : ByteArray} (ht : P.underlying t = some .string) : (Builtin.len_ #[t] ty #[.string s]).run P w = .ok (.int .i64 s.size) w := by simp [Builtin.len_, run_underlying ht, goInt]
theorem call_ok (E : EnvOk P cx C) {o : Oper} {c : Call} (ho : o.op = .call c) {s : St} {a : Act} {base wb w X cv} (H : HRel base wb w X cv s.heap) (hs : All2 (AR3 w X cv s.heap) a.tmps.toList s.slots) {f : FuncId} {caps : List AV} {fo : Operand} (hc : c.callee = .value fo) (hf : opd s fo = .clo f caps)
    (hl : c.args.toList.length = c.argTypes.toList.length) (he : Enter P f) :
    ∃ vals, All2 (AR3 w X cv s.heap) vals ((c.args.toList.zip c.argTypes.toList).map (fun p => opdT cx s p.2 p.1) ++ caps) ∧ ∀ v h' wr,
      (Calls P f vals.toArray w fun e w' => ∃ val X' cv', e = .returned val ∧ HRel base wb w' X' cv' h' ∧ Go1 wr w X cv s.heap w' X' cv' h' ∧ AR3 w' X' cv' h' val v) → OpOk P o a base wb w X cv s.heap v h' wr := by
  have hfo := opd_ok hs fo
  rw [hf] at hfo
  obtain ⟨l, hv, hcaps⟩ := hfo
  refine ⟨c.args.toList.map a.eval ++ l, (args_ok hs _ _ hl).append (hcaps.imp fun _ _ h => h.to1.to2.to3), fun v h' wr hcall => .call (f := f) ?_ hcall⟩
  have : (c.args.toList.map a.eval ++ l).toArray = c.args.map a.eval ++ l.toArray := by apply Array.ext'; simp
  rw [this]
  simp [execOp, ho, resolve, hc, hv, Deferred.ofValue, invoke, run_enter he]
theorem callK_enter {d : Nat} {ty f : Nat} {args0 : List AV} {h0 : Heap} {k : OpK β} (hk : callK cx C d ty f args0 h0 k = some r) : ∃ args1 h1 p, C f args1 h1 = some p := by
  unfold callK at hk
  split at hk
  · cases hk
  · rename_i args h w0 hn
    split at hk
    · cases hk
    · rename_i args1 i1 b1 ha
      split at hk
      · cases hk
      · rename_i h1 I b2 he
        cases hm : meet (b1 ++ b2) I with
        | true => rw [hm] at hk; cases hk
        | false =>
          rw [hm] at hk
          simp only [cond_false] at hk
          cases hp : C f args1 h1 with
          | none => rw [hp] at hk; cases hk
          | some p => exact ⟨_, _, p, hp⟩
theorem opK_ok (E : EnvOk P cx C) {o : Oper} {s : St} {a : Act} {base wb w X cv} (H : HRel base wb w X cv s.heap) (hs : All2 (AR3 w X cv s.heap) a.tmps.toList s.slots) {k : OpK β} (hk : opK cx C o s k = some r) :
    ∃ v h' rd wr, k v h' rd wr = some r ∧ OpOk P o a base wb w X cv s.heap v h' wr := by
  have hcx := E.ok
  have ev : ∀ x, AR3 w X cv s.heap (a.eval x) (opd s x) := fun x => opd_ok hs x
  have evT : ∀ t x, AR3 w X cv s.heap (a.eval x) (opdT cx s t x) := fun t x => opdT_ok hs t x
  unfold opK at hk
  simp only at hk
  split at hk
  · rename_i x ho
    exact ⟨_, _, _, _, hk, .pure H (val := a.eval x) (by simp [execOp, ho]) (evT _ x)⟩
  · rename_i x ho
    exact ⟨_, _, _, _, hk, .pure H (val := a.eval x) (by simp [execOp, ho]) (evT _ x)⟩
  · rename_i c x y ho
    obtain ⟨t, _, hk, hc⟩ := boolK_ok hk (ev c)
    cases t with
    | true => exact ⟨_, _, _, _, hk, .pure H (val := a.eval x) (by simp [execOp, ho, hc, asBool]) (ev x)⟩
    | false => exact ⟨_, _, _, _, hk, .pure H (val := a.eval y) (by simp [execOp, ho, hc, asBool]) (ev y)⟩
  · rename_i t ho
    obtain ⟨hpos, hk⟩ := cond_some hk
    have hpos := ble_le hpos
    obtain ⟨inf, hi, hsz, hby, hzero⟩ := (hcx.at (t := t) (.inr hpos)).info
    have hlen : ((cx.tyi t).zero.map ZC.av).length = cx.sz t := by
      unfold boxK at hk
      exact beq_eq (cond_some hk).1
    obtain ⟨hzl, z, hz, hzs⟩ := hzero (by intro h0; rw [h0] at hlen; simp at hlen; omega)
    obtain ⟨h1, hk, _, _, X', cv', H', G', A'⟩ := boxK_ok H (All2.map_r _ (hzs.imp fun a b hb => (hb w X cv s.heap).1)) hk
    exact ⟨_, _, _, _, hk, .value (by simp [execOp, ho, Instr.alloc, zeroValue, run_info hi, hz, newVar, newRow]) H' G' A'⟩
  · rename_i t x ho
    have hst : allStorable (opdT cx s t x).cells = true := by
      unfold boxK at hk
      exact (cond_some (cond_some hk).2).1
    obtain ⟨hc, _⟩ := cells_ok (evT t x) hst
    obtain ⟨h1, hk, _, _, X', cv', H', G', A'⟩ := boxK_ok H hc hk
    exact ⟨_, _, _, _, hk, .value (val := .pointer (some ⟨w.heap.size, 0, none⟩)) (w' := w.alloc (.cells (a.eval x).cells t)) (by simp [execOp, ho, Instr.box, newVar, newRow]) (by simpa using H') (by simpa using G') (by simpa using A')⟩
  · rename_i t ps ho
    obtain ⟨hz, hk⟩ := cond_some hk
    have hz := ble_le hz
    have hps : (ps.map fun (i, x) => (i, a.eval x)).toList = ps.toList.map fun p => (p.1, a.eval p.2) := by simp
    split at hk
    · rename_i fs he
      split at hk
      · rename_i cells hf
        obtain ⟨val, g1, g2⟩ := build_ok hcx (ps := ps.map fun (i, x) => (i, a.eval x)) hz (.inl ⟨fs, he, by rw [hps]; exact parts_ok hs _ ps.toList, hf⟩)
        exact ⟨_, _, _, _, hk, .pure H (val := val) (by simp [execOp, ho, g1]) g2⟩
      · cases hk
    · rename_i n e he
      obtain ⟨hpos, hk⟩ := cond_some hk
      split at hk
      · rename_i cells hf
        obtain ⟨val, g1, g2⟩ := build_ok hcx (ps := ps.map fun (i, x) => (i, a.eval x)) hz (.inr ⟨n, e, he, ble_le hpos, by rw [hps]; exact parts_ok hs _ ps.toList, hf⟩)
        exact ⟨_, _, _, _, hk, .pure H (val := val) (by simp [execOp, ho, g1]) g2⟩
      · cases hk
    · cases hk
  · rename_i t len ps ho
    have hps : (ps.map fun (i, x) => (i, a.eval x)).toList = ps.toList.map fun p => (p.1, a.eval p.2) := by simp
    split at hk
    · rename_i e he
      obtain ⟨hz, hk⟩ := cond_some hk
      obtain ⟨hl, hk⟩ := cond_some hk
      split at hk
      · rename_i rows h1 w1 hlit
        obtain ⟨hn, hk⟩ := new_some hk
        obtain ⟨val, w', X', cv', g1, g2, g3, g4⟩ := buildSlice_ok hcx H (ps := ps.map fun (i, x) => (i, a.eval x)) he (ble_le hz) (ble_le hl) (by rw [hps]; exact parts_ok hs _ ps.toList) hlit hn
        exact ⟨_, _, _, _, hk, .value (by simp [execOp, ho, g1]) g2 g3 g4⟩
      · cases hk
    · cases hk
  · rename_i t x ho
    obtain ⟨v, rd, val, hk, g1, g2⟩ := loadK_ok hcx H (ev x) hk
    exact ⟨_, _, _, _, hk, .pure H (val := val) (by simp [execOp, ho, g1]) g2⟩
  · rename_i t x y ho
    obtain ⟨X1, cv1, H1, G1, a1⟩ := cutAt_ok (b := mem cx.cut t) H (evT t y)
    obtain ⟨h', wr, hk, w', X', g1, g2, g3⟩ := storeK_ok hcx H1 (AR3.mono (G1.keep H) G1 (ev x)) a1 hk
    exact ⟨_, _, _, _, hk, .skip (by simp [execOp, ho, g1]) g2 (G1.trans g3)⟩
  · rename_i x ho
    have hx := ev x
    split at hk
    · rename_i kk off he
      rw [he] at hx
      have hx2 := hx
      obtain ⟨_, _, _, _, _, hv⟩ := hx2
      exact ⟨_, _, _, _, hk, .pure H (val := a.eval x) (by simp [execOp, ho, hv]) hx⟩
    · rename_i kk v i off he
      rw [he] at hx
      have hx2 := hx
      obtain ⟨⟨_, hv⟩, _⟩ := hx2
      exact ⟨_, _, _, _, hk, .pure H (val := a.eval x) (by simp [execOp, ho, hv]) hx⟩
    · rename_i es row off he
      rw [he] at hx
      have hx2 := hx
      obtain ⟨_, hv, _⟩ := hx2
      exact ⟨_, _, _, _, hk, .pure H (val := a.eval x) (by simp [execOp, ho, hv]) hx⟩
    · rename_i y he
      rw [he] at hx
      obtain ⟨sz, row, ad, rfl, hk, hv⟩ := ptK_ok (w := w) (X := X) hk hx
      refine ⟨_, _, _, _, hk, .pure H (val := a.eval x) (by simp [execOp, ho, hv]) ⟨ad, by rw [add_zero']; exact hv, ?_⟩⟩
      rw [hv] at hx
      exact hx
    · rename_i f caps he
      rw [he] at hx
      have hx2 := hx
      obtain ⟨_, hv, _⟩ := hx2
      exact ⟨_, _, _, _, hk, .pure H (val := a.eval x) (by simp [execOp, ho, hv]) hx⟩
    · cases hk
  · rename_i op t x y z ho
    obtain ⟨v, hk, val, g1, g2, g3⟩ := binK_ok hcx (ev x) (ev y) hk
    exact ⟨_, _, _, _, hk, .pure H (val := val) (binOp_run ho (g1 x y) g2) g3⟩
  · rename_i op t x ho
    obtain ⟨v, hk, val, g1, g2⟩ := unK_ok (P := P) (ev x) hk
    exact ⟨_, _, _, _, hk, .pure H (val := val) (by simp [execOp, ho, g1]) g2⟩
  · rename_i f first caps ho
    split at hk
    · rename_i hf
      have hf' : first = #[] := by simpa using hf
      cases hm : mem cx.frz f with
      | true =>
        rw [hm, cond_true] at hk
        split at hk
        · rename_i xs h1 w1 hst
          obtain ⟨X1, H1, G1, t1⟩ := strip1s_ok H (caps_store ev caps.toList (strip1s_storable hst)) hst
          exact ⟨_, _, _, _, hk, .value (val := .func (.func f) #[] (caps.map a.eval)) (by simp [execOp, ho, Instr.makeFunc, hf']) H1 G1 ⟨caps.toList.map a.eval, by rw [← Array.toList_map], All2.map_r _ t1⟩⟩
        · cases hk
      | false =>
        rw [hm, cond_false] at hk
        obtain ⟨hl, hk⟩ := cond_some hk
        exact ⟨_, _, _, _, hk, .pure H (val := .func (.func f) #[] (caps.map a.eval)) (by simp [execOp, ho, Instr.makeFunc, hf']) ⟨caps.toList.map a.eval, by rw [← Array.toList_map], caps_ok ev caps.toList hl⟩⟩
    · cases hk
  · rename_i t x y ho
    split at hk
    · rename_i e he
      obtain ⟨j1, n, _, hk, hx⟩ := intK_ok hk (ev x)
      obtain ⟨j2, m, _, hk, hy⟩ := intK_ok hk (ev y)
      obtain ⟨_, hk⟩ := cond_some hk
      obtain ⟨_, hk⟩ := cond_some hk
      obtain ⟨hz, hk⟩ := cond_some hk
      obtain ⟨hb, hk⟩ := cond_some hk
      obtain ⟨⟨h0, h1, h2⟩, hk⟩ := cond_dec hk
      obtain ⟨hn, hk⟩ := new_some hk
      obtain ⟨val, w', X', cv', g1, g2, g3, g4⟩ := makeSlice_ok hcx H (j1 := j1) (j2 := j2) he (ble_le hz) (ble_le hb) h0 h1 h2 hn
      exact ⟨_, _, _, _, hk, .value (by simp [execOp, ho, hx, hy, g1]) g2 g3 g4⟩
    · cases hk
  · rename_i t x lo hi ho
    obtain ⟨v, h', rd, wr, val, X', hk, g1, g2, g3, g4⟩ := sliceK_ok hcx H (ev x) (lov := lo.map a.eval) (hiv := hi.map a.eval) (by cases lo <;> first | trivial | exact ev _) (by cases hi <;> first | trivial | exact ev _) hk
    exact ⟨_, _, _, _, hk, .value (by simp [execOp, ho, g1]) g2 g3 g4⟩
  · rename_i t x f ho
    split at hk
    · rename_i fs he
      obtain ⟨hp, hk⟩ := cond_some hk
      obtain ⟨v, hk, val, g1, g2⟩ := fieldAddr_ok hcx (ev x) he (ble_le hp) hk
      exact ⟨_, _, _, _, hk, .pure H (val := val) (by simp [execOp, ho, g1]) g2⟩
    · cases hk
  · rename_i t x f ho
    split at hk
    · rename_i fs he
      cases hx : opd s x with
      | agg l =>
        rw [hx] at hk
        obtain ⟨hp, hk⟩ := cond_some hk
        obtain ⟨hl, hk⟩ := cond_some hk
        obtain ⟨hle, hk⟩ := cond_some hk
        obtain ⟨val, g1, g2⟩ := field_ok hcx (ev x) he hx (ble_le hp) hl (ble_le hle)
        exact ⟨_, _, _, _, hk, .pure H (val := val) (by simp [execOp, ho, g1]) g2⟩
      | _ => rw [hx] at hk; cases hk
    · cases hk
  · rename_i t x i ho
    obtain ⟨v, rd, val, hk, g1, g2⟩ := indexK_ok hcx H (ev x) (ev i) hk
    exact ⟨_, _, _, _, hk, .pure H (val := val) (by simp [execOp, ho, g1]) g2⟩
  · rename_i t x i ho
    have hkind := hcx.kind t
    split at hk
    · rename_i he
      rw [he] at hkind
      have hkind : P.underlying t = some .string := hkind
      obtain ⟨b, _, hk, hx⟩ := strK_ok hk (ev x)
      obtain ⟨j, n, _, hk, hi⟩ := intK_ok hk (ev i)
      obtain ⟨⟨h0, h1⟩, hk⟩ := cond_dec hk
      have h2 : n.toNat < b.size := by
        have : b.data.toList.length = b.size := by rw [Array.length_toList]; rfl
        omega
      have h3 : b[n.toNat]? = some (nth 0 b.data.toList n.toNat) := by
        rw [ByteArray.getElem?_lt' b _ h2, nth_get, List.getElem?_eq_getElem (by rw [Array.length_toList]; exact h2)]
        rfl
      exact ⟨_, _, _, _, hk, .pure H (val := .int .u8 (nth 0 b.data.toList n.toNat).toNat) (by simp [execOp, ho, Instr.index, hx, hi, asIntOf, run_underlying hkind, h0, h3]) (.int _ _)⟩
    · cases hk
  · rename_i t1 t2 x ho
    have hkind1 := hcx.kind t1
    have hkind2 := hcx.kind t2
    split at hk
    · rename_i j1 j2 he1 he2
      rw [he1] at hkind1
      rw [he2] at hkind2
      have hkind1 : P.underlying t1 = some (.int j1) := hkind1
      have hkind2 : P.underlying t2 = some (.int j2) := hkind2
      obtain ⟨j, n, _, hk, hx⟩ := intK_ok hk (ev x)
      exact ⟨_, _, _, _, hk, .pure H (val := .int j2 (j2.wrap n)) (by simp [execOp, ho, convert, hx, run_underlying hkind1, run_underlying hkind2, Conv.intToInt]) (.int _ _)⟩
    · rename_i he1 he2
      rw [he1] at hkind1
      rw [he2] at hkind2
      have hkind1 : P.underlying t1 = some .string := hkind1
      have hkind2 : P.underlying t2 = some .string := hkind2
      obtain ⟨b, _, hk, hx⟩ := strK_ok hk (ev x)
      exact ⟨_, _, _, _, hk, .pure H (val := .string b) (by simp [execOp, ho, convert, hx, run_underlying hkind1, run_underlying hkind2]) (.str _)⟩
    · rename_i e he1 he2
      split at hk
      · rename_i he3
        obtain ⟨rows, rd, hk, hflat⟩ := rowsK_ok H (Nat.le_refl 1) (evT t1 x) hk
        split at hk
        · rename_i l hl
          obtain ⟨b, g1, g2⟩ := toText_ok hcx he1 he2 he3 hflat hl
          refine ⟨_, _, _, _, hk, .pure H (val := .string b) (by simp [execOp, ho, g1]) ?_⟩
          rw [← g2]
          exact .str _
        · cases hk
      · cases hk
    · cases hk
  · rename_i t ho
    split at hk
    · rename_i kt et he
      obtain ⟨hn, hk⟩ := new_some hk
      obtain ⟨X', cv', g2, g3, g4⟩ := makeMap_ok H hn
      exact ⟨_, _, _, _, hk, .value (val := .map (some w.heap.size)) (w' := w.alloc (.map #[] 0)) (by simp [execOp, ho, run_makeMap_bare]) g2 g3 g4⟩
    · cases hk
  · rename_i t x i ho
    split at hk
    · rename_i kt et he
      obtain ⟨kk, l, b, es, clock, hk, hl, hcv, hxv, hb, hX, hes⟩ := mapK_ok H (ev x) hk
      obtain ⟨s', _, hk, hi⟩ := strK_ok hk (ev i)
      have hrun := lookup_ok hcx he hb hes s'
      exact ⟨_, _, _, _, hk, .pure H (val := .bool (memS l s'.data.toList)) (by simp [execOp, ho, hxv, hi, hrun]) (.bool _)⟩
    · cases hk
  · rename_i t x i y ho
    split at hk
    · rename_i kt et he
      obtain ⟨kk, l, b, es, clock, hk, hl, hcv, hxv, hb, hX, hes⟩ := mapK_ok H (ev x) hk
      obtain ⟨s', _, hk, hi⟩ := strK_ok hk (ev i)
      obtain ⟨q, _, hk, hy⟩ := boolK_ok hk (ev y)
      obtain ⟨hq, hk⟩ := cond_some hk
      subst hq
      obtain ⟨es', clock', hrun, hes'⟩ := update_ok hcx he hb hes s'
      obtain ⟨X', cv', g2, g3⟩ := putMap_ok (clock' := clock') H hl hcv hb hX hes'
      exact ⟨_, _, _, _, hk, .skip (by simp [execOp, ho, hxv, hi, hy, hrun]) g2 g3⟩
    · cases hk
  · rename_i x i ho
    split at hk
    · rename_i l he
      obtain ⟨hi, hk⟩ := cond_some hk
      have hi : i < l.length := by simpa [Nat.blt_eq] using hi
      have hx := ev x
      rw [he] at hx
      obtain ⟨ps, hv, hp⟩ := hx
      have hl := hp.length
      have hip : i < ps.length := by omega
      refine ⟨_, _, _, _, hk, .pure H (val := ps[i]) (by simp [execOp, ho, hv, Instr.extract, hip]) (All2.get i _ _ hp (List.getElem?_eq_getElem hip) (nth_of _ hi)).to3⟩
    · cases hk
  · rename_i c ho
    split at hk
    · -- len
      rename_i hc
      split at hk
      · rename_i x t hargs htys
        have hargs' : c.args = #[x] := by apply Array.ext'; rw [hargs]
        have htys' : c.argTypes = #[t] := by apply Array.ext'; rw [htys]
        have hkind := hcx.kind t
        split at hk
        · rename_i he
          rw [he] at hkind
          have hkind : P.underlying t = some .string := hkind
          obtain ⟨b, _, hk, hx⟩ := strK_ok hk (ev x)
          have hb : b.data.toList.length = b.size := by rw [Array.length_toList]; rfl
          rw [hb] at hk
          exact ⟨_, _, _, _, hk, .pure H (val := .int .i64 b.size) (by obtain ⟨cs, hr⟩ := run_builtin (P := P) (a := a) (w := w) ho hc; rw [hr]; simp [builtin, hargs', htys', hx, len_str hkind]) (.int _ _)⟩
        · rename_i e he
          rw [he] at hkind
          have hkind : P.underlying t = some (.slice e) := hkind
          obtain ⟨n, rd, hk, hrun⟩ := lenK_ok (ty := o.type) H hkind (evT t x) hk
          exact ⟨_, _, _, _, hk, .pure H (val := .int .i64 n) (by obtain ⟨cs, hr⟩ := run_builtin (P := P) (a := a) (w := w) ho hc; rw [hr]; simp [builtin, hargs', htys', hrun]) (.int _ _)⟩
        · rename_i kt et he
          rw [he] at hkind
          obtain ⟨hu, _, _⟩ := hkind
          obtain ⟨kk, l, b, es, clock, hk, hl, hcv, hxv, hb, hX, hes⟩ := mapK_ok H (ev x) hk
          have hlen : l.length = es.size := by rw [← hes.length, Array.length_toList]
          have hrun : (Builtin.len_ #[t] o.type #[.map (some b)]).run P w = .ok (.int .i64 l.length) w := by
            simp [Builtin.len_, run_underlying hu, Go.MapKept.run_getObj_map (P := P) hb, goInt, hlen]
          exact ⟨_, _, _, _, hk, .pure H (val := .int .i64 l.length) (by obtain ⟨cs, hr⟩ := run_builtin (P := P) (a := a) (w := w) ho hc; rw [hr]; simp [builtin, hargs', htys', hxv, hrun]) (.int _ _)⟩
        · cases hk
      · cases hk
    · -- append
      rename_i hc
      split at hk
      · rename_i x y t t' hargs htys
        have hargs' : c.args = #[x, y] := by apply Array.ext'; rw [hargs]
        obtain ⟨ht, hk⟩ := cond_some hk
        have ht := beq_eq ht
        have htys' : c.argTypes = #[t, t] := by apply Array.ext'; rw [htys, ht]
        obtain ⟨v, h', rd, wr, hk, val, w', X', cv', g1, g2, g3, g4⟩ := appendK_ok (ty := o.type) hcx H (evT t x) (evT t y) hk
        exact ⟨_, _, _, _, hk, .value (by obtain ⟨cs, hr⟩ := run_builtin (P := P) (a := a) (w := w) ho hc; rw [hr]; simp [builtin, hargs', htys', g1]) g2 g3 g4⟩
      · cases hk
    · rename_i hc
      split at hk
      · rename_i x y hargs
        have hargs' : c.args = #[x, y] := by apply Array.ext'; rw [hargs]
        obtain ⟨j, m, _, hk, hx⟩ := intK_ok hk (ev x)
        obtain ⟨j2, n, _, hk, hy⟩ := intK_ok hk (ev y)
        obtain ⟨h1, hk⟩ := cond_some hk
        exact ⟨_, _, _, _, hk, .pure H (val := .int j (cond (decide (m < n)) n m)) (by obtain ⟨cs, hr⟩ := run_builtin (P := P) (a := a) (w := w) ho hc; rw [hr]; by_cases hlt : m < n <;> simp [builtin, hargs', hx, hy, Builtin.max_, Builtin.max2, hlt]) (.int _ _)⟩
      · cases hk
    · rename_i hc
      split at hk
      · rename_i x y hargs
        have hargs' : c.args = #[x, y] := by apply Array.ext'; rw [hargs]
        obtain ⟨j, m, _, hk, hx⟩ := intK_ok hk (ev x)
        obtain ⟨j2, n, _, hk, hy⟩ := intK_ok hk (ev y)
        obtain ⟨h1, hk⟩ := cond_some hk
        exact ⟨_, _, _, _, hk, .pure H (val := .int j (cond (decide (n < m)) n m)) (by obtain ⟨cs, hr⟩ := run_builtin (P := P) (a := a) (w := w) ho hc; rw [hr]; by_cases hlt : n < m <;> simp [builtin, hargs', hx, hy, Builtin.min_, Builtin.min2, hlt]) (.int _ _)⟩
      · cases hk
    · rename_i fo hc
      split at hk
      · rename_i f caps hf
        obtain ⟨hl, hk⟩ := cond_some hk
        have hl := beq_eq hl
        cases hp : asc cx.prim f with
        | some p =>
          rw [hp] at hk
          simp only at hk
          cases caps with
          | cons _ _ => cases hk
          | nil =>
            cases hb : bareArgs s.heap ((c.args.toList.zip c.argTypes.toList).map (fun p => opdT cx s p.2 p.1)) with
            | none => rw [hb] at hk; cases hk
            | some q =>
              obtain ⟨xs, b⟩ := q
              rw [hb] at hk
              simp only at hk
              have hP := E.prim f p hp
              obtain ⟨vals, hv, hfin⟩ := call_ok E ho H hs hc hf hl hP.1
              rw [List.append_nil] at hv
              obtain ⟨v, hk, hcall⟩ := prim_ok hP H hv hb hk
              exact ⟨_, _, _, _, hk, hfin _ _ _ hcall⟩
        | none =>
          rw [hp] at hk
          simp only at hk
          obtain ⟨args1, h1, p, hcp⟩ := callK_enter hk
          obtain ⟨vals, hv, hfin⟩ := call_ok E ho H hs hc hf hl (E.enter f args1 h1 p hcp)
          obtain ⟨X1, cv1, wr1, H1, G1, sub⟩ := tokIf_ok (cx := cx) (f := f) H
          obtain ⟨v, h', rd, wr, hk, hcall⟩ := callK_ok E.call H1 (hv.imp fun _ _ => AR3.mono (G1.keep H) G1) hk
          refine ⟨_, _, _, _, hk, hfin _ _ _ (hcall.mono fun e w' hh => ?_)⟩
          obtain ⟨val, X', cv', q1, q2, q3, q4⟩ := hh
          exact ⟨val, X', cv', q1, q2, (G1.trans q3).more (sub wr), q4⟩
      · cases hk
    · cases hk
  · cases hk
end
end Go.AS
