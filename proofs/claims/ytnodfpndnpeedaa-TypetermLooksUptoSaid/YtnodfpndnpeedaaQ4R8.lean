/- The law TypetermLooks answers true at every input. Condition: what came in is of bulk 1048576 at the most. -/
import Derived.Test.YtnodfpndnpeedaaRows
import Derived.Test.YtnodfpndnpeedaaQ4Q
import Derived.Test.YtnodfpndnpeedaaQ4I
import Derived.Test.YtnodfpndnpeedaaAs25
import Derived.WalkKit
import Derived.ProofKit
import Derived.OpenShut
import Derived.ShutString
import Derived.ChangeOld
import Derived.Below
import Derived.SizedLaws
import Derived.JoinedCond
import Derived.Deep.CondSized
namespace Go.Proofs.Ytnodfpndnpeedaa.typetermLooks
open Go.ChangeShapes Go.WideShapes Go.ChangeAt Go.RowKit
open Go.ChangeMaps (open_string shut_string)
set_option linter.all false
theorem own : ownKnob Try.prog.godebug = none := by kernel_rfl
theorem sum_bulk {H : Type} : ∀ l : List (DataW H), (l.map Rows.uptoBulk).sum = Rows.uptoBulkAll l
  | [] => by simp [Rows.uptoBulkAll]
  | d :: l => by simp only [List.map_cons, List.sum_cons, Rows.uptoBulkAll, sum_bulk l]
theorem meas {H : Type} : AS.Q4.Meas (Rows.uptoBulk (H := H)) := by
  refine ⟨fun b => ?_, fun a b => ?_, fun e s => ?_⟩
  · simp only [Rows.uptoBulk]; exact Nat.le_refl _
  · simp only [Rows.uptoBulk, Rows.uptoBulkAll]; omega
  · rw [sum_bulk]; simp only [Rows.uptoBulk]; omega
theorem laidOut : laidOutB Try.prog = true := by kernel_rfl
set_option maxRecDepth 100000 in
set_option maxHeartbeats 4000000 in
theorem lifted (os : Os) (started : os.Started) (H : Type) (enc : TypeId × Value → H) (F : Stop.Interp) :
    ReturnsInHanded {} Try.checked os 8 .any ((Rows.OpenSpec.upto Rows.typetermLooksSpec).pre6 enc Try.prog Try.f8 Rows.typetermLooksUptoRow.domain false) (((Rows.OpenSpec.upto Rows.typetermLooksSpec).at F).post enc Try.prog Try.f8 false true false false) := by
  refine returnsInHanded_of_cond_sized (C := Try.checked) (s := Rows.OpenSpec.upto Rows.typetermLooksSpec) (k := Rows.uptoSmall) rfl own started (by kernel_rfl) Try.func8
    (OpenSpec.witness (enc := enc) (C := Try.checked) (s := Rows.OpenSpec.upto Rows.typetermLooksSpec) (k := Rows.uptoSmall) rfl false ⟨#[], #[.agg #[.string ByteArray.empty, .slice none 0 0], .agg #[.string ByteArray.empty, .slice none 0 0], .string ByteArray.empty, .slice none 0 0], []⟩ 8 (by kernel_rfl) (by kernel_rfl) (by kernel_rfl) (x := ([.agg [.lit (.string []), .nil], .agg [.lit (.string []), .nil], .lit (.string []), .nil], [], [])) (by kernel_rfl) rfl (by kernel_rfl)) ?_
  intro W base args ds gs before hval0 hW hcnd hk hsz0 _
  have hval : ∀ (j : Nat) t v, Try.f8.params[j]? = some t → args[j]? = some v → Value.okWide Try.prog W .any base t v := hval0
  have hW' := hW
  obtain ⟨p, q, hA0, hV, rfl, hfz, hnd⟩ := hW
  have hA : DataW.TrodAll enc Try.prog W 0 (fun _ => true) true Try.f8.params.toList args.toList ds p := hA0
  rw [Try.params8] at hA hval
  obtain ⟨v0, vs0, d0, ds0, p0, q0, hargs, rfl, rfl, h0, r0⟩ := trodAll_cons hA
  obtain ⟨v1, vs1, d1, ds1, p1, q1, rfl, rfl, rfl, h1, r1⟩ := trodAll_cons r0
  obtain ⟨v2, vs2, d2, ds2, p2, q2, rfl, rfl, rfl, h2, r2⟩ := trodAll_cons r1
  obtain ⟨v3, vs3, d3, ds3, p3, q3, rfl, rfl, rfl, h3, r3⟩ := trodAll_cons r2
  obtain ⟨rfl, rfl, rfl⟩ := trodAll_nil r3
  obtain rfl : args = #[v0, v1, v2, v3] := by cases args; simp_all
  obtain ⟨rfl, rfl⟩ := trodVars_none hV
  have row : ∀ v d p, (∃ fuel, DataW.trod enc Try.prog W 0 (fun _ => true) true fuel 22 (Value.cells v).toList = some (d, p)) → Value.okWide Try.prog W .any base 22 v → ∃ a len cap zs, v = .slice a len cap ∧ AS.IsInts .i64 W a len cap zs := by
    intro v d p h hv
    obtain ⟨a, len, cap, rfl⟩ := okWide_slice Try.underlying22 hv
    obtain ⟨fuel, hf⟩ := h
    refine ⟨a, len, cap, ?_⟩
    rcases open_ints Try.underlying22 Try.underlying3 (by kernel_rfl) hf with ⟨hcs, _⟩ | ⟨x, l, c, zs, hcs, _, hl, hm, hz, _, hcell, hwz⟩
    · simp [Value.cells] at hcs
      obtain ⟨rfl, rfl, rfl⟩ := hcs
      exact ⟨[], rfl, .inl ⟨rfl, rfl, rfl, rfl⟩⟩
    · simp [Value.cells] at hcs
      obtain ⟨rfl, rfl, rfl⟩ := hcs
      exact ⟨zs, rfl, .inr ⟨_, rfl, hl, hm, by simpa using hz, hcell⟩⟩
  obtain ⟨c0, rfl, hc0⟩ := okWide_struct Try.underlying27 (hval 0 27 v0 rfl rfl)
  have k0 := h0
  obtain ⟨n0, hn0⟩ := h0
  obtain ⟨t0, w0, nm0, wt0⟩ := AS.Q4.open_ty meas n0 _ _ hn0
  have lt0 : ∀ x ∈ p0, x.block < W.heap.size := by obtain ⟨m, hm⟩ := k0; exact DataW.trod_lt m _ _ _ hm
  obtain ⟨c1, rfl, hc1⟩ := okWide_struct Try.underlying27 (hval 1 27 v1 rfl rfl)
  have k1 := h1
  obtain ⟨n1, hn1⟩ := h1
  obtain ⟨t1, w1, nm1, wt1⟩ := AS.Q4.open_ty meas n1 _ _ hn1
  have lt1 : ∀ x ∈ p1, x.block < W.heap.size := by obtain ⟨m, hm⟩ := k1; exact DataW.trod_lt m _ _ _ hm
  obtain ⟨a2, rfl, rfl, rfl, y2⟩ := open_string Try.underlying9 (hval 2 9 v2 rfl rfl) h2
  obtain ⟨a3, len3, cap3, z3, rfl, w3⟩ := row v3 d3 p3 h3 (hval 3 22 v3 rfl rfl)
  have k3 := h3
  have lt3 : ∀ x ∈ p3, x.block < W.heap.size := by obtain ⟨m, hm⟩ := k3; exact DataW.trod_lt m _ _ _ hm
  have hb0 : Rows.uptoBulk d0 ≤ 1048576 := by have hk' := of_decide_eq_true hk; simp only [List.cons_append, List.nil_append, Rows.uptoBulkAll] at hk'; omega
  have hb1 : Rows.uptoBulk d1 ≤ 1048576 := by have hk' := of_decide_eq_true hk; simp only [List.cons_append, List.nil_append, Rows.uptoBulkAll] at hk'; omega
  have main := AS.call_bool AS.Q4.progOk (AS.Q4.R8 t0 t1 nm0 (by have := AS.Q4.text_wt t0; simp only at wt0; omega) a2.data.toList (AS.Q4.str_len y2) (z3.take len3)) (w := W) (vs := [.agg c0, .agg c1, .string a2, .slice a3 len3 cap3]) (fun cv => ⟨AS.Q4.ar_ty w0, AS.Q4.ar_ty w1, AS.TR.str _, AS.tr_ints w3, trivial⟩)
  refine main.mono fun e W' ⟨he, bel⟩ => ?_
  subst he
  exact ⟨_, rfl, _, _, _, [], _, [], hW', trodAll_mk1 (shut_bool Try.underlying4 _), (trodAll_cons_mk (Below.trod laidOut (by kernel_rfl) (of_decide_eq_true (by kernel_rfl)) k0 bel lt0) (trodAll_cons_mk (Below.trod laidOut (by kernel_rfl) (of_decide_eq_true (by kernel_rfl)) k1 bel lt1) (trodAll_cons_mk (shut_string Try.underlying9 y2) (trodAll_cons_mk (Below.trod laidOut (by kernel_rfl) (of_decide_eq_true (by kernel_rfl)) k3 bel lt3) trodAll_mk0)))), rfl, bel.frame _, fun h => by cases h⟩
theorem over : Rows.typetermLooksUptoRow.holds Try.pinned (Rows.OpenSpec.upto Rows.typetermLooksSpec) :=
  OpenClaim.holds_of_cond 8 Try.f8 rfl rfl rfl rfl rfl rfl rfl ⟨rfl, rfl, rfl, rfl, rfl⟩ rfl rfl rfl rfl rfl (by kernel_rfl) Try.func8 (by kernel_rfl)
    (of_decide_eq_true (by kernel_rfl)) (by unfold Func.isWrapper; first | (rw [if_pos (by decide +kernel)]; kernel_rfl) | (rw [if_neg (by decide +kernel)]; exact ⟨rfl, rfl⟩))
    (fun os started H enc _ F => lifted os started H enc F)
theorem proved : Rows.TypetermLooksUptoSaid := over
end Go.Proofs.Ytnodfpndnpeedaa.typetermLooks
namespace Go.Proofs.Ytnodfpndnpeedaa
/-- The row, under a short name, for the claim. -/
theorem typetermLooksUpto_holds : Rows.TypetermLooksUptoSaid := typetermLooks.proved
end Go.Proofs.Ytnodfpndnpeedaa
#print axioms Go.Proofs.Ytnodfpndnpeedaa.typetermLooksUpto_holds
