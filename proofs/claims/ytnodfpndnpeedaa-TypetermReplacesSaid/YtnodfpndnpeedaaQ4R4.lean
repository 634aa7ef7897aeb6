/- The law TypetermReplaces answers true at every input. No condition. -/
import Derived.Test.YtnodfpndnpeedaaRows
import Derived.Test.YtnodfpndnpeedaaQ4Y
import Derived.Test.YtnodfpndnpeedaaQ4I
import Derived.Test.YtnodfpndnpeedaaAs25
import Derived.WalkKit
import Derived.ProofKit
import Derived.OpenShut
import Derived.ShutString
import Derived.ChangeOld
import Derived.Below
import Derived.SizedLaws
namespace Go.Proofs.Ytnodfpndnpeedaa.typetermReplaces
open Go.ChangeShapes Go.WideShapes Go.ChangeAt Go.RowKit
open Go.ChangeMaps (open_string shut_string)
set_option linter.all false
theorem own : ownKnob Try.prog.godebug = none := by kernel_rfl
theorem sum_bulk {H : Type} : ∀ l : List (DataW H), (l.map Rows.uptoBulk).sum = Rows.uptoBulkAll l
  | [] => by simp [Rows.uptoBulkAll]
  | d :: l => by simp only [List.map_cons, List.sum_cons, Rows.uptoBulkAll, sum_bulk l]
theorem meas {H : Type} : AS.Q4.Meas (Rows.uptoBulk (H := H)) := by
  refine ⟨fun b => ?_, fun a b => ?_, fun e s => ?_⟩
  · simp only [Rows.uptoBulk]; exact Nat.le_refl _
  · simp only [Rows.uptoBulk, Rows.uptoBulkAll]; omega
  · rw [sum_bulk]; simp only [Rows.uptoBulk]; omega
theorem laidOut : laidOutB Try.prog = true := by kernel_rfl
set_option maxRecDepth 100000 in
set_option maxHeartbeats 4000000 in
theorem lifted (os : Os) (started : os.Started) (H : Type) (enc : TypeId × Value → H) :
    ReturnsInHanded {} Try.checked os 4 .any (Rows.typetermReplacesSpec.pre6 enc Try.prog Try.f4 Rows.typetermReplacesRow.domain false) (Rows.typetermReplacesSpec.post enc Try.prog Try.f4 false true false false) := by
  refine returnsInHanded_of_change_sized (C := Try.checked) own started (by kernel_rfl) Try.func4
    (ChangeSpec.witness6 (enc := enc) (C := Try.checked) false ⟨#[], #[.agg #[.string ByteArray.empty, .slice none 0 0], .agg #[.string ByteArray.empty, .slice none 0 0], .slice none 0 0, .slice none 0 0, .slice none 0 0], []⟩ 8 (by kernel_rfl) (by kernel_rfl) (by kernel_rfl) (by kernel_rfl)) ?_
  intro W base args ds gs before hval0 hW hcnd hsz0 _
  have hval : ∀ (j : Nat) t v, Try.f4.params[j]? = some t → args[j]? = some v → Value.okWide Try.prog W .any base t v := hval0
  have hW' := hW
  obtain ⟨p, q, hA0, hV, rfl, hfz, hnd⟩ := hW
  have hA : DataW.TrodAll enc Try.prog W 0 (fun _ => true) true Try.f4.params.toList args.toList ds p := hA0
  rw [Try.params4] at hA hval
  obtain ⟨v0, vs0, d0, ds0, p0, q0, hargs, rfl, rfl, h0, r0⟩ := trodAll_cons hA
  obtain ⟨v1, vs1, d1, ds1, p1, q1, rfl, rfl, rfl, h1, r1⟩ := trodAll_cons r0
  obtain ⟨v2, vs2, d2, ds2, p2, q2, rfl, rfl, rfl, h2, r2⟩ := trodAll_cons r1
  obtain ⟨v3, vs3, d3, ds3, p3, q3, rfl, rfl, rfl, h3, r3⟩ := trodAll_cons r2
  obtain ⟨v4, vs4, d4, ds4, p4, q4, rfl, rfl, rfl, h4, r4⟩ := trodAll_cons r3
  obtain ⟨rfl, rfl, rfl⟩ := trodAll_nil r4
  obtain rfl : args = #[v0, v1, v2, v3, v4] := by cases args; simp_all
  obtain ⟨rfl, rfl⟩ := trodVars_none hV
  have row : ∀ v d p, (∃ fuel, DataW.trod enc Try.prog W 0 (fun _ => true) true fuel 22 (Value.cells v).toList = some (d, p)) → Value.okWide Try.prog W .any base 22 v → ∃ a len cap zs, v = .slice a len cap ∧ AS.IsInts .i64 W a len cap zs := by
    intro v d p h hv
    obtain ⟨a, len, cap, rfl⟩ := okWide_slice Try.underlying22 hv
    obtain ⟨fuel, hf⟩ := h
    refine ⟨a, len, cap, ?_⟩
    rcases open_ints Try.underlying22 Try.underlying3 (by kernel_rfl) hf with ⟨hcs, _⟩ | ⟨x, l, c, zs, hcs, _, hl, hm, hz, _, hcell, hwz⟩
    · simp [Value.cells] at hcs
      obtain ⟨rfl, rfl, rfl⟩ := hcs
      exact ⟨[], rfl, .inl ⟨rfl, rfl, rfl, rfl⟩⟩
    · simp [Value.cells] at hcs
      obtain ⟨rfl, rfl, rfl⟩ := hcs
      exact ⟨zs, rfl, .inr ⟨_, rfl, hl, hm, by simpa using hz, hcell⟩⟩
  obtain ⟨c0, rfl, hc0⟩ := okWide_struct Try.underlying27 (hval 0 27 v0 rfl rfl)
  have k0 := h0
  obtain ⟨n0, hn0⟩ := h0
  obtain ⟨t0, w0, nm0, wt0⟩ := AS.Q4.open_ty meas n0 _ _ hn0
  have lt0 : ∀ x ∈ p0, x.block < W.heap.size := by obtain ⟨m, hm⟩ := k0; exact DataW.trod_lt m _ _ _ hm
  obtain ⟨c1, rfl, hc1⟩ := okWide_struct Try.underlying27 (hval 1 27 v1 rfl rfl)
  have k1 := h1
  obtain ⟨n1, hn1⟩ := h1
  obtain ⟨t1, w1, nm1, wt1⟩ := AS.Q4.open_ty meas n1 _ _ hn1
  have lt1 : ∀ x ∈ p1, x.block < W.heap.size := by obtain ⟨m, hm⟩ := k1; exact DataW.trod_lt m _ _ _ hm
  have k2 := h2
  obtain ⟨n2, hn2⟩ := h2
  obtain ⟨c2, t2, e2, w2⟩ := AS.Q4.open_strs hn2
  have e2' := AS.Q4.one_cell (okWide_slice Try.underlying35 (hval 2 35 v2 rfl rfl)) e2
  subst e2'
  have lt2 : ∀ x ∈ p2, x.block < W.heap.size := by obtain ⟨m, hm⟩ := k2; exact DataW.trod_lt m _ _ _ hm
  have k3 := h3
  obtain ⟨n3, hn3⟩ := h3
  obtain ⟨c3, t3, e3, w3, nm3, wt3⟩ := AS.Q4.open_tys meas (fun k _ => AS.Q4.open_ty meas k) hn3
  have e3' := AS.Q4.one_cell (okWide_slice Try.underlying25 (hval 3 25 v3 rfl rfl)) e3
  subst e3'
  have lt3 : ∀ x ∈ p3, x.block < W.heap.size := by obtain ⟨m, hm⟩ := k3; exact DataW.trod_lt m _ _ _ hm
  obtain ⟨a4, len4, cap4, z4, rfl, w4⟩ := row v4 d4 p4 h4 (hval 4 22 v4 rfl rfl)
  have k4 := h4
  have lt4 : ∀ x ∈ p4, x.block < W.heap.size := by obtain ⟨m, hm⟩ := k4; exact DataW.trod_lt m _ _ _ hm
  have main := AS.call_bool AS.Q4.progOk (AS.Q4.R4 t0 t1 nm0 t2 t3 (z4.take len4)) (w := W) (vs := [.agg c0, .agg c1, v2, v3, .slice a4 len4 cap4]) (fun cv => ⟨AS.Q4.ar_ty w0, AS.Q4.ar_ty w1, w2, w3, AS.tr_ints w4, trivial⟩)
  refine main.mono fun e W' ⟨he, bel⟩ => ?_
  subst he
  exact ⟨_, rfl, _, _, _, [], _, [], hW', trodAll_mk1 (shut_bool Try.underlying4 _), (trodAll_cons_mk (Below.trod laidOut (by kernel_rfl) (of_decide_eq_true (by kernel_rfl)) k0 bel lt0) (trodAll_cons_mk (Below.trod laidOut (by kernel_rfl) (of_decide_eq_true (by kernel_rfl)) k1 bel lt1) (trodAll_cons_mk (Below.trod laidOut (by kernel_rfl) (of_decide_eq_true (by kernel_rfl)) k2 bel lt2) (trodAll_cons_mk (Below.trod laidOut (by kernel_rfl) (of_decide_eq_true (by kernel_rfl)) k3 bel lt3) (trodAll_cons_mk (Below.trod laidOut (by kernel_rfl) (of_decide_eq_true (by kernel_rfl)) k4 bel lt4) trodAll_mk0))))), rfl, bel.frame _, fun h => by cases h⟩
theorem over : Rows.typetermReplacesRow.holds Try.pinned (OpenSpec.ofChange Rows.typetermReplacesSpec) :=
  OpenClaim.holds_of_wide 4 Try.f4 rfl rfl rfl rfl rfl rfl rfl ⟨rfl, rfl, rfl, rfl, rfl⟩ rfl rfl rfl rfl rfl (by kernel_rfl) Try.func4 (by kernel_rfl)
    (of_decide_eq_true (by kernel_rfl)) (by unfold Func.isWrapper; first | (rw [if_pos (by decide +kernel)]; kernel_rfl) | (rw [if_neg (by decide +kernel)]; exact ⟨rfl, rfl⟩))
    (fun os started H enc _ => lifted os started H enc)
theorem proved : Rows.TypetermReplacesSaid := over
end Go.Proofs.Ytnodfpndnpeedaa.typetermReplaces
namespace Go.Proofs.Ytnodfpndnpeedaa
/-- The row, under a short name, for the claim. -/
theorem typetermReplaces_holds : Rows.TypetermReplacesSaid := typetermReplaces.proved
end Go.Proofs.Ytnodfpndnpeedaa
#print axioms Go.Proofs.Ytnodfpndnpeedaa.typetermReplaces_holds
