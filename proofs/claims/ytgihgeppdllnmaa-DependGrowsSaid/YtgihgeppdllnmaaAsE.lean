/- AS: regions whose order is open: the records of the operations. -/
import Derived.Test.YtgihgeppdllnmaaAsD
namespace Go.AS
open Go.RowKit
set_option linter.all false

structure Rec where
  o : Oper
  R : List Nat
  M : List Nat
  v : AV
  h1 : Heap
  wr : List Nat
  b : Bool
def Rec.app (rc : Rec) (s : St) : St := ⟨match rc.o.dst with | some d => setN s.slots d rc.v | none => s.slots, mergeH s.heap rc.h1 rc.wr⟩
def Rec.fp (rc : Rec) : FP := ⟨rc.R, rc.o.dst.toList, rc.M, rc.wr⟩
def Rec.Sim (P : Program) (all : Array Oper) (rc : Rec) (sl : List AV) (hm : Heap) : Prop :=
  ∀ base wb w X cv (a : Act), HRel base wb w X cv hm → All2 (AR3 w X cv hm) a.tmps.toList sl →
    ∃ v', (∀ d, rc.o.dst = some d → d < sl.length → v' = rc.v) ∧ ((Region.wanted rc.o (yielded all a.tmps) = true ∧ OpOk P rc.o a base wb w X cv hm v' rc.h1 rc.wr) ∨ (Region.wanted rc.o (yielded all a.tmps) = false ∧ v' = .undef ∧ rc.h1 = hm))
structure Rec.Fits (P : Program) (all : Array Oper) (rc : Rec) (s : St) (n : Nat) : Prop where
  reads : rc.R = opReads all.toList rc.o ++ rc.o.dst.toList
  sub : rc.b = false → shal rc.o = false → ∀ k, k ∈ refsAs (maskS rc.R 0 s.slots) → k ∈ rc.M
  closed : rc.b = false → closedH rc.M (pickH rc.M s.heap) = true
  sim : rc.b = false → shal rc.o = false → rc.Sim P all (maskS rc.R 0 s.slots) (pickH rc.M s.heap)
  simB : rc.b = true → rc.o.dst = none ∧ rc.o.guard = none ∧ ∃ kk e e', rc.wr = [kk] ∧ kk ∈ rc.M ∧ rc.h1 = [(kk, e')] ∧ look s.heap kk = some e ∧ ∀ base wb w X cv h (a : Act), HRel base wb w X cv h → look h kk = some e → All2 (AR3 w X cv h) a.tmps.toList (maskS rc.R 0 s.slots) → OpOk P rc.o a base wb w X cv h .undef (upd h kk e') [kk]
  simS : rc.b = false → shal rc.o = true → rc.wr = [] ∧ rc.o.guard = none ∧ ∃ v', (∀ d, rc.o.dst = some d → d < (maskS rc.R 0 s.slots).length → v' = rc.v) ∧ ∀ w X cv h (a : Act), All2 (AR3 w X cv h) a.tmps.toList (maskS rc.R 0 s.slots) → ∃ val, (execOp a.eval rc.o).run P w = .ok (.value val) w ∧ AR3 w X cv h val v'
  fresh : ∀ k, k ∈ rc.wr → (∃ e, look rc.h1 k = some e) ∧ (k ∈ rc.M ∨ look s.heap k = none)
  edges : ∀ e, e ∈ rc.o.after → Region.binds .any e = true → e.on < n
def Tr (P : Program) (all : Array Oper) (bs : List (List Nat)) : Nat → List FP → List Oper → St → List Rec → St → Prop
  | _, _, [], s, [], sN => sN = s
  | n, fs, o :: os, s, rc :: recs, sN => rc.o = o ∧ rc.Fits P all s n ∧ clash (nth [] bs n) rc.fp n fs = false ∧ Tr P all bs (n + 1) (rc.fp :: fs) os (rc.app s) recs sN
  | _, _, _, _, _, _ => False

section
variable {P : Program} {cx : Cx} {C : CallF} {β : Type} {r : β}
theorem shal_step (hcx : CxOk P cx) {all : List Oper} {o : Oper} (hsh : shal o = true) {sl : List AV} {hm : Heap} {k : St → List Nat → List Nat → Option β} (hk : stepK cx C all o ⟨sl, hm⟩ k = some r) :
    ∃ v, k ((⟨sl, hm⟩ : St).putd o.dst v hm) [] [] = some r ∧ o.guard = none ∧ ∀ w X cv h (a : Act), All2 (AR3 w X cv h) a.tmps.toList sl → ∃ val, (execOp a.eval o).run P w = .ok (.value val) w ∧ AR3 w X cv h val v := by
  unfold shal at hsh
  split at hsh
  · rename_i x d hg ho hd
    simp only [stepK, hg, opK, ho] at hk
    exact ⟨_, hk, hg, fun w X cv h a hs => ⟨a.eval x, by simp [execOp, ho], opdT_ok (s := ⟨sl, hm⟩) hs _ x⟩⟩
  · rename_i x d hg ho hd
    simp only [stepK, hg, opK, ho] at hk
    split at hk
    · rename_i kk off he
      refine ⟨_, hk, hg, fun w X cv h a hs => ?_⟩
      have hx := opd_ok (s := ⟨sl, hm⟩) hs x
      rw [he] at hx
      have hx2 := hx
      obtain ⟨_, _, _, _, _, hv⟩ := hx2
      exact ⟨a.eval x, by simp [execOp, ho, hv], hx⟩
    · rename_i kk v i off he
      refine ⟨_, hk, hg, fun w X cv h a hs => ?_⟩
      have hx := opd_ok (s := ⟨sl, hm⟩) hs x
      rw [he] at hx
      have hx2 := hx
      obtain ⟨⟨_, hv⟩, _⟩ := hx2
      exact ⟨a.eval x, by simp [execOp, ho, hv], hx⟩
    · rename_i es row off he
      refine ⟨_, hk, hg, fun w X cv h a hs => ?_⟩
      have hx := opd_ok (s := ⟨sl, hm⟩) hs x
      rw [he] at hx
      have hx2 := hx
      obtain ⟨_, hv, _⟩ := hx2
      exact ⟨a.eval x, by simp [execOp, ho, hv], hx⟩
    · rename_i y he
      cases y <;> simp only [T.ptK] at hk <;> first | cases hk; done | skip
      rename_i sz row
      refine ⟨_, hk, hg, fun w X cv h a hs => ?_⟩
      have hx := opd_ok (s := ⟨sl, hm⟩) hs x
      rw [he] at hx
      have hk2 : T.ptK (T.pt sz row) (fun a b => some (a, b)) = some (sz, row) := rfl
      obtain ⟨sz', row', ad, e1, e2, hv⟩ := ptK_ok (w := w) (X := X) hk2 hx
      injection e1 with e1 e3
      subst e1 e3
      refine ⟨a.eval x, by simp [execOp, ho, hv], ⟨ad, by rw [add_zero']; exact hv, ?_⟩⟩
      rw [hv] at hx
      exact hx
    · rename_i f caps he
      refine ⟨_, hk, hg, fun w X cv h a hs => ?_⟩
      have hx := opd_ok (s := ⟨sl, hm⟩) hs x
      rw [he] at hx
      have hx2 := hx
      obtain ⟨_, hv, _⟩ := hx2
      exact ⟨a.eval x, by simp [execOp, ho, hv], hx⟩
    · cases hk
  · rename_i t x f d hg ho hd
    simp only [stepK, hg, opK, ho] at hk
    split at hk
    · rename_i fs he
      obtain ⟨hp, hk⟩ := cond_some hk
      have hn := ptrAdd_nat (g := fun v => k ((⟨sl, hm⟩ : St).putd o.dst v hm) [] []) (opd ⟨sl, hm⟩ x) (fieldOff fs f).1 some
      simp only [Option.bind_some] at hn
      rw [← hn] at hk
      obtain ⟨v, hv, hk⟩ := Option.bind_eq_some_iff.1 hk
      refine ⟨v, hk, hg, fun w X cv h a hs => ?_⟩
      have hx := opd_ok (s := ⟨sl, hm⟩) hs x
      obtain ⟨v', e1, val, g1, g2⟩ := fieldAddr_ok hcx hx he (ble_le hp) hv
      injection e1 with e1
      subst e1
      exact ⟨val, by simp [execOp, ho, g1], g2⟩
    · cases hk
  · cases hsh
end
section
variable {P : Program} {cx : Cx}
theorem bst_ok (hcx : CxOk P cx) {o : Oper} {sl : List AV} {h0 : Heap} {kk : Nat} {e' : Ent} (hb : bst cx o sl h0 = some (kk, e')) :
    o.dst = none ∧ o.guard = none ∧ ∃ e, look h0 kk = some e ∧ ∀ base wb w X cv h (a : Act), HRel base wb w X cv h → look h kk = some e → All2 (AR3 w X cv h) a.tmps.toList sl → OpOk P o a base wb w X cv h .undef (upd h kk e') [kk] := by
  unfold bst at hb
  split at hb
  · rename_i t x y hg hd ho
    split at hb
    · rename_i k0 off hx
      split at hb
      · rename_i sh cells hl
        cases hp : isPart (opdT cx ⟨sl, []⟩ t y) with
        | true => rw [hp] at hb; cases hb
        | false =>
          rw [hp, cond_false] at hb
          obtain ⟨c1, hb⟩ := cond_some hb
          obtain ⟨c2, hb⟩ := cond_some hb
          obtain ⟨c3, hb⟩ := cond_some hb
          obtain ⟨c4, hb⟩ := cond_some hb
          injection hb with hb
          injection hb with e1 e2
          subst e1 e2
          refine ⟨hd, hg, _, hl, fun base wb w X cv h a H hlk hs => ?_⟩
          have ev := opd_ok (s := ⟨sl, []⟩) hs x
          have evT := opdT_ok (cx := cx) (s := ⟨sl, []⟩) hs t y
          rw [hx] at ev
          obtain ⟨h', wr, hk, w', X', g1, g2, g3⟩ := storeK_ok (β := Heap × List Nat) (r := (upd h k0 (.box sh (setCells cells off (opdT cx ⟨sl, []⟩ t y).cells)), [k0])) hcx H ev evT (k := fun _ h _ wr => some (h, wr)) (by
            unfold storeK
            rw [c1, c2, cond_true, cond_true]
            simp only [hlk]
            rw [c3, c4]
            rfl)
          injection hk with hk
          injection hk with e3 e4
          subst e3 e4
          exact .skip (by simp [execOp, ho, g1]) g2 g3
      · cases hb
    · cases hb
  · cases hb
end
theorem maskS_length (R : List Nat) : ∀ (l : List AV) (i : Nat), (maskS R i l).length = l.length
  | [], _ => rfl
  | _ :: l, i => by simp [maskS, maskS_length R l (i + 1)]
theorem mergeS_mask (R : List Nat) : ∀ (l : List AV) (i : Nat), mergeS R i l (maskS R i l) = l
  | [], _ => rfl
  | v :: l, i => by
    simp only [maskS, mergeS, mergeS_mask R l (i + 1)]
    cases mem R i <;> rfl
theorem mergeS_put (R : List Nat) (v : AV) : ∀ (l : List AV) (i d : Nat), i + d ∈ R → mergeS R i l (setN (maskS R i l) d v) = setN l d v
  | [], _, _, _ => rfl
  | u :: l, i, 0, h => by
    simp only [maskS, setN, mergeS, mergeS_mask R l (i + 1)]
    rw [(mem_iff R i).2 (by simpa using h)]
    rfl
  | u :: l, i, d + 1, h => by
    simp only [maskS, setN, mergeS]
    rw [mergeS_put R v l (i + 1) d (by rwa [show i + 1 + d = i + (d + 1) by omega])]
    cases mem R i <;> rfl
theorem setN_inj {α : Type} : ∀ (l : List α) (d : Nat) (x y : α), setN l d x = setN l d y → d < l.length → x = y
  | _ :: _, 0, x, y, h, _ => by simp only [setN] at h; injection h
  | _ :: l, d + 1, x, y, h, hl => by
    simp only [setN] at h
    injection h with _ h
    exact setN_inj l d x y h (by simpa using hl)

section
variable {P : Program} {cx : Cx} {C : CallF} {β : Type} {r : β}
theorem opK_form {o : Oper} {s : St} {k : OpK β} (hk : opK cx C o s k = some r) : ∃ v h rd wr, k v h rd wr = some r := by
  have h := opK_nat (fun t : AV × Heap × List Nat × List Nat => k t.1 t.2.1 t.2.2.1 t.2.2.2) cx C o s fun a b c d => some (a, b, c, d)
  simp only [Option.bind_some] at h
  rw [hk] at h
  cases ht : opK cx C o s (fun a b c d => some (a, b, c, d)) with
  | none => rw [ht] at h; cases h
  | some t => rw [ht] at h; exact ⟨_, _, _, _, h⟩
theorem stepK_form {all : List Oper} {o : Oper} {s : St} {k : St → List Nat → List Nat → Option β} (hk : stepK cx C all o s k = some r) : ∃ v h rd wr, k (s.putd o.dst v h) rd wr = some r := by
  unfold stepK at hk
  split at hk
  · exact opK_form hk
  · split at hk
    · cases hk
    · rename_i g hg
      split at hk
      · exact ⟨_, _, _, _, hk⟩
      · rename_i x hx
        cases x <;> simp only [T.boolK] at hk <;> first | cases hk; done | skip
        rename_i b
        have same : ∀ c, b = c → (⟨setN s.slots g (.t (.bool c)), s.heap⟩ : St) = s := by
          rintro c rfl
          have := setN_self .dead s.slots g
          rw [hx] at this
          rw [this]
        split at hk <;> cases b <;> simp only [cond_true, cond_false] at hk
        · rw [same false rfl] at hk; exact ⟨_, _, _, _, hk⟩
        · rw [same true rfl] at hk; exact opK_form hk
        · rw [same false rfl] at hk; exact opK_form hk
        · rw [same true rfl] at hk; exact ⟨_, _, _, _, hk⟩
      · cases hk
theorem stepK_nat {γ : Type} (g : β → Option γ) (all : List Oper) (o : Oper) (s : St) (k : St → List Nat → List Nat → Option β) : (stepK cx C all o s k).bind g = stepK cx C all o s fun a b c => (k a b c).bind g := by
  unfold stepK
  split
  · rw [opK_nat]
  · split
    · rfl
    · split
      · rfl
      · rw [TboolK_nat]
        congr 1
        funext b
        split <;> simp only [cond_nat, opK_nat]
      · rfl
end
end Go.AS
