/- AS: regions whose order is open: the records of the operations. -/
import Derived.Test.YtnodfpndnpeedaaAsD
namespace Go.AS
open Go.RowKit
set_option linter.all false

structure Rec where
  o : Oper
  R : List Nat
  M : List Nat
  v : AV
  h1 : Heap
  wr : List Nat
def Rec.app (rc : Rec) (s : St) : St := ⟨match rc.o.dst with | some d => setN s.slots d rc.v | none => s.slots, mergeH s.heap rc.h1 rc.wr⟩
def Rec.fp (rc : Rec) : FP := ⟨rc.R, rc.o.dst.toList, rc.M, rc.wr⟩
def Rec.Sim (P : Program) (all : Array Oper) (rc : Rec) (sl : List AV) (hm : Heap) : Prop :=
  ∀ base wb w X cv (a : Act), HRel base wb w X cv hm → All2 (AR3 w X cv hm) a.tmps.toList sl →
    ∃ v', (∀ d, rc.o.dst = some d → d < sl.length → v' = rc.v) ∧ ((Region.wanted rc.o (yielded all a.tmps) = true ∧ OpOk P rc.o a base wb w X cv hm v' rc.h1 rc.wr) ∨ (Region.wanted rc.o (yielded all a.tmps) = false ∧ v' = .undef ∧ rc.h1 = hm))
structure Rec.Fits (P : Program) (all : Array Oper) (rc : Rec) (s : St) (n : Nat) : Prop where
  reads : rc.R = opReads all.toList rc.o ++ rc.o.dst.toList
  sub : ∀ k, k ∈ refsAs (maskS rc.R 0 s.slots) → k ∈ rc.M
  closed : closedH rc.M (pickH rc.M s.heap) = true
  sim : rc.Sim P all (maskS rc.R 0 s.slots) (pickH rc.M s.heap)
  fresh : ∀ k, k ∈ rc.wr → (∃ e, look rc.h1 k = some e) ∧ (k ∈ rc.M ∨ look s.heap k = none)
  edges : ∀ e, e ∈ rc.o.after → Region.binds .any e = true → e.on < n
def Tr (P : Program) (all : Array Oper) (bs : List (List Nat)) : Nat → List FP → List Oper → St → List Rec → St → Prop
  | _, _, [], s, [], sN => sN = s
  | n, fs, o :: os, s, rc :: recs, sN => rc.o = o ∧ rc.Fits P all s n ∧ clash (nth [] bs n) rc.fp n fs = false ∧ Tr P all bs (n + 1) (rc.fp :: fs) os (rc.app s) recs sN
  | _, _, _, _, _, _ => False

theorem maskS_length (R : List Nat) : ∀ (l : List AV) (i : Nat), (maskS R i l).length = l.length
  | [], _ => rfl
  | _ :: l, i => by simp [maskS, maskS_length R l (i + 1)]
theorem mergeS_mask (R : List Nat) : ∀ (l : List AV) (i : Nat), mergeS R i l (maskS R i l) = l
  | [], _ => rfl
  | v :: l, i => by
    simp only [maskS, mergeS, mergeS_mask R l (i + 1)]
    cases mem R i <;> rfl
theorem mergeS_put (R : List Nat) (v : AV) : ∀ (l : List AV) (i d : Nat), i + d ∈ R → mergeS R i l (setN (maskS R i l) d v) = setN l d v
  | [], _, _, _ => rfl
  | u :: l, i, 0, h => by
    simp only [maskS, setN, mergeS, mergeS_mask R l (i + 1)]
    rw [(mem_iff R i).2 (by simpa using h)]
    rfl
  | u :: l, i, d + 1, h => by
    simp only [maskS, setN, mergeS]
    rw [mergeS_put R v l (i + 1) d (by rwa [show i + 1 + d = i + (d + 1) by omega])]
    cases mem R i <;> rfl
theorem setN_inj {α : Type} : ∀ (l : List α) (d : Nat) (x y : α), setN l d x = setN l d y → d < l.length → x = y
  | _ :: _, 0, x, y, h, _ => by simp only [setN] at h; injection h
  | _ :: l, d + 1, x, y, h, hl => by
    simp only [setN] at h
    injection h with _ h
    exact setN_inj l d x y h (by simpa using hl)

section
variable {P : Program} {cx : Cx} {C : CallF} {β : Type} {r : β}
theorem opK_form {o : Oper} {s : St} {k : OpK β} (hk : opK cx C o s k = some r) : ∃ v h rd wr, k v h rd wr = some r := by
  have h := opK_nat (fun t : AV × Heap × List Nat × List Nat => k t.1 t.2.1 t.2.2.1 t.2.2.2) cx C o s fun a b c d => some (a, b, c, d)
  simp only [Option.bind_some] at h
  rw [hk] at h
  cases ht : opK cx C o s (fun a b c d => some (a, b, c, d)) with
  | none => rw [ht] at h; cases h
  | some t => rw [ht] at h; exact ⟨_, _, _, _, h⟩
theorem stepK_form {all : List Oper} {o : Oper} {s : St} {k : St → List Nat → List Nat → Option β} (hk : stepK cx C all o s k = some r) : ∃ v h rd wr, k (s.putd o.dst v h) rd wr = some r := by
  unfold stepK at hk
  split at hk
  · exact opK_form hk
  · split at hk
    · cases hk
    · rename_i g hg
      split at hk
      · exact ⟨_, _, _, _, hk⟩
      · rename_i x hx
        cases x <;> simp only [T.boolK] at hk <;> first | cases hk; done | skip
        rename_i b
        have same : ∀ c, b = c → (⟨setN s.slots g (.t (.bool c)), s.heap⟩ : St) = s := by
          rintro c rfl
          have := setN_self .dead s.slots g
          rw [hx] at this
          rw [this]
        split at hk <;> cases b <;> simp only [cond_true, cond_false] at hk
        · rw [same false rfl] at hk; exact ⟨_, _, _, _, hk⟩
        · rw [same true rfl] at hk; exact opK_form hk
        · rw [same false rfl] at hk; exact opK_form hk
        · rw [same true rfl] at hk; exact ⟨_, _, _, _, hk⟩
      · cases hk
theorem stepK_nat {γ : Type} (g : β → Option γ) (all : List Oper) (o : Oper) (s : St) (k : St → List Nat → List Nat → Option β) : (stepK cx C all o s k).bind g = stepK cx C all o s fun a b c => (k a b c).bind g := by
  unfold stepK
  split
  · rw [opK_nat]
  · split
    · rfl
    · split
      · rfl
      · rw [TboolK_nat]
        congr 1
        funext b
        split <;> simp only [cond_nat, opK_nat]
      · rfl
end
end Go.AS
