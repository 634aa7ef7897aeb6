/- AS: regions whose order is open: soundness, the end. -/
import Derived.Test.YtgihgeppdllnmaaAsH
namespace Go.AS
open Go.RowKit
set_option linter.all false

structure TrOk (P : Program) (all : Array Oper) (bs : List (List Nat)) (recs : List Rec) (s : St) : Prop where
  len : recs.length = all.size
  here : ∀ (j : Nat) rc, recs[j]? = some rc → all[j]? = some rc.o ∧ rc.Fits P all (foldR (fun q => Nat.blt q j) 0 recs s) j
  apart : ∀ (j : Nat) rc (j' : Nat) rc', recs[j]? = some rc → recs[j']? = some rc' → j' < j → j' ∈ nth [] bs j ∨ FP.apart rc.fp rc'.fp = true
def Down (bs : List (List Nat)) (L : Nat → Bool) : Prop := ∀ j, L j = true → ∀ p, p ∈ nth [] bs j → L p = true
section
variable {P : Program} {all : Array Oper} {bs : List (List Nat)} {recs : List Rec} {s : St}
theorem TrOk.wrs (T : TrOk P all bs recs s) : ∀ (j : Nat) rc, recs[j]? = some rc → ∀ k, k ∈ rc.wr → ∃ e, look rc.h1 k = some e := fun j rc hj k hk => ((T.here j rc hj).2.fresh k hk).1
theorem TrOk.agree (T : TrOk P all bs recs s) {L : Nat → Bool} (hd : Down bs L) {i : Nat} {rc : Rec} (hi : recs[i]? = some rc) (hLi : L i = false) (hb : ∀ p, p ∈ nth [] bs i → L p = true)
    {W : Rec → Prop} (h1 : ∀ rc', W rc' → FP.apart rc.fp rc'.fp = true → False) (h2 : ∀ rc', W rc' → FP.apart rc'.fp rc.fp = true → False) : ∀ (j : Nat) rc', recs[j]? = some rc' → W rc' → L j = Nat.blt j i := by
  intro j rc' hj hw
  rcases Nat.lt_trichotomy j i with hlt | heq | hgt
  · have hbt : Nat.blt j i = true := by simpa [Nat.blt_eq] using hlt
    rw [hbt]
    rcases T.apart i rc j rc' hi hj hlt with h | h
    · exact hb j h
    · exact (h1 rc' hw h).elim
  · subst heq
    have hbt : Nat.blt j j = false := by
      cases hh : Nat.blt j j with
      | true => have : j < j := by simpa [Nat.blt_eq] using hh
                omega
      | false => rfl
    rw [hbt, hLi]
  · have hbt : Nat.blt j i = false := by
      cases hh : Nat.blt j i with
      | true => have : j < i := by simpa [Nat.blt_eq] using hh
                omega
      | false => rfl
    rw [hbt]
    rcases T.apart j rc' i rc hj hi hgt with h | h
    · cases hL : L j with
      | false => rfl
      | true => rw [hd j hL i h] at hLi; cases hLi
    · exact (h2 rc' hw h).elim
theorem in_toList {t : Nat} {o : Option Nat} (h : o = some t) : t ∈ o.toList := by rw [h]; simp
theorem TrOk.step (T : TrOk P all bs recs s) {L : Nat → Bool} (hd : Down bs L) {i : Nat} {rc : Rec} (hi : recs[i]? = some rc) (hLi : L i = false) (hb : ∀ p, p ∈ nth [] bs i → L p = true)
    {S : Start} {a : Act} {w : World} (inv : Inv S a w (foldR L 0 recs s)) {K : Act → World → Prop} {Q : Exit → Act → World → Prop} (hK : ∀ a' w', Inv S a' w' (foldR (fun j => if j = i then true else L j) 0 recs s) → K a' w') :
    if Region.wanted rc.o (yielded all a.tmps) then rc.o.wp P a w K Q else K (a.put rc.o.dst undef) w := by
  obtain ⟨hall, F⟩ := T.here i rc hi
  have dR : ∀ t, rc.o.dst = some t → t ∈ rc.R := by
    intro t ht
    rw [F.reads]
    exact List.mem_append_right _ (in_toList ht)
  -- who writes what the operation looks at, or writes
  have agS : ∀ t, t ∈ rc.R → ∀ (j : Nat) rc', recs[j]? = some rc' → rc'.o.dst = some t → L j = Nat.blt j i := fun t ht => T.agree hd hi hLi hb
    (W := fun rc' => rc'.o.dst = some t) (fun rc' hw h => meet_no (apart_ok h).2.1 (show t ∈ rc.fp.rs from ht) (show t ∈ rc'.fp.ws from in_toList hw)) (fun rc' hw h => meet_no (apart_ok h).1 (show t ∈ rc'.fp.ws from in_toList hw) (show t ∈ rc.fp.rs from ht))
  have agM : ∀ k, k ∈ rc.M → ∀ (j : Nat) rc', recs[j]? = some rc' → k ∈ rc'.wr → L j = Nat.blt j i := fun k hk => T.agree hd hi hLi hb
    (W := fun rc' => k ∈ rc'.wr) (fun rc' hw h => meet_no (apart_ok h).2.2.2.2.1 (show k ∈ rc.fp.rd from hk) (show k ∈ rc'.fp.wr from hw)) (fun rc' hw h => meet_no (apart_ok h).2.2.2.1 (show k ∈ rc'.fp.wr from hw) (show k ∈ rc.fp.rd from hk))
  have agW : ∀ k, k ∈ rc.wr → ∀ (j : Nat) rc', recs[j]? = some rc' → k ∈ rc'.wr → L j = Nat.blt j i := fun k hk => T.agree hd hi hLi hb
    (W := fun rc' => k ∈ rc'.wr) (fun rc' hw h => meet_no (apart_ok h).2.2.2.2.2 (show k ∈ rc.fp.wr from hk) (show k ∈ rc'.fp.wr from hw)) (fun rc' hw h => meet_no (apart_ok h).2.2.2.2.2 (show k ∈ rc'.fp.wr from hw) (show k ∈ rc.fp.wr from hk))
  generalize hsL : foldR L 0 recs s = sL at inv
  generalize hsi : foldR (fun q => Nat.blt q i) 0 recs s = si at F
  have lenL : sL.slots.length = s.slots.length := by rw [← hsL, foldR_len]
  have leni : si.slots.length = s.slots.length := by rw [← hsi, foldR_len]
  have eqS : ∀ t, t ∈ rc.R → sL.slots[t]? = si.slots[t]? := by
    intro t ht
    rw [← hsL, ← hsi]
    exact foldR_slot recs 0 s s rfl fun j rc' hj hw => by rw [Nat.zero_add]; exact agS t ht j rc' hj hw
  have eqM : ∀ k, k ∈ rc.M → look sL.heap k = look si.heap k := by
    intro k hk
    rw [← hsL, ← hsi]
    exact foldR_heap recs 0 s s T.wrs rfl fun j rc' hj hw => by rw [Nat.zero_add]; exact agM k hk j rc' hj hw
  have eqW : ∀ k, k ∈ rc.wr → look sL.heap k = look si.heap k := by
    intro k hk
    rw [← hsL, ← hsi]
    exact foldR_heap recs 0 s s T.wrs rfl fun j rc' hj hw => by rw [Nat.zero_add]; exact agW k hk j rc' hj hw
  obtain ⟨h0, X, cv, H, hs, p⟩ := inv
  have hpick : ∀ k, look (pickH rc.M si.heap) k = if k ∈ rc.M then look sL.heap k else none := by
    intro k
    rw [look_pickH]
    by_cases hk : k ∈ rc.M
    · rw [if_pos hk, if_pos hk, eqM k hk]
    · rw [if_neg hk, if_neg hk]
  have hmask : maskS rc.R 0 sL.slots = maskS rc.R 0 si.slots := maskS_congr (by omega) fun t ht => eqS t (by simpa using ht)
  have hwr : ∀ k, k ∈ rc.wr → (∃ e, look rc.h1 k = some e) ∧ (k ∈ rc.M ∨ look sL.heap k = none) := by
    intro k hk
    obtain ⟨q1, q2⟩ := F.fresh k hk
    refine ⟨q1, ?_⟩
    rcases q2 with q2 | q2
    · exact .inl q2
    · exact .inr ((eqW k hk).trans q2)
  have eq1 : ∀ (L' : Nat → Bool), (fun j => if j = i then true else L j) = L' → ∀ k, look (mergeH sL.heap rc.h1 rc.wr) k = look (foldR L' 0 recs s).heap k := by
    rintro L' rfl k
    rw [look_mergeH rc.wr sL.heap k fun k hk => (hwr k hk).1]
    by_cases hk : k ∈ rc.wr
    · rw [if_pos hk, foldR_last_heap recs 0 i s rc T.wrs hi hk (by simp) fun j rc' hj hlt hw => ?_]
      have := agW k hk j rc' hj hw
      have hbt : Nat.blt j i = false := by
        cases hh : Nat.blt j i with
        | true => have : j < i := by simpa [Nat.blt_eq] using hh
                  omega
        | false => rfl
      simp only [Nat.zero_add]
      rw [if_neg (by omega), this, hbt]
    · rw [if_neg hk, ← hsL]
      refine foldR_heap recs 0 s s T.wrs rfl fun j rc' hj hw => ?_
      simp only [Nat.zero_add]
      by_cases hji : j = i
      · subst hji
        rw [hi] at hj
        injection hj with hj
        subst hj
        exact absurd hw hk
      · rw [if_neg hji]
  have eq2 : ∀ (v' : AV), (∀ d, rc.o.dst = some d → d < (maskS rc.R 0 si.slots).length → v' = rc.v) → ∀ (L' : Nat → Bool), (fun j => if j = i then true else L j) = L' → (foldR L' 0 recs s).slots = match rc.o.dst with | some d => setN sL.slots d v' | none => sL.slots := by
    rintro v' hv' L' rfl
    apply List.ext_getElem?
    intro t
    by_cases ht : rc.o.dst = some t
    · rw [ht]
      simp only [setN_set, List.getElem?_set, if_true]
      by_cases hl : t < s.slots.length
      · have hml : t < (maskS rc.R 0 si.slots).length := by rw [maskS_length, leni]; exact hl
        rw [if_pos (by rw [lenL]; exact hl), foldR_last_slot recs 0 i s rc hi ht (by simp) hl fun j rc' hj hlt hw => ?_, hv' t ht hml]
        have := agS t (dR t ht) j rc' hj hw
        have hbt : Nat.blt j i = false := by
          cases hh : Nat.blt j i with
          | true => have : j < i := by simpa [Nat.blt_eq] using hh
                    omega
          | false => rfl
        simp only [Nat.zero_add]
        rw [if_neg (by omega), this, hbt]
      · rw [if_neg (by omega), List.getElem?_eq_none (by rw [foldR_len]; omega)]
    · have e1 : (foldR (fun j => if j = i then true else L j) 0 recs s).slots[t]? = sL.slots[t]? := by
        rw [← hsL]
        refine foldR_slot recs 0 s s rfl fun j rc' hj hw => ?_
        simp only [Nat.zero_add]
        by_cases hji : j = i
        · subst hji
          rw [hi] at hj
          injection hj with hj
          subst hj
          exact absurd hw ht
        · rw [if_neg hji]
      rw [e1]
      split
      · rename_i d hd
        rw [setN_set, List.getElem?_set, if_neg]
        intro he
        subst he
        exact ht hd
      · rfl
  by_cases hbb : rc.b = true
  · obtain ⟨hd0, hg, kk, e, e', hw0, hkM, hh1, hlk, simB⟩ := F.simB hbb
    have hlL : look sL.heap kk = some e := (eqM kk hkM).trans hlk
    have OP := simB S.base S.wb w X cv sL.heap a H hlL (hmask ▸ maskS_rel hs)
    have hwant : Region.wanted rc.o (yielded all a.tmps) = true := by simp [Region.wanted, hg]
    rw [if_pos hwant]
    refine OP K Q fun val w' X' cv' H' G' A' => ?_
    have e1 : ∀ k, look (upd sL.heap kk e') k = look (foldR (fun j => if j = i then true else L j) 0 recs s).heap k := by
      intro k
      have := eq1 _ rfl k
      rw [hw0, hh1] at this
      rw [← this]
      simp [mergeH, look, asc]
    refine hK _ _ ⟨by rw [hd0]; simp [Act.put, h0], X', cv', H'.congr fun k => (e1 k).symm, ?_, (p.go G').congr fun k => (e1 k).symm⟩
    rw [eq2 rc.v (fun _ _ _ => rfl) _ rfl, hd0]
    exact (hs.imp fun _ _ => AR3.mono (G'.keep H) G').imp fun _ _ hh => ext3 (fun k e hl => by rw [← e1]; exact hl) hh
  have hbb : rc.b = false := by simpa using hbb
  by_cases hsh : shal rc.o = true
  · obtain ⟨hw0, hg, v', hv', simS⟩ := F.simS hbb hsh
    obtain ⟨val, hrun, A⟩ := simS w X cv sL.heap a (hmask ▸ maskS_rel hs)
    have hwant : Region.wanted rc.o (yielded all a.tmps) = true := by simp [Region.wanted, hg]
    rw [if_pos hwant]
    refine OpOk.pure H hrun A K Q fun val w' X' cv' H' G' A' => ?_
    have e1 : ∀ k, look sL.heap k = look (foldR (fun j => if j = i then true else L j) 0 recs s).heap k := by
      intro k
      have := eq1 _ rfl k
      rw [hw0] at this
      exact this
    refine hK _ _ ⟨by cases hd : rc.o.dst <;> simp [Act.put, h0], X', cv', H'.congr fun k => (e1 k).symm, ?_, (p.go G').congr fun k => (e1 k).symm⟩
    rw [eq2 v' hv' _ rfl]
    have hs' : All2 (AR3 w' X' cv' (foldR (fun j => if j = i then true else L j) 0 recs s).heap) a.tmps.toList sL.slots := (hs.imp fun _ _ => AR3.mono (G'.keep H) G').imp fun _ _ hh => ext3 (fun k e hl => by rw [← e1]; exact hl) hh
    have A2 := ext3 (h' := (foldR (fun j => if j = i then true else L j) 0 recs s).heap) (fun k e hl => by rw [← e1]; exact hl) A'
    have := put_ok hs' A2 rc.o.dst []
    cases hd : rc.o.dst <;> (rw [hd] at this; exact this)
  have hsh : shal rc.o = false := by simpa using hsh
  have Hm : HRel S.base S.wb w X cv (pickH rc.M si.heap) := H.pick hpick (F.closed hbb)
  have hsm : All2 (AR3 w X cv (pickH rc.M si.heap)) a.tmps.toList (maskS rc.R 0 si.slots) := by
    refine kn3s (h := sL.heap) (fun k hk => ?_) (hmask ▸ maskS_rel hs)
    rw [hpick, if_pos (F.sub hbb hsh k hk)]
  obtain ⟨v', hv', hh⟩ := F.sim hbb hsh S.base S.wb w X cv a Hm hsm
  have fin : ∀ val w' X' cv', HRel S.base S.wb w' X' cv' rc.h1 → Go1 rc.wr w X cv (pickH rc.M si.heap) w' X' cv' rc.h1 → AR3 w' X' cv' rc.h1 val v' → K (a.put rc.o.dst val) w' := by
    intro val w' X' cv' H1 G A
    obtain ⟨H2, G2, ext⟩ := frame_ok H hpick H1 G hwr
    refine hK _ _ ⟨by cases hd : rc.o.dst <;> simp [Act.put, h0], X', cv', H2.congr fun k => ((eq1 _ rfl) k).symm, ?_, (p.go G2).congr fun k => ((eq1 _ rfl) k).symm⟩
    have e2 := eq2 v' hv' _ rfl
    rw [e2]
    have hs' : All2 (AR3 w' X' cv' (foldR (fun j => if j = i then true else L j) 0 recs s).heap) a.tmps.toList sL.slots := (hs.imp fun _ _ => AR3.mono (G2.keep H) G2).imp fun _ _ hh => ext3 (fun k e hl => by rw [← eq1 _ rfl]; exact hl) hh
    have A' := ext3 (h' := (foldR (fun j => if j = i then true else L j) 0 recs s).heap) (fun k e hl => by rw [← eq1 _ rfl]; exact ext k e hl) A
    have := put_ok hs' A' rc.o.dst []
    cases hd : rc.o.dst <;> (rw [hd] at this; exact this)
  rcases hh with ⟨hw, ho⟩ | ⟨hw, rfl, he⟩
  · rw [if_pos hw]; exact ho K Q fin
  · rw [if_neg (by rw [hw]; simp)]
    refine fin undef w X cv (he ▸ Hm) ?_ rfl
    rw [he]
    exact Go1.refl w X cv _ rc.wr
theorem ready_mem {listed : Array Bool} {i : Nat} (h : i ∈ Region.ready .any all listed) : i < all.size ∧ listed.getD i true = false ∧ ∃ o, all[i]? = some o ∧ ∀ e, e ∈ o.after → Region.binds .any e = true → listed.getD e.on false = true := by
  unfold Region.ready at h
  rw [List.mem_filter] at h
  obtain ⟨h1, h2⟩ := h
  rw [Bool.and_eq_true] at h2
  obtain ⟨h2, h3⟩ := h2
  refine ⟨by simpa using h1, by simpa using h2, ?_⟩
  cases ho : all[i]? with
  | none => rw [ho] at h3; cases h3
  | some o =>
    rw [ho] at h3
    refine ⟨o, rfl, fun e he hb => ?_⟩
    have h4 : o.after.all (fun e => !Region.binds .any e || listed.getD e.on false) = true := h3
    have := (Array.all_eq_true'.1 h4) e he
    rw [hb] at this
    simpa using this
theorem ready_of {listed : Array Bool} {i : Nat} {o : Oper} (ho : all[i]? = some o) (hl : listed.getD i true = false) (he : ∀ e, e ∈ o.after → Region.binds .any e = true → listed.getD e.on false = true) : i ∈ Region.ready .any all listed := by
  have hlt : i < all.size := by
    obtain ⟨h, _⟩ := Array.getElem?_eq_some_iff.1 ho
    exact h
  unfold Region.ready
  rw [List.mem_filter, Bool.and_eq_true]
  refine ⟨by simpa using hlt, by rw [hl]; rfl, ?_⟩
  rw [ho]
  show o.after.all _ = true
  refine Array.all_eq_true'.2 fun e hm => ?_
  cases hb : Region.binds .any e with
  | false => simp
  | true => rw [he e hm hb]; rfl
theorem all_done (T : TrOk P all bs recs s) {listed : Array Bool} (hsz : listed.size = all.size) (hr : Region.ready .any all listed = []) : ∀ i, i < all.size → listed.getD i false = true := by
  intro i
  induction i using Nat.strongRecOn with
  | _ i ih =>
    intro hi
    cases hl : listed.getD i false with
    | true => rfl
    | false =>
      exfalso
      have hi' : i < recs.length := by rw [T.len]; exact hi
      obtain ⟨ho, F⟩ := T.here i recs[i] (List.getElem?_eq_getElem hi')
      have hmem : i ∈ Region.ready .any all listed := ready_of ho (by
        rw [Array.getD_eq_getD_getElem?, Array.getElem?_eq_getElem (by omega)] at hl ⊢
        exact hl) fun e he hb => by
          have hlt := F.edges e he hb
          exact ih e.on hlt (by omega)
      rw [hr] at hmem
      cases hmem
theorem wpAny_draw (T : TrOk P all bs recs s) (hbs : ∀ (j : Nat) o, all[j]? = some o → ∀ p, p ∈ nth [] bs j → ∃ e, e ∈ o.after ∧ Region.binds .any e = true ∧ (p = e.on ∨ p ∈ nth [] bs e.on)) {S : Start} {Q : Exit → Act → World → Prop}
    (hQ : ∀ a w, Inv S a w (foldR (fun _ => true) 0 recs s) → Q .normal a w) : ∀ (fuel : Nat) (listed : Array Bool) (a : Act) (w : World), listed.size = all.size → cntF listed.toList ≤ fuel → Down bs (fun j => listed.getD j false) → Inv S a w (foldR (fun j => listed.getD j false) 0 recs s) → wpAny P .any all Q fuel listed a w := by
  intro fuel
  have done : ∀ (listed : Array Bool) (a : Act) (w : World), listed.size = all.size → Inv S a w (foldR (fun j => listed.getD j false) 0 recs s) → Region.ready .any all listed = [] → Q .normal a w := by
    intro listed a w hsz inv hr
    refine hQ a w ?_
    have := foldR_congr2 (L := fun j => listed.getD j false) (L' := fun _ => true) recs 0 s fun j hj => by
      rw [Nat.zero_add]
      exact all_done T hsz hr j (by rw [← T.len]; exact hj)
    rw [← this]
    exact inv
  induction fuel with
  | zero =>
    intro listed a w hsz hc hd inv
    have hr : Region.ready .any all listed = [] := by
      cases hr : Region.ready .any all listed with
      | nil => rfl
      | cons i l =>
        exfalso
        obtain ⟨h1, h2, _⟩ := ready_mem (show i ∈ Region.ready .any all listed by rw [hr]; simp)
        rw [Array.getD_eq_getD_getElem?, Array.getElem?_eq_getElem (by omega)] at h2
        have := cntF_zero (l := listed.toList) (by omega) i (listed[i]'(by omega)) (by simp)
        simp at h2
        rw [this] at h2
        cases h2
    exact ⟨hr, done listed a w hsz inv hr⟩
  | succ fuel ih =>
    intro listed a w hsz hc hd inv
    refine ⟨done listed a w hsz inv, fun i hi => ?_⟩
    obtain ⟨h1, h2, o, ho, h3⟩ := ready_mem hi
    have hi' : i < recs.length := by rw [T.len]; exact h1
    obtain ⟨ho', F⟩ := T.here i recs[i] (List.getElem?_eq_getElem hi')
    have hli : listed[i]? = some false := by
      rw [Array.getD_eq_getD_getElem?, Array.getElem?_eq_getElem (by omega)] at h2
      rw [Array.getElem?_eq_getElem (by omega)]
      simpa using h2
    have hb : ∀ p, p ∈ nth [] bs i → listed.getD p false = true := by
      intro p hp
      obtain ⟨e, e1, e2, e3⟩ := hbs i o ho p hp
      have h4 := h3 e e1 e2
      rcases e3 with rfl | e3
      · exact h4
      · exact hd e.on h4 p e3
    have hset : ∀ j, (listed.setIfInBounds i true).getD j false = if j = i then true else listed.getD j false := by
      intro j
      by_cases hj : j = i
      · subst hj
        rw [if_pos rfl, Array.getD_eq_getD_getElem?, Array.getElem?_setIfInBounds_self_of_lt (by omega)]
        rfl
      · rw [if_neg hj, Array.getD_eq_getD_getElem?, Array.getElem?_setIfInBounds_ne (by omega), Array.getD_eq_getD_getElem?]
    have hstep := T.step (L := fun j => listed.getD j false) (K := wpAny P .any all Q fuel (listed.setIfInBounds i true)) (Q := Q) hd (List.getElem?_eq_getElem hi') (by simp [Array.getD_eq_getD_getElem?, hli]) hb inv fun a' w' inv' => by
      refine ih _ a' w' (by simpa using hsz) ?_ ?_ ?_
      · have := cntF_set listed.toList i (by simpa using hli)
        simp only [Array.toList_setIfInBounds]
        omega
      · intro j hj p hp
        simp only [hset] at hj ⊢
        by_cases hpi : p = i
        · rw [if_pos hpi]
        · rw [if_neg hpi]
          by_cases hji : j = i
          · subst hji; exact hb p hp
          · rw [if_neg hji] at hj; exact hd j hj p hp
      · have he : (fun j => (listed.setIfInBounds i true).getD j false) = fun j => if j = i then true else listed.getD j false := funext hset
        rw [he]
        exact inv'
    unfold wpOp
    rw [ho']
    simp only
    split
    · rename_i hw; rw [if_pos hw] at hstep; exact .inl hstep
    · rename_i hw; rw [if_neg hw] at hstep; exact hstep
end
section
variable {P : Program} {cx : Cx} {C : CallF} {β : Type} {r : β}
theorem drawK_ok (E : EnvOk P cx C) (hmix : P.follows .mixedOrders = true) {S : Start} {id : Nat} {ops : Array Oper} {s : St} {a : Act} {w : World} {k : St → Option β} (hi : Inv S a w s) (h : drawK cx C ops.toList (befores [] ops.toList) 0 [] ops.toList s k = some r)
    {Q : Exit → Act → World → Prop} (hQ : ∀ s' a' w', k s' = some r → Inv S a' w' s' → Q .normal a' w') : (Code.region id ops true).wp P Q a w := by
  obtain ⟨recs, sN, tr, hk⟩ := drawK_inv E h
  obtain ⟨q1, q2, q3⟩ := Tr.read tr rfl
  have T : TrOk P ops (befores [] ops.toList) recs s := by
    refine ⟨by simpa using q1, fun j rc hj => ?_, fun j rc j' rc' hj hj' hlt => ?_⟩
    · obtain ⟨g1, g2, _⟩ := q3 j rc hj
      rw [Nat.zero_add] at g2
      exact ⟨by simpa using g1, g2⟩
    · obtain ⟨_, _, g3, _⟩ := q3 j rc hj
      have := g3 j' rc' hj' hlt
      rwa [Nat.zero_add, Nat.zero_add] at this
  refine wp_region_any hmix (wpAny_draw T (S := S) (fun j o ho p hp => ?_) (fun a w inv => hQ sN a w hk (by rw [q2]; exact inv)) ops.size (Array.replicate ops.size false) a _ (by simp) (by simp [cntF_rep]) ?_ ?_)
  · have := befores_at ops.toList [] j o (by simpa using ho) p (by simpa using hp)
    obtain ⟨e, e1, e2, e3⟩ := this
    exact ⟨e, e1, e2, e3⟩
  · intro j hj
    have hj' : (Array.replicate ops.size false).getD j false = true := hj
    rw [Array.getD_eq_getD_getElem?, Array.getElem?_replicate] at hj'
    split at hj' <;> simp at hj'
  · have he : (fun j => (Array.replicate ops.size false).getD j false) = fun _ => false := by
      funext j
      rw [Array.getD_eq_getD_getElem?, Array.getElem?_replicate]
      split <;> rfl
    rw [he, foldR_false]
    exact hi.drawn rfl ⟨rfl, rfl, rfl⟩
end
end Go.AS
