/- AS, part 15: the call itself. -/
import Derived.Test.YtgihgeppdllnmaaAs14
namespace Go.AS
open Go.RowKit
set_option linter.all false

theorem nilRow_ok {base wb w X cv h} (H : HRel base wb w X cv h) {kk : Nat} (hn : look h kk = none) {e : TypeId} {s : Nat} (hs : 1 ≤ s) :
    ∃ X' cv', HRel base wb w X' cv' (upd h kk (.row 1 s e [])) ∧ Go1 [kk] w X cv h w X' cv' (upd h kk (.row 1 s e [])) ∧ AR3 w X' cv' (upd h kk (.row 1 s e [])) (.slice none 0 0) (.rowp kk 1 none) := by
  have hnew : ∀ b, mblk (setCV cv kk (.slice none 0 0)) kk (.row 1 s e []) = some b → w.heap.size ≤ b ∧ b < w.heap.size := by
    intro b hb
    simp [mblk, setCV_same, Value.ownBlock] at hb
  have G := H.addGo (e := .row 1 s e []) (c := .slice none 0 0) hn (Nat.le_refl _) (fun _ _ => rfl) fun b hb => (hnew b hb).1
  refine ⟨_, _, H.add hn (Nat.le_refl _) (fun _ _ => rfl) ⟨rfl, rfl, rfl⟩ hnew ?_, G, ?_⟩
  · exact ⟨[], by rw [setCV_same]; exact World.ownsRow_nil w 0 e s, fun b hb => by simp [setCV_same, Value.ownBlock] at hb, fun j r hj => by simp at hj, hs⟩
  · exact ⟨⟨_, _, _, rfl⟩, _, 1, look_upd_same .., rfl, Nat.le_refl _, fun _ => by simp [CutOf, setCV_same]⟩
theorem nilArgs_ok {base wb w d own} : ∀ {vals : List Value} {l l' : List AV} {i : Nat} {X cv h h' wr} (H : HRel base wb w X cv h) (hv : All2 (AR3 w X cv h) vals l) (hc : nilArgs d own i h l = some (l', h', wr)),
    ∃ X' cv', HRel base wb w X' cv' h' ∧ Go1 wr w X cv h w X' cv' h' ∧ All2 (AR3 w X' cv' h') vals l'
  | [], [], l', i, X, cv, h, h', wr, H, hv, hc => by
    simp only [nilArgs] at hc
    injection hc with hc; injection hc with e1 hc; injection hc with e2 e3
    subst e1 e2 e3
    exact ⟨X, cv, H, .refl .., trivial⟩
  | val :: vals, v :: l, l', i, X, cv, h, h', wr, H, hv, hc => by
    unfold nilArgs at hc
    split at hc
    · rename_i e s o _
      split at hc
      · cases hc
      · rename_i hn
        obtain ⟨hs, hc⟩ := cond_some hc
        have hs := ble_le hs
        split at hc
        · cases hc
        · rename_i l2 h2 w2 hrec
          injection hc with hc; injection hc with e1 hc; injection hc with e2 e3
          subst e1 e2 e3
          have hval : val = .slice none 0 0 := hv.1
          obtain ⟨X1, cv1, H1, G1, a1⟩ := nilRow_ok H hn (e := e) hs
          obtain ⟨X2, cv2, H2, G2, a2⟩ := nilArgs_ok H1 (hv.2.imp fun _ _ => AR3.mono (G1.keep H) G1) hrec
          exact ⟨X2, cv2, H2, G1.trans G2, by rw [hval]; exact a1.mono (G2.keep H1) G2, a2⟩
    · split at hc
      · cases hc
      · rename_i l2 h2 w2 hrec
        injection hc with hc; injection hc with e1 hc; injection hc with e2 e3
        subst e1 e2 e3
        obtain ⟨X2, cv2, H2, G2, a2⟩ := nilArgs_ok H hv.2 hrec
        exact ⟨X2, cv2, H2, G2, hv.1.mono (G2.keep H) G2, a2⟩

section
variable {w w' : World} {X X' : Nat → Prop} {cv cv' : CV} {h h' h0 : Heap} {I : List Nat} {d : Nat}
theorem wkV_ok (hb : ∀ val v, AR0 w X cv h val v → OutL v → AR0 w' X' cv' h' val (backL h0 I d v)) {val : Value} {v v' : AV} (hw : WkV v v') (hv : AR2 w X cv h val v) :
    AR2 w' X' cv' h' val (backV h0 I d v') := by
  rcases hw with hw | ⟨l, l', rfl, rfl, hw⟩
  · have h1 : AR0 w X cv h val v' := by
      rcases hv.parts with hv | ⟨cells, l, rfl, rfl, hc⟩
      · exact hw.ar0 hv
      · rcases hw with ⟨h1, h2 | h2⟩
        · subst h2; exact h1.elim
        · subst h2; trivial
    have h2 := (hb val v' h1 hw.1).to1.to2
    rcases hw with ⟨h3, _⟩
    cases v' <;> first | exact h2 | exact h3.elim
  · obtain ⟨cs, rfl, hcs⟩ := hv
    refine ⟨cs, rfl, ?_⟩
    have e1 := hcs.length
    have e2 := hw.length
    refine All2.of_get (by simp; omega) fun i x y hx hy => ?_
    rw [List.getElem?_map] at hy
    cases hl : l'[i]? with
    | none => rw [hl] at hy; cases hy
    | some y0 =>
      rw [hl] at hy
      injection hy with hy
      subst hy
      have hil : i < l.length := by have := (List.getElem?_eq_some_iff.1 hl).1; omega
      have hwi := All2.get i _ _ hw (List.getElem?_eq_getElem hil) hl
      exact (hb x y0 (hwi.ar0 (All2.get i _ _ hcs hx (List.getElem?_eq_getElem hil))) hwi.1).to1
theorem bareV_ok {val : Value} {v v' : AV} (hw : BareV v v') (hv : AR2 w X cv h val v) : AR2 w' X' cv' h' val (backV h0 I d v') := by
  have hg : ∀ x, backL h0 I d (.t x) = .t x := fun _ => rfl
  rcases hw with ⟨x, rfl, rfl, hx⟩ | ⟨l, l', rfl, rfl, hw⟩
  · exact hx w X w' X' val hv
  · obtain ⟨cs, rfl, hcs⟩ := hv
    refine ⟨cs, rfl, ?_⟩
    have e1 := hcs.length
    have e2 := hw.length
    refine All2.of_get (by simp; omega) fun i x y hx hy => ?_
    rw [List.getElem?_map] at hy
    cases hl : l'[i]? with
    | none => rw [hl] at hy; cases hy
    | some y0 =>
      rw [hl] at hy
      injection hy with hy
      subst hy
      have hil : i < l.length := by have := (List.getElem?_eq_some_iff.1 hl).1; omega
      obtain ⟨z, h1, h2, h3⟩ := All2.get i _ _ hw (List.getElem?_eq_getElem hil) hl
      rw [h1, hg]
      have := All2.get i _ _ hcs hx (List.getElem?_eq_getElem hil)
      rw [h2] at this
      exact h3 w X w' X' x this
end
theorem backR_ok {w w' : World} {X X' : Nat → Prop} {cv cv' : CV} {h h' h0 : Heap} {I : List Nat} {d : Nat} (hb : ∀ val v, AR0 w X cv h val v → OutL v → AR0 w' X' cv' h' val (backL h0 I d v)) {val : Value} {v v' : AV} (hw : WkR v v') (hv : AR3 w X cv h val v) :
    AR3 w' X' cv' h' val (backR h0 I d v') := by
  rcases hw with hw | ⟨l, l', rfl, rfl, hw⟩
  · have hv2 : AR2 w X cv h val v ∨ v' = .dead := by
      rcases hv.parts with hv | ⟨ps, l, rfl, rfl, _⟩
      · exact .inl hv
      · rcases hw with ⟨h1, h2 | h2⟩ | ⟨l, l', h1, _⟩
        · subst h2; exact h1.elim
        · exact .inr h2
        · cases h1
    rcases hv2 with hv2 | rfl
    · have := wkV_ok hb hw hv2
      rcases hw with ⟨h1, _⟩ | ⟨l, l', _, rfl, _⟩
      · cases v' <;> first | exact AR2.to3 this | exact h1.elim
      · exact AR2.to3 this
    · trivial
  · obtain ⟨ps, rfl, hps⟩ := hv
    refine ⟨ps, rfl, ?_⟩
    have e1 := hps.length
    have e2 := hw.length
    refine All2.of_get (by simp; omega) fun i x y hx hy => ?_
    rw [List.getElem?_map] at hy
    cases hl : l'[i]? with
    | none => rw [hl] at hy; cases hy
    | some y0 =>
      rw [hl] at hy
      injection hy with hy
      subst hy
      have hil : i < l.length := by have := (List.getElem?_eq_some_iff.1 hl).1; omega
      exact wkV_ok hb (All2.get i _ _ hw (List.getElem?_eq_getElem hil) hl) (All2.get i _ _ hps hx (List.getElem?_eq_getElem hil))
theorem backR_bare {w w' : World} {X X' : Nat → Prop} {cv cv' : CV} {h h' h0 : Heap} {I : List Nat} {d : Nat} {val : Value} {v v' : AV} (hw : BareR v v') (hv : AR3 w X cv h val v) : AR3 w' X' cv' h' val (backR h0 I d v') := by
  rcases hw with hw | ⟨l, l', rfl, rfl, hw⟩
  · have hv2 : AR2 w X cv h val v := by
      rcases hv.parts with hv | ⟨ps, l, rfl, rfl, _⟩
      · exact hv
      · rcases hw with ⟨x, _, h2, _⟩ | ⟨l, l', h1, _⟩
        · cases h2
        · cases h1
    have := bareV_ok (w' := w') (X' := X') (cv' := cv') (h' := h') (h0 := h0) (I := I) (d := d) hw hv2
    rcases hw with ⟨x, rfl, _⟩ | ⟨l, l', _, rfl, _⟩
    · exact AR2.to3 this
    · exact AR2.to3 this
  · obtain ⟨ps, rfl, hps⟩ := hv
    refine ⟨ps, rfl, ?_⟩
    have e1 := hps.length
    have e2 := hw.length
    refine All2.of_get (by simp; omega) fun i x y hx hy => ?_
    rw [List.getElem?_map] at hy
    cases hl : l'[i]? with
    | none => rw [hl] at hy; cases hy
    | some y0 =>
      rw [hl] at hy
      injection hy with hy
      subst hy
      have hil : i < l.length := by have := (List.getElem?_eq_some_iff.1 hl).1; omega
      exact bareV_ok (All2.get i _ _ hw (List.getElem?_eq_getElem hil) hl) (All2.get i _ _ hps hx (List.getElem?_eq_getElem hil))

section
variable {P : Program} {cx : Cx} {β : Type} {r : β}
theorem Go1.more {wr wr' w X cv h w' X' cv' h'} (G : Go1 wr w X cv h w' X' cv' h') (hs : ∀ k, k ∈ wr → k ∈ wr') : Go1 wr' w X cv h w' X' cv' h' := ⟨G.size, G.blk, G.xold, G.xkeep, G.own, G.ent, fun k hk => G.wr k fun hm => hk (hs k hm)⟩
theorem callK_ok {C : CallF} (hC : CallOk P C) {base wb w X cv h0} (H : HRel base wb w X cv h0) {d : Nat} {ty f : Nat} {vals : List Value} {args0 : List AV} (hv : All2 (AR3 w X cv h0) vals args0) {k : OpK β} (hk : callK cx C d ty f args0 h0 k = some r) :
    ∃ v h' rd wr, k v h' rd wr = some r ∧ Calls P f vals.toArray w fun e w' => ∃ val X' cv', e = .returned val ∧ HRel base wb w' X' cv' h' ∧ Go1 wr w X cv h0 w' X' cv' h' ∧ AR3 w' X' cv' h' val v := by
  unfold callK at hk
  split at hk
  · cases hk
  · rename_i args h w0 hn
    obtain ⟨X0, cv0, H0, G0, hv0⟩ := nilArgs_ok H hv hn
    split at hk
    · cases hk
    · rename_i args1 i1 b1 ha
      split at hk
      · cases hk
      · rename_i h1 I b2 he
        cases hm : meet (b1 ++ b2) I with
        | true => rw [hm] at hk; cases hk
        | false =>
          rw [hm] at hk
          simp only [cond_false] at hk
          cases hp : C f args1 h1 with
          | none => rw [hp] at hk; cases hk
          | some p =>
            rw [hp] at hk
            simp only [Option.bind_some] at hk
            obtain ⟨r', hk, hw, hbare⟩ := decR_ok hk
            obtain ⟨es, hk, l1, l2, l3⟩ := decEs_ok hk
            obtain ⟨hf, hk⟩ := cond_some hk
            obtain ⟨D, H1, hargs⟩ := conv_ok H0 hv0 ha he hm
            obtain ⟨s1, s2, s3⟩ := convEnts_seq he (Nat.zero_le _) (convEnts_seq.convEnts_len he)
            obtain ⟨t1, t2⟩ := shEnts_get s3
            generalize hsp : (asc cx.ret f).getD (cx.shR ty, []) = sp at *
            have hlen : (shEnts h1 ++ sp.2).length = I.length + sp.2.length := by rw [List.length_append, t1]; omega
            have K : ∀ cv2, Back h (mutKeys ((asc cx.own f).getD []) 0 args) I (b1 ++ b2) d sp.2.length p.2 cv2 es (shEnts h1 ++ sp.2) := by
              intro cv2
              refine ⟨by rw [l1, hlen], hlen, fun j s hj => ?_, fun j e hj => ?_, fun i hi => ?_, fun j kk hj => ?_⟩
              · obtain ⟨e, e', g1, g2, g3⟩ := l2 j s hj
                rw [Nat.zero_add] at g1
                exact ⟨e, e', g1, g2, g3⟩
              · have := (l3 j e hj).2
                rw [Nat.zero_add, hlen] at this
                exact this
              · have := freshAll_ok hf i hi
                rwa [Nat.zero_add] at this
              · have hjl : j < h1.length := by have := (List.getElem?_eq_some_iff.1 hj).1; omega
                obtain ⟨kq, e⟩ : Nat × Ent := h1[j]
                have hget : h1[j]? = some h1[j] := List.getElem?_eq_getElem hjl
                generalize h1[j] = q at hget
                obtain ⟨kq, e⟩ := q
                obtain ⟨g1, g2⟩ := seq_look s1 j kq e hget
                rw [Nat.zero_add] at g2
                obtain ⟨s, g3, g4⟩ := t2 j kq e hget
                have g5 : (shEnts h1 ++ sp.2)[j]? = some s := by rw [List.getElem?_append_left (by rw [t1]; exact hjl)]; exact g3
                rcases D.ent j kk hj with ⟨v, sz, t, rows, q1, q2⟩ | ⟨sh, cells, c1, q1, q2⟩ | ⟨ml, q1, q2⟩
                · rw [g2] at q2
                  injection q2 with q2
                  subst q2
                  simp only [ShOf] at g4
                  subst g4
                  exact .inl ⟨_, _, _, _, q1, g5⟩
                · rw [g2] at q2
                  injection q2 with q2
                  subst q2
                  obtain ⟨l, rfl⟩ := g4
                  exact .inr (.inl ⟨_, _, l, q1, g5⟩)
                · rw [g2] at q2
                  injection q2 with q2
                  subst q2
                  simp only [ShOf] at g4
                  subst g4
                  exact .inr (.inr ⟨_, q1, g5⟩)
            have hcall := hC f args1 h1 p hp base wb w _ _ vals H1 hargs
            split at hk
            · rename_i hsc hsp2
              -- nothing went along, and what came is bare
              obtain ⟨hsc1, hsc2⟩ : sp.1.scalar = true ∧ Nat.beq I.length 0 = true := by
                cases hs1 : sp.1.scalar with
                | true => rw [hs1] at hsc; exact ⟨rfl, hsc⟩
                | false => rw [hs1] at hsc; cases hsc
              have hI0 : I = [] := List.eq_nil_of_length_eq_zero (beq_eq hsc2)
              refine ⟨_, _, _, _, hk, hcall.mono fun e w2 hh => ?_⟩
              obtain ⟨val, X2, cv2, rfl, H2, a2, GF⟩ := hh
              have nomof : ∀ b, ¬ Mof h1 (cv1of cv0 I) b := by
                intro b hm
                obtain ⟨j, kk, e0, g1, _⟩ := D.mof hm
                rw [hI0] at g1
                simp at g1
              have go : Go1 [] w X0 cv0 h w2 (fun b => X2 b ∨ ∃ kk, kk ∈ b1 ++ b2 ∧ (cv0 kk).ownBlock = some b) cv0 h := by
                refine ⟨GF.size, fun b hb _ => GF.blk b hb (nomof b), fun b hb hx => ?_, fun b hb hx _ => ?_, fun b _ hm => hm, fun k e hl => ⟨e, hl, .refl e, fun _ => rfl, fun _ => rfl⟩, fun _ _ => ⟨rfl, rfl⟩⟩
                · rcases hx with hx | ⟨kk, hk, hb'⟩
                  · exact (GF.xold b hb hx).1
                  · obtain ⟨v, s, e, rows, hl⟩ := D.lent kk hk
                    exact H0.mx ⟨kk, _, hl, by simpa [mblk] using hb'⟩
                · by_cases hl : ∃ kk, kk ∈ b1 ++ b2 ∧ (cv0 kk).ownBlock = some b
                  · exact .inr hl
                  · exact .inl (GF.xkeep b hb ⟨hx, fun kk hk hbk => hl ⟨kk, hk, hbk⟩⟩ (nomof b))
              have hlentX : ∀ b, (∃ kk, kk ∈ b1 ++ b2 ∧ (cv0 kk).ownBlock = some b) → X0 b := by
                rintro b ⟨kk, hk, hb'⟩
                obtain ⟨v, s, e, rows, hl⟩ := D.lent kk hk
                exact H0.mx ⟨kk, _, hl, by simpa [mblk] using hb'⟩
              refine ⟨val, _, _, rfl, ?_, (G0.trans go).more (by simp), backR_bare (hbare hsc1) a2⟩
              refine ⟨H2.below, H2.bsz, fun b hx => ?_, fun k e hl => (H0.ent k e hl).mono H0 go rfl fun b hb => ?_, H0.sep⟩
              · rcases hx with hx | hx
                · exact H2.xge b hx
                · have := H0.xge b (hlentX b hx)
                  have := GF.size
                  omega
              · have hx := H0.mx ⟨k, e, hl, hb⟩
                have hlt := (H0.xge b hx).2
                exact ⟨GF.blk b hlt (nomof b), go.xkeep b hlt hx |> fun hh => by
                  by_cases hl' : ∃ kk, kk ∈ b1 ++ b2 ∧ (cv0 kk).ownBlock = some b
                  · exact .inr hl'
                  · exact .inl (GF.xkeep b hlt ⟨hx, fun kk hk hbk => hl' ⟨kk, hk, hbk⟩⟩ (nomof b))⟩
            · refine ⟨_, _, _, _, hk, hcall.mono fun e w2 hh => ?_⟩
              obtain ⟨val, X2, cv2, rfl, H2, a2, GF⟩ := hh
              obtain ⟨q1, q2, q3⟩ := back_ok H0 D (K cv2) H2 GF H1
              refine ⟨val, _, _, rfl, q1, (G0.trans q2).more ?_, backR_ok q3 hw a2⟩
              intro k hk
              simp only [List.mem_append] at hk ⊢
              rcases hk with hk | (hk | hk) | hk | hk <;> simp [hk]
end
end Go.AS
