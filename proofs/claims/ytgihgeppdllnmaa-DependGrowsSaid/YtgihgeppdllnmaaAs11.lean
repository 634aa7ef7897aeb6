/- AS, part 11: literals. -/
import Derived.Test.YtgihgeppdllnmaaAs10
namespace Go.AS
open Go.RowKit
set_option linter.all false

theorem fold_set (off : Nat) : ∀ (l : List Value) (k : Nat) (cs : Array Value), ((l.zipIdx k).foldl (fun cs p => cs.setIfInBounds (off + p.2) p.1) cs).toList = setCells cs.toList (off + k) l
  | [], k, cs => rfl
  | x :: l, k, cs => by
    simp only [List.zipIdx_cons, List.foldl_cons]
    rw [fold_set off l (k + 1) _, Array.toList_setIfInBounds]
    simp only [setCells, setN_set]
    rfl
theorem fill_step (place : Nat → Option (Nat × Nat)) (cells : Array Value) (i : Nat) (v : Value) (rest : List (Nat × Value)) {off size : Nat} (hp : place i = some (off, size)) (hs : v.cells.size = size) (ho : off + size ≤ cells.size) :
    Instr.fill place cells ((i, v) :: rest) = Instr.fill place (setCells cells.toList off v.cells.toList).toArray rest := by
  have h1 : ¬ (v.cells.size ≠ size ∨ off + v.cells.size > cells.size) := by omega
  simp only [Instr.fill, hp]
  rw [if_neg (by simpa using h1)]
  congr 1
  apply Array.ext'
  rw [← Array.foldl_toList, Array.toList_zipIdx, fold_set off]
  rfl
def PartsR (w : World) (X : Nat → Prop) (cv : CV) (h : Heap) : List (Nat × Value) → List (Nat × AV) → Prop := All2 fun p q => p.1 = q.1 ∧ AR3 w X cv h p.2 q.2
theorem parts_ok {w X cv h} {cx : Cx} {s : St} {a : Act} (hs : All2 (AR3 w X cv h) a.tmps.toList s.slots) (ty : Nat → TypeId) : ∀ (ps : List (Nat × Operand)), PartsR w X cv h (ps.map fun p => (p.1, a.eval p.2)) (parts cx s ty ps)
  | [] => trivial
  | (i, x) :: ps => ⟨⟨rfl, opdT_ok hs _ x⟩, parts_ok hs ty ps⟩
theorem fillParts_ok {w X cv h} {place : Nat → Nat × Nat} {mp : Nat → Option (Nat × Nat)} (hmp : ∀ i, 1 ≤ (place i).2 → mp i = some (place i)) : ∀ {ps : List (Nat × Value)} {qs : List (Nat × AV)} {cs : Array Value} {cells cells' : List AV},
    PartsR w X cv h ps qs → All2 (AR1 w X cv h) cs.toList cells → fillParts place cells qs = some cells' → ∃ cs', Instr.fill mp cs ps = some cs' ∧ All2 (AR1 w X cv h) cs'.toList cells'
  | [], [], cs, cells, cells', _, hc, hf => by
    simp only [fillParts] at hf
    injection hf with hf
    subst hf
    exact ⟨cs, rfl, hc⟩
  | (i, v) :: ps, (j, q) :: qs, cs, cells, cells', hp, hc, hf => by
    simp only [fillParts] at hf
    obtain ⟨h1, hf⟩ := cond_some hf
    obtain ⟨h2, hf⟩ := cond_some hf
    obtain ⟨h3, hf⟩ := cond_some hf
    obtain ⟨h4, hf⟩ := cond_some hf
    have h1 := ble_le h1
    have h3 := beq_eq h3
    have h4 := ble_le h4
    obtain ⟨⟨hij, hv⟩, hp⟩ := hp
    simp only at hij hv
    subst hij
    obtain ⟨g1, g2⟩ := cells_ok hv h2
    have hl := hc.length
    have hl1 := g1.length
    simp only [Array.length_toList] at hl hl1
    obtain ⟨cs', q1, q2⟩ := fillParts_ok (mp := mp) hmp (cs := (setCells cs.toList (place i).1 v.cells.toList).toArray) hp (All2.setCells hc g1 (by simp; omega)) hf
    exact ⟨cs', by rw [fill_step mp cs i v ps (hmp i h1) (by omega) (by omega)]; exact q1, q2⟩

section
variable {P : Program} {cx : Cx} (hcx : CxOk P cx)
include hcx
theorem build_ok {w X cv h} {t : TypeId} {ps : Array (Nat × Value)} {qs : List (Nat × AV)} {cells : List AV} (hz : 1 ≤ (cx.tyi t).zero.length)
    (hk : (∃ fs, (cx.tyi t).kind = .struct fs ∧ PartsR w X cv h ps.toList qs ∧ fillParts (fieldPl cx fs) ((cx.tyi t).zero.map ZC.av) qs = some cells) ∨
      (∃ n e, (cx.tyi t).kind = .arr n e ∧ 1 ≤ cx.sz e ∧ PartsR w X cv h ps.toList qs ∧ fillParts (fun i => (i * cx.sz e, cx.sz e)) ((cx.tyi t).zero.map ZC.av) qs = some cells)) :
    ∃ val, (Instr.build t ps).run P w = .ok val w ∧ AR3 w X cv h val (.agg cells) := by
  have hkn : (cx.tyi t).kind ≠ .other := by rcases hk with ⟨fs, h, _⟩ | ⟨n, e, h, _⟩ <;> rw [h] <;> simp
  have hkind := hcx.kind t
  obtain ⟨inf, hi, hsz, hby, hzero⟩ := (hcx.at (t := t) (.inl hkn)).info
  obtain ⟨hzl, z, hz, hzs⟩ := hzero (by intro h0; rw [h0] at hz; simp at hz)
  have hz0 : All2 (AR1 w X cv h) z.cells.toList ((cx.tyi t).zero.map ZC.av) := All2.map_r _ (hzs.imp fun a b hb => (hb w X cv h).1)
  rcases hk with ⟨fs, he, hps, hf⟩ | ⟨n, e, he, hpos, hps, hf⟩
  · rw [he] at hkind
    obtain ⟨fs', hu, hfs, hall⟩ := hkind
    have hm : ∃ places, fs'.toList.mapM (fun f => (P.info? f.type).map fun i => (f.offset, i.size)) = some places ∧ ∀ (i : Nat) (fd : Field) inf, fs'.toList[i]? = some fd → P.info? fd.type = some inf → places[i]? = some (fd.offset, inf.size) := by
      generalize fs'.toList = l at hall
      induction l with
      | nil => exact ⟨[], rfl, by simp⟩
      | cons a l ih =>
        obtain ⟨pl, h1, h2⟩ := ih fun f hf => hall f (by simp [hf])
        obtain ⟨ia, hia⟩ := Option.isSome_iff_exists.1 (hall a (by simp))
        refine ⟨(a.offset, ia.size) :: pl, by simp [List.mapM_cons, hia, h1], fun i fd inf hi hinf => ?_⟩
        cases i with
        | zero => simp at hi; subst hi; rw [hia] at hinf; injection hinf with hinf; simp [hinf]
        | succ i => simp at hi ⊢; exact h2 i fd inf hi hinf
    obtain ⟨places, hm1, hm2⟩ := hm
    obtain ⟨cs', q1, q2⟩ := fillParts_ok (mp := (places.toArray[·]?)) (fun i hi => by
      obtain ⟨hl, hpl⟩ := fieldPl_ok hi
      obtain ⟨fd, g1, g2⟩ := field_at hfs hl
      rw [hpl, g2] at hi ⊢
      obtain ⟨inf, hinf, hinf2, _⟩ := hcx.size (t := fd.type) (.inr hi)
      have := hm2 i fd inf (by simpa using g1) hinf
      simpa [hinf2] using this) hps hz0 hf
    refine ⟨.agg cs', run_build w t ps cs' ?_, cs'.toList, by simp, q2⟩
    unfold Program.built
    simp only [hi, hu, hz, hm1]
    exact q1
  · rw [he] at hkind
    have hu' : P.underlying t = some (.array n e) := hkind
    obtain ⟨ie, hie, hie2, _⟩ := hcx.size (t := e) (.inr hpos)
    obtain ⟨cs', q1, q2⟩ := fillParts_ok (mp := fun i => some (i * ie.size, ie.size)) (fun i _ => by rw [hie2]) hps hz0 hf
    refine ⟨.agg cs', run_build w t ps cs' ?_, cs'.toList, by simp, q2⟩
    unfold Program.built
    simp only [hi, hu', hz, hie]
    exact q1

omit hcx in
theorem litRows_ok {base wb w cv} {s : Nat} (hs : 1 ≤ s) : ∀ {ps : List (Nat × Value)} {qs : List (Nat × AV)} {X : Nat → Prop} {h : Heap} {cs : Array Value} {rows rows' : List (List T)} {h1 : Heap} {w1 : List Nat} (H : HRel base wb w X cv h), PartsR w X cv h ps qs →
    cs.size = rows.length * s → RowsR w X s cs.toList rows → litRows h s rows qs = some (rows', h1, w1) →
    ∃ X1 cs', Instr.fill (fun i => some (i * s, s)) cs ps = some cs' ∧ HRel base wb w X1 cv h1 ∧ Go1 w1 w X cv h w X1 cv h1 ∧ cs'.size = cs.size ∧ rows'.length = rows.length ∧ RowsR w X1 s cs'.toList rows'
  | [], [], X, h, cs, rows, rows', h1, w1, H, _, hsz, hr, hk => by
    simp only [litRows] at hk
    injection hk with hk; injection hk with e1 hk; injection hk with e2 e3
    subst e1 e2 e3
    exact ⟨X, cs, rfl, H, .refl .., rfl, rfl, hr⟩
  | (i, v) :: ps, (j, q) :: qs, X, h, cs, rows, rows', h1, w1, H, hp, hsz, hr, hk => by
    simp only [litRows] at hk
    obtain ⟨c1, hk⟩ := cond_some hk
    obtain ⟨c2, hk⟩ := cond_some hk
    have c1 := beq_eq c1
    have c2 : j < rows.length := by simpa [Nat.blt_eq] using c2
    obtain ⟨⟨hij, hv⟩, hp⟩ := hp
    simp only at hij hv
    subst hij
    split at hk
    · cases hk
    · rename_i xs ha wa hst
      split at hk
      · cases hk
      · rename_i r2 h2 w2 hrest
        injection hk with hk; injection hk with e1 hk; injection hk with e2 e3
        subst e1 e2 e3
        obtain ⟨g1, g2⟩ := cells_ok hv (strip1s_storable hst)
        have hl0 := strip1s_length hst
        have hl1 := g1.length
        simp only [Array.length_toList] at hl1
        obtain ⟨X1, H1, G1, t1⟩ := strip1s_ok H g1 hst
        have hfit : i * s + s ≤ cs.size := by
          rw [hsz]
          have := Nat.mul_le_mul_right s (show i + 1 ≤ rows.length from c2)
          rw [Nat.add_mul] at this
          omega
        have hr1 := (hr.mono (G1.keep H)).setCells (i0 := i) (off := 0) t1 (by omega) c2 (by simp; omega)
        have hrow : setCells (nth [] rows i) 0 xs = xs := by
          have hl : (nth [] rows i).length = s := (hr i _ (nth_of [] c2)).1
          rw [setCells_spec 0 xs _ (by omega)]
          simp [List.drop_eq_nil_of_le (show (nth [] rows i).length ≤ xs.length by omega)]
        rw [hrow, Nat.add_zero] at hr1
        have hlen : (setN rows i xs).length = rows.length := by rw [setN_set]; simp
        have hsz1 : (setCells cs.toList (i * s) v.cells.toList).toArray.size = (setN rows i xs).length * s := by
          rw [hlen, List.size_toArray, setCells_length (by simp; omega)]
          simpa using hsz
        obtain ⟨X2, cs', q1, q2, q3, q4, q5, q6⟩ := litRows_ok hs H1 (hp.imp fun a b hab => ⟨hab.1, hab.2.mono (G1.keep H) G1⟩) hsz1 (by simpa using hr1) hrest
        refine ⟨X2, cs', by rw [fill_step _ cs i v ps rfl (by omega) (by omega)]; exact q1, q2, G1.trans q3, ?_, by rw [q5, hlen], q6⟩
        rw [q4, hsz1, hlen, hsz]
omit hcx in
theorem zero_rows {w X} {z : Value} {zs : List ZC} {s : Nat} (hs : 1 ≤ s) (hz : z.cells.size = s) (h : All2 ZOk z.cells.toList zs) (n : Nat) : RowsR w X s (madeCells z.cells (n * s)).toList (rep (zs.map ZC.tt) n) := by
  intro j r hj
  rw [rep_replicate, List.getElem?_replicate] at hj
  split at hj
  · rename_i hjn
    injection hj with hj
    subst hj
    have hl := h.length
    simp only [Array.length_toList] at hl
    refine ⟨by simp; omega, fun i x hi => ?_⟩
    have his : i < s := by have := (List.getElem?_eq_some_iff.1 hi).1; simp at this; omega
    rw [List.getElem?_map] at hi
    have h1 : j * s + i < n * s := by
      have := Nat.mul_le_mul_right s (show j + 1 ≤ n from hjn)
      rw [Nat.add_mul] at this
      omega
    have h3 : (j * s + i) % s = i := by rw [Nat.mul_comm, Nat.mul_add_mod, Nat.mod_eq_of_lt his]
    have hiz : i < z.cells.size := by omega
    refine ⟨z.cells[i], ?_, ?_⟩
    · simp only [madeCells, Array.toList_map, Array.toList_range, List.getElem?_map, List.getElem?_range h1, Option.map_some, hz, h3]
      rw [getElem!_pos z.cells i hiz]
    · cases hzi : zs[i]? with
      | none => rw [hzi] at hi; cases hi
      | some zc =>
        rw [hzi] at hi
        injection hi with hi
        subst hi
        exact (All2.get i _ _ h (by simp [hiz]) hzi w X (fun _ => undef) []).2
  · cases hj
omit hcx in
/-- A new row of one's own. -/
theorem newRow_ok {base wb w X cv h} (H : HRel base wb w X cv h) {kk : Nat} (hn : look h kk = none) {e : TypeId} {s n cap : Nat} (hs : 1 ≤ s) {cs : Array Value} {rows : List (List T)} (hcap : n ≤ cap) (hm : cap ≤ maxLen) (hsz : cs.size = cap * s) (hl : rows.length = n) (hr : RowsR w X s cs.toList rows) :
    ∃ X' cv', HRel base wb (w.alloc (.cells cs e)) X' cv' (upd h kk (.row 1 s e rows)) ∧ Go1 [kk] w X cv h (w.alloc (.cells cs e)) X' cv' (upd h kk (.row 1 s e rows)) ∧
      AR3 (w.alloc (.cells cs e)) X' cv' (upd h kk (.row 1 s e rows)) (.slice (some ⟨w.heap.size, 0, none⟩) n cap) (.rowp kk 1 none) := by
  have hsize : w.heap.size ≤ (w.alloc (.cells cs e)).heap.size := by simp
  have hnew : ∀ b, mblk (setCV cv kk (.slice (some ⟨w.heap.size, 0, none⟩) n cap)) kk (.row 1 s e rows) = some b → w.heap.size ≤ b ∧ b < (w.alloc (.cells cs e)).heap.size := by
    intro b hb
    simp [mblk, setCV_same, Value.ownBlock] at hb
    subst hb
    simp
  have G := H.addGo (e := .row 1 s e rows) (c := .slice (some ⟨w.heap.size, 0, none⟩) n cap) hn hsize (heap_old w _) fun b hb => (hnew b hb).1
  refine ⟨_, _, H.add hn hsize (heap_old w _) ⟨rfl, rfl, rfl⟩ hnew ?_, G, ?_⟩
  · refine ⟨cs.toList.take (n * s), ⟨?_, .inr ⟨w.heap.size, cap, cs, ?_, Nat.zero_le _, heap_alloc_new w _, ?_, hm, hsz, ?_⟩⟩, fun b hb => .inr ?_, ?_, hs⟩
    · rw [List.length_take, Array.length_toList, hsz, hl]
      have := Nat.mul_le_mul_right s hcap
      omega
    · rw [setCV_same, hl]
    · rw [hl]; exact hcap
    · rw [hl]
    · simpa [mblk] using hb
    · have h2 := (hr.mono (G.keep H)).take n
      rwa [List.take_of_length_le (show rows.length ≤ n by omega)] at h2
  · exact ⟨⟨_, _, _, rfl⟩, _, 1, look_upd_same .., rfl, Nat.le_refl _, fun _ => by simp [CutOf, setCV_same]⟩
theorem buildSlice_ok {base wb w X cv h} (H : HRel base wb w X cv h) {t e : TypeId} {len kk : Nat} {ps : Array (Nat × Value)} {qs : List (Nat × AV)} (he : (cx.tyi t).kind = .slice e) (hz : 1 ≤ (cx.tyi e).zero.length) (hlim : len * cx.sz e ≤ 16777216) (hps : PartsR w X cv h ps.toList qs)
    {rows : List (List T)} {h1 : Heap} {w1 : List Nat} (hk : litRows h (cx.sz e) (rep ((cx.tyi e).zero.map ZC.tt) len) qs = some (rows, h1, w1)) (hn : look h1 kk = none) :
    ∃ val w' X' cv', (Instr.buildSlice t len ps).run P w = .ok val w' ∧ HRel base wb w' X' cv' (upd h1 kk (.row 1 (cx.sz e) e rows)) ∧ Go1 (kk :: w1) w X cv h w' X' cv' (upd h1 kk (.row 1 (cx.sz e) e rows)) ∧ AR3 w' X' cv' (upd h1 kk (.row 1 (cx.sz e) e rows)) val (.rowp kk 1 none) := by
  have hkind := hcx.kind t
  rw [he] at hkind
  have hkind : P.underlying t = some (.slice e) := hkind
  have hzn : (cx.tyi e).zero ≠ [] := by intro h0; rw [h0] at hz; simp at hz
  have hpos : 1 ≤ cx.sz e := by
    rcases tyi_cases cx e with h0 | h0
    · obtain ⟨inf, _, hsz, _, hzero⟩ := (hcx.ty e _ h0).info
      have := (hzero hzn).1
      unfold Cx.sz
      omega
    · rw [h0] at hzn; exact absurd rfl hzn
  obtain ⟨inf, hi, hsz, hby, hzero⟩ := (hcx.at (t := e) (.inr hpos)).info
  obtain ⟨hzl, z, hz, hzs⟩ := hzero hzn
  have hzsz : z.cells.size = cx.sz e := by have := hzs.length; simp at this; unfold Cx.sz; omega
  have hsz : inf.size = cx.sz e := hsz
  have hrl : (rep ((cx.tyi e).zero.map ZC.tt) len).length = len := by rw [rep_replicate]; simp
  obtain ⟨X1, cs', q1, q2, q3, q4, q5, q6⟩ := litRows_ok hpos H hps (cs := madeCells z.cells (len * cx.sz e)) (by rw [size_madeCells, hrl]) (zero_rows hpos hzsz hzs len) hk
  rw [size_madeCells] at q4
  rw [hrl] at q5
  have hlen : len ≤ 16777216 := Nat.le_trans (Nat.le_mul_of_pos_right len hpos) hlim
  obtain ⟨X2, cv2, p1, p2, p3⟩ := newRow_ok q2 (e := e) hn hpos (Nat.le_refl len) (by simp only [maxLen]; omega) q4 q5 q6
  have hG := q3.trans p2
  refine ⟨_, _, X2, cv2, ?_, p1, ⟨hG.size, hG.blk, hG.xold, hG.xkeep, hG.own, hG.ent, fun k hk => hG.wr k (by simp at hk ⊢; exact ⟨hk.2, hk.1⟩)⟩, p3⟩
  by_cases h0 : len * cx.sz e = 0
  · have hlen0 : len = 0 := by
      rcases Nat.mul_eq_zero.1 h0 with h | h
      · exact h
      · omega
    subst hlen0
    have hm0 : madeCells z.cells (0 * cx.sz e) = #[] := by simp [madeCells]
    rw [hm0] at q1
    simp [Instr.buildSlice, run_underlying hkind, run_size hi, hsz, Array.range_zero', q1, newRow]
  · refine run_buildSlice w t e len ps cs' inf z hkind hi hz (by rw [hsz]; omega) (by rw [hsz]; exact h0) ?_
    rw [hsz]
    exact q1
theorem makeSlice_ok {base wb w X cv h} (H : HRel base wb w X cv h) {t e : TypeId} {kk : Nat} (he : (cx.tyi t).kind = .slice e) (hz : 1 ≤ (cx.tyi e).zero.length) (hbp : 1 ≤ (cx.tyi e).bytes) {j1 j2 : IntKind} {n m : Int} (h0 : 0 ≤ n) (h1 : n ≤ m) (h2 : m ≤ (lim (cx.tyi e).bytes : Nat)) (hn : look h kk = none) :
    ∃ val w' X' cv', (Instr.makeSlice t (.int j1 n) (.int j2 m)).run P w = .ok val w' ∧ HRel base wb w' X' cv' (upd h kk (.row 1 (cx.sz e) e (rep ((cx.tyi e).zero.map ZC.tt) n.toNat))) ∧ Go1 [kk] w X cv h w' X' cv' (upd h kk (.row 1 (cx.sz e) e (rep ((cx.tyi e).zero.map ZC.tt) n.toNat))) ∧
      AR3 w' X' cv' (upd h kk (.row 1 (cx.sz e) e (rep ((cx.tyi e).zero.map ZC.tt) n.toNat))) val (.rowp kk 1 none) := by
  have hkind := hcx.kind t
  rw [he] at hkind
  have hkind : P.underlying t = some (.slice e) := hkind
  have hzn : (cx.tyi e).zero ≠ [] := by intro h0; rw [h0] at hz; simp at hz
  have hpos : 1 ≤ cx.sz e := by
    rcases tyi_cases cx e with h0 | h0
    · obtain ⟨inf, _, hsz, _, hzero⟩ := (hcx.ty e _ h0).info
      have := (hzero hzn).1
      unfold Cx.sz
      omega
    · rw [h0] at hzn; exact absurd rfl hzn
  obtain ⟨inf, hi, hsz, hby, hzero⟩ := (hcx.at (t := e) (.inr hpos)).info
  obtain ⟨hzl, z, hz, hzs⟩ := hzero hzn
  have hzsz : z.cells.size = cx.sz e := by have := hzs.length; simp at this; unfold Cx.sz; omega
  have hsz : inf.size = cx.sz e := hsz
  have hm : m.toNat ≤ lim (cx.tyi e).bytes := by omega
  have hb := lim_ok hm
  have hb2 : m.toNat * 1 ≤ m.toNat * (cx.tyi e).bytes := Nat.mul_le_mul_left _ hbp
  have hbi : (inf.bytes : Int) * m ≤ 281474976710656 := by
    rw [hby]
    have e1 : ((cx.tyi e).bytes : Int) * m = ((m.toNat * (cx.tyi e).bytes : Nat) : Int) := by
      rw [Int.natCast_mul, Int.toNat_of_nonneg (by omega), Int.mul_comm]
    rw [e1]
    omega
  have hrun := run_make (P := P) w t e inf z hkind hi hz j1 j2 n m h0 h1 hbi (by omega)
  rw [hsz] at hrun
  obtain ⟨X2, cv2, p1, p2, p3⟩ := newRow_ok H (e := e) (n := n.toNat) (cap := m.toNat) (cs := madeCells z.cells (m.toNat * cx.sz e)) (rows := rep ((cx.tyi e).zero.map ZC.tt) n.toNat) hn hpos (by omega) (by simp only [maxLen]; omega) (size_madeCells _ _) (by rw [rep_replicate]; simp) (by
    have := (zero_rows (w := w) (X := X) hpos hzsz hzs m.toNat)
    intro j r hj
    refine this j r ?_
    rw [rep_replicate, List.getElem?_replicate] at hj ⊢
    split at hj
    · rw [if_pos (by omega)]; exact hj
    · cases hj)
  exact ⟨_, _, X2, cv2, hrun, p1, p2, p3⟩
end
end Go.AS
