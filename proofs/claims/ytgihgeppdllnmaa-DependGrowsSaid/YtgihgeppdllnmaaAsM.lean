/- AS: maps of texts whose values are all true; a text out of bytes; what nil slices in boxes become. -/
import Derived.Test.YtgihgeppdllnmaaAs15
import Derived.MapKept
import Derived.WideLaws
import Derived.Laws.BytesString
namespace Go.AS
open Go.RowKit Go.MapKept
set_option linter.all false

theorem memS_iff : ∀ (l : List Str) (s : Str), memS l s = true ↔ s ∈ l
  | [], s => by simp [memS]
  | x :: l, s => by
    simp only [memS]
    by_cases h : x = s
    · subst h; simp
    · have hb : (x == s) = false := by rw [beq_eq_false_iff_ne]; exact h
      rw [hb, cond_false, memS_iff l s]
      simp [Ne.symm h]
theorem entries_mem : ∀ {es : List MapEntry} {l : List Str}, All2 EntryR es l → ∀ (s : ByteArray), s.data.toList ∈ l ↔ ∃ e ∈ es, e.key = .string s
  | [], [], _, s => by simp
  | e :: es, a :: l, h, s => by
    obtain ⟨s', h1, h2, h3⟩ := h.1
    have ih := entries_mem h.2 s
    simp only [List.mem_cons, exists_eq_or_imp, ih, h1]
    constructor
    · rintro (h4 | h4)
      · left
        rw [← h2] at h4
        have : s = s' := by
          obtain ⟨⟨x⟩⟩ := s
          obtain ⟨⟨y⟩⟩ := s'
          simpa using h4
        rw [this]
      · exact .inr h4
    · rintro (h4 | h4)
      · injection h4 with h4
        subst h4
        exact .inl h2
      · exact .inr h4
theorem entries_key {es : List MapEntry} {l : List Str} (h : All2 EntryR es l) : ∀ x ∈ es, IsKey .string x.key ∧ x.val = .bool true := by
  intro x hx
  obtain ⟨i, hi⟩ := List.mem_iff_getElem?.1 hx
  have hl := h.length
  have hlt := (List.getElem?_eq_some_iff.1 hi).1
  obtain ⟨s, h1, _, h3⟩ := All2.get i x _ h hi (List.getElem?_eq_getElem (by omega : i < l.length))
  exact ⟨by rw [h1]; trivial, h3⟩

section
variable {P : Program} {cx : Cx} (hcx : CxOk P cx)
include hcx
theorem lookup_ok {w : World} {t kt et : TypeId} (he : (cx.tyi t).kind = .map kt et) {b : Nat} {es : Array MapEntry} {clock : Nat} (hb : w.heap[b]? = some (.map es clock)) {l : List Str} (hes : All2 EntryR es.toList l) (s : ByteArray) :
    (Instr.lookup t (.map (some b)) (.string s) false).run P w = .ok (.bool (memS l s.data.toList)) w := by
  have hk := hcx.kind t
  rw [he] at hk
  obtain ⟨hu, hks, inf, hi, hz⟩ := hk
  have hkey : IsKey .string (.string s) := trivial
  have hck := run_checkKey (P := P) (w := w) hks hkey es.isEmpty 9999
  have hkeys := fun x hx => (entries_key hes x hx).1
  rcases findNow_spec hkey es.toList 0 hkeys with ⟨h1, h2⟩ | ⟨j, e, h1, h2, h3⟩
  · have hm : memS l s.data.toList = false := by
      cases hm : memS l s.data.toList with
      | false => rfl
      | true =>
        obtain ⟨e, he1, he2⟩ := (entries_mem hes s).1 ((memS_iff _ _).1 hm)
        exact absurd he2 (h2 e he1)
    rw [hm]
    have hf := run_findKey (P := P) (w := w) hks h1
    simp [Instr.lookup, run_underlying hu, Go.MapKept.run_getObj_map (P := P) hb, hck, hf, Result.andThen, zeroValue, run_info hi, hz]
  · have hme := List.mem_of_getElem? h2
    have hm : memS l s.data.toList = true := (memS_iff _ _).2 ((entries_mem hes s).2 ⟨e, hme, h3⟩)
    rw [hm]
    have hv := (entries_key hes e hme).2
    rw [hv] at h1
    have hf := run_findKey (P := P) (w := w) hks h1
    simp [Instr.lookup, run_underlying hu, Go.MapKept.run_getObj_map (P := P) hb, hck, hf, Result.andThen]
theorem update_ok {w : World} {t kt et : TypeId} (he : (cx.tyi t).kind = .map kt et) {b : Nat} {es : Array MapEntry} {clock : Nat} (hb : w.heap[b]? = some (.map es clock)) {l : List Str} (hes : All2 EntryR es.toList l) (s : ByteArray) :
    ∃ es' clock', (Instr.mapUpdate t (.map (some b)) (.string s) (.bool true)).run P w = .ok () { w with heap := w.heap.setIfInBounds b (.map es' clock') } ∧ All2 EntryR es'.toList (addS l s.data.toList) := by
  have hk := hcx.kind t
  rw [he] at hk
  obtain ⟨hu, hks, inf, hi, hz⟩ := hk
  have hkey : IsKey .string (.string s) := trivial
  have hck := run_checkKey (P := P) (w := w) hks hkey false 9999
  have hkeys := fun x hx => (entries_key hes x hx).1
  rcases findNow_spec hkey es.toList 0 hkeys with ⟨h1, h2⟩ | ⟨j, e, h1, h2, h3⟩
  · have hm : memS l s.data.toList = false := by
      cases hm : memS l s.data.toList with
      | false => rfl
      | true =>
        obtain ⟨e, he1, he2⟩ := (entries_mem hes s).1 ((memS_iff _ _).1 hm)
        exact absurd he2 (h2 e he1)
    have hf := run_findKey (P := P) (w := w) hks h1
    refine ⟨es.push { key := .string s, val := .bool true, born := clock }, clock + 1, ?_, ?_⟩
    · simp [Instr.mapUpdate, run_underlying hu, Go.MapKept.run_getObj_map (P := P) hb, hck, hf, Result.andThen, run_setObj_map _ hb]
    · unfold addS
      rw [hm, cond_false, Array.toList_push]
      exact hes.append ⟨⟨s, rfl, rfl, rfl⟩, trivial⟩
  · have hme := List.mem_of_getElem? h2
    have hm : memS l s.data.toList = true := (memS_iff _ _).2 ((entries_mem hes s).2 ⟨e, hme, h3⟩)
    have hv := (entries_key hes e hme).2
    have hf := run_findKey (P := P) (w := w) hks h1
    have hej : es[j]? = some e := by simpa using h2
    have hkeep : (Instr.keyThatStays e.key (.string s)).run P w = .ok (.string s) w := by
      rw [h3]
      have : Instr.sameBits 10000 (.string s) (.string s) = true := by
        show (s == s) = true
        exact (bytes_beq s s).2 rfl
      simp [Instr.keyThatStays, this]
    refine ⟨es.modify j fun e => { e with key := .string s, val := .bool true }, clock, ?_, ?_⟩
    · simp only [Nat.zero_add] at hf
      simp [Instr.mapUpdate, run_underlying hu, Go.MapKept.run_getObj_map (P := P) hb, hck, hf, Result.andThen, hej, hkeep, run_setObj_map _ hb]
    · unfold addS
      rw [hm, cond_true]
      have hl := hes.length
      refine All2.of_get (by simpa using hl) fun i x y hx hy => ?_
      rw [Array.getElem?_toList, Array.getElem?_modify] at hx
      by_cases hij : j = i
      · subst hij
        rw [if_pos rfl, hej] at hx
        injection hx with hx
        subst hx
        obtain ⟨s', g1, g2, g3⟩ := All2.get j e y hes h2 hy
        rw [h3] at g1
        injection g1 with g1
        subst g1
        exact ⟨s, rfl, g2, rfl⟩
      · rw [if_neg hij] at hx
        exact All2.get i x y hes (by simpa using hx) hy
end
theorem mapK_ok {β : Type} {r : β} {base wb w X cv h} (H : HRel base wb w X cv h) {x : AV} {xv : Value} (hx : AR3 w X cv h xv x) {k : Nat → List Str → Option β} (hk : mapK h x k = some r) :
    ∃ kk l b es clock, k kk l = some r ∧ look h kk = some (.map l) ∧ cv kk = .map (some b) ∧ xv = .map (some b) ∧ w.heap[b]? = some (.map es clock) ∧ X b ∧ All2 EntryR es.toList l := by
  unfold mapK at hk
  split at hk
  · rename_i kk
    split at hk
    · rename_i l hl
      obtain ⟨l', b, h1, h2, h3⟩ := hx
      obtain ⟨b', es, cl, g1, g2, g3, g4⟩ := H.ent kk _ hl
      rw [h2] at g1
      injection g1 with g1
      injection g1 with g1
      subst g1
      exact ⟨kk, l, b, es, cl, hk, hl, h2, h3, g2, g3, g4⟩
    · cases hk
  · cases hk
theorem run_makeMap_bare {P : Program} (t : TypeId) (w : World) : (Instr.makeMap t none).run P w = .ok (.map (some w.heap.size)) (w.alloc (.map #[] 0)) := rfl
/-- A new map. -/
theorem makeMap_ok {base wb w X cv h} (H : HRel base wb w X cv h) {kk : Nat} (hn : look h kk = none) :
    ∃ X' cv', HRel base wb (w.alloc (.map #[] 0)) X' cv' (upd h kk (.map [])) ∧ Go1 [kk] w X cv h (w.alloc (.map #[] 0)) X' cv' (upd h kk (.map [])) ∧ AR3 (w.alloc (.map #[] 0)) X' cv' (upd h kk (.map [])) (.map (some w.heap.size)) (.mapp kk) := by
  have hs : w.heap.size ≤ (w.alloc (.map #[] 0)).heap.size := by simp
  have ho := heap_alloc w (.map #[] 0)
  have hnew : ∀ b, mblk (setCV cv kk (.map (some w.heap.size))) kk (.map []) = some b → w.heap.size ≤ b ∧ b < (w.alloc (.map #[] 0)).heap.size := by
    intro b hb
    simp [mblk, setCV_same, mapBlock] at hb
    subst hb
    simp
  have G := H.addGo (w' := w.alloc (.map #[] 0)) (e := .map []) (c := .map (some w.heap.size)) hn hs ho.2 fun b hb => (hnew b hb).1
  refine ⟨_, _, H.add (w' := w.alloc (.map #[] 0)) (e := .map []) (c := .map (some w.heap.size)) hn hs ho.2 ⟨rfl, rfl, rfl⟩ hnew ?_, G, ?_⟩
  · exact ⟨w.heap.size, #[], 0, setCV_same .., ho.1, .inr (by simp [mblk, setCV_same, mapBlock]), trivial⟩
  · exact ⟨[], w.heap.size, look_upd_same .., setCV_same .., rfl⟩
/-- A map that goes on. -/
theorem putMap_ok {base wb w X cv h} (H : HRel base wb w X cv h) {kk b : Nat} {l l' : List Str} {es es' : Array MapEntry} {clock clock' : Nat} (hl : look h kk = some (.map l)) (hcv : cv kk = .map (some b)) (hb : w.heap[b]? = some (.map es clock)) (hx : X b) (hes : All2 EntryR es'.toList l') :
    ∃ X' cv', HRel base wb { w with heap := w.heap.setIfInBounds b (.map es' clock') } X' cv' (upd h kk (.map l')) ∧ Go1 [kk] w X cv h { w with heap := w.heap.setIfInBounds b (.map es' clock') } X' cv' (upd h kk (.map l')) := by
  have hs := heap_set (o' := .map es' clock') hb
  have hm : mblk cv kk (.map l) = some b := by simp [mblk, hcv, mapBlock]
  have hsz : w.heap.size ≤ ({ w with heap := w.heap.setIfInBounds b (.map es' clock') } : World).heap.size := by simp
  have hold : ∀ b', b' < w.heap.size → mblk cv kk (.map l) ≠ some b' → ({ w with heap := w.heap.setIfInBounds b (.map es' clock') } : World).heap[b']? = w.heap[b']? := by
    intro b' _ hne
    exact hs.2 b' fun he => hne (by rw [he]; exact hm)
  have hnew : ∀ b', mblk (setCV cv kk (cv kk)) kk (.map l') = some b' → mblk cv kk (.map l) = some b' := by
    intro b' hb'
    rw [setCV_self] at hb'
    exact hb'
  have G := H.putGo (w' := { w with heap := w.heap.setIfInBounds b (.map es' clock') }) (e' := .map l') (c := cv kk) hl trivial hsz hold (fun _ => rfl) (fun _ => rfl) (fun b' hb => .inl (hnew b' hb))
  refine ⟨_, _, H.put (w' := { w with heap := w.heap.setIfInBounds b (.map es' clock') }) (e' := .map l') (c := cv kk) hl trivial hsz hold ⟨rfl, rfl, rfl⟩ (fun _ => rfl) (fun _ => rfl) (fun b' hb => .inl (hnew b' hb)) ?_, G⟩
  exact ⟨b, es', clock', (setCV_same ..).trans hcv, hs.1, .inl hx, hes⟩

/-! ### A text out of bytes -/
theorem bytesOf_ints : ∀ {rows : List (List T)} {l : Str}, bytesOf rows = some l → ∃ ns : List Int, rows = ns.map (fun n => [.int .u8 n]) ∧ l = ns.map fun n => UInt8.ofNat n.toNat
  | [], l, h => by
    simp only [bytesOf] at h
    injection h with h
    subst h
    exact ⟨[], rfl, rfl⟩
  | row :: rows, l, h => by
    unfold bytesOf at h
    split at h
    · cases ‹row :: rows = []›
    · rename_i n l' heq
      injection heq with e1 e2
      subst e1 e2
      split at h
      · rename_i r hr
        injection h with h
        subst h
        obtain ⟨ns, h1, h2⟩ := bytesOf_ints hr
        exact ⟨n :: ns, by rw [h1]; rfl, by rw [h2]; rfl⟩
      · cases h
    · cases h
theorem foldl_push : ∀ (ns : List Int) (r : ByteArray), (ns.foldl (fun r n => r.push (UInt8.ofNat n.toNat)) r).data.toList = r.data.toList ++ ns.map fun n => UInt8.ofNat n.toNat
  | [], r => by simp
  | n :: ns, r => by
    rw [List.foldl_cons, foldl_push ns]
    simp [ByteArray.push]
section
variable {P : Program} {cx : Cx} (hcx : CxOk P cx)
include hcx
theorem toText_ok {w : World} {X : Nat → Prop} {t1 t2 e : TypeId} (h1 : (cx.tyi t1).kind = .slice e) (h2 : (cx.tyi t2).kind = .str) (h3 : (cx.tyi e).kind = .int .u8) {val : Value} {rows : List (List T)} (hf : Flat w X 1 val rows) {l : Str} (hl : bytesOf rows = some l) :
    ∃ s : ByteArray, (convert t1 t2 val).run P w = .ok (.string s) w ∧ s.data.toList = l := by
  have k1 := hcx.kind t1
  have k2 := hcx.kind t2
  have k3 := hcx.kind e
  rw [h1] at k1
  rw [h2] at k2
  rw [h3] at k3
  simp only [KindOk] at k1 k2 k3
  obtain ⟨ns, e1, e2⟩ := bytesOf_ints hl
  obtain ⟨base, len, cap, news, rfl, f1, f2, f3, f4, f5⟩ := hf
  have hn : news = ns.map (Value.int .u8) := by
    apply List.ext_getElem?
    intro j
    by_cases hj : j < len
    · have hjn : j < ns.length := by rw [← f1, e1] at hj; simpa using hj
      have hr : rows[j]? = some [.int .u8 ns[j]] := by rw [e1, List.getElem?_map, List.getElem?_eq_getElem hjn]; rfl
      obtain ⟨_, g⟩ := f5 j _ hr
      obtain ⟨u, hu, ht⟩ := g 0 _ rfl
      rw [show j * 1 + 0 = j by omega] at hu
      rw [hu, List.getElem?_map, List.getElem?_eq_getElem hjn]
      cases ht
      rfl
    · have hjn : ¬ j < ns.length := by rw [← f1, e1] at hj; simpa using hj
      rw [List.getElem?_eq_none (by omega), List.getElem?_eq_none (by simp; omega)]
  refine ⟨ns.foldl (fun r n => r.push (UInt8.ofNat n.toNat)) ByteArray.empty, ?_, ?_⟩
  · cases base with
    | none =>
      have hlen : len = 0 := by
        cases len with
        | zero => rfl
        | succ n => obtain ⟨a, ha, _⟩ := f4 (by omega); cases ha
      have : ns = [] := by
        rw [e1, hlen] at f1
        simpa using f1
      subst this
      simp [convert, run_underlying k1, run_underlying k2, run_underlying k3, Conv.bytesToString]
    | some a =>
      have hload : (loadCells a len).run P w = .ok (ns.map (Value.int .u8)).toArray w := by
        have hc : ∀ j v, news[j]? = some v → w.cell? (a.add j) = some v := by
          intro j v hj
          have : 0 < len := by have := (List.getElem?_eq_some_iff.1 hj).1; omega
          obtain ⟨a', ha, hc⟩ := f4 this
          injection ha with ha
          subst ha
          exact hc j v hj
        have := run_loadCells_list (P := P) w a news hc
        rw [f3, Nat.mul_one, hn] at this
        exact this
      have hb := run_bytesToString (P := P) w a len cap ns hload
      simp [convert, run_underlying k1, run_underlying k2, run_underlying k3, hb]
  · rw [foldl_push, e2]
    simp
end

theorem cutAt_ok {b : Bool} {base wb w X cv h} (H : HRel base wb w X cv h) {val : Value} {v : AV} (hv : AR3 w X cv h val v) :
    ∃ X1 cv1, HRel base wb w X1 cv1 (cutAt b h v).2.1 ∧ Go1 (cutAt b h v).2.2 w X cv h w X1 cv1 (cutAt b h v).2.1 ∧ AR3 w X1 cv1 (cutAt b h v).2.1 val (cutAt b h v).1 := by
  unfold cutAt
  split
  · rename_i kk ver n
    split
    · rename_i v' s e rows hlk
      cases hb : Nat.beq ver v' with
      | false => exact ⟨X, cv, H, .refl .., hv⟩
      | true =>
        have hb := beq_eq hb
        subst hb
        have hct := rowp_cur (w := w) (X := X) hv hlk rfl
        obtain ⟨xs, o1, o2, o3, o4⟩ := H.ent kk _ hlk
        obtain ⟨ys, p1, p2, p3⟩ := own_cut o1 o3 hct
        obtain ⟨bb, len, cap, q1, q2, q3, q4⟩ := hct
        subst q4
        simp only [tk] at p1 p2
        have hle : EntLe (.row ver s e rows) (.row (ver + 1) s e (takeN n rows)) := ⟨by omega, rfl⟩
        have hnew : ∀ b', mblk (setCV cv kk (.slice bb n cap)) kk (.row (ver + 1) s e (takeN n rows)) = some b' → mblk cv kk (.row ver s e rows) = some b' := by
          intro b' hb
          simp only [mblk, setCV_same] at hb ⊢
          rw [← p3]
          exact hb
        have G := H.putGo (w' := w) (e' := .row (ver + 1) s e (takeN n rows)) (c := .slice bb n cap) hlk hle (Nat.le_refl _) (fun _ _ _ => rfl) (fun h => by simp [isBox] at h) (fun h => by simp [rowVer] at h) (fun b' hb => .inl (hnew b' hb))
        refine ⟨_, _, H.put (w' := w) (e' := .row (ver + 1) s e (takeN n rows)) (c := .slice bb n cap) hlk hle (Nat.le_refl _) (fun _ _ _ => rfl) ⟨rfl, rfl, rfl⟩ (fun h => by simp [isBox] at h) (fun h => by simp [rowVer] at h) (fun b' hb => .inl (hnew b' hb)) ?_, G, ?_⟩
        · refine ⟨ys, ?_, fun b' hb => .inr ?_, p2.mono (G.keep H), o4⟩
          · rw [setCV_same]; exact p1
          · simpa [mblk] using hb
        · exact ⟨⟨_, _, _, rfl⟩, _, ver + 1, look_upd_same .., rfl, Nat.le_refl _, fun _ => by simp [CutOf, setCV_same]⟩
    · exact ⟨X, cv, H, .refl .., hv⟩
  · exact ⟨X, cv, H, .refl .., hv⟩

/-! ### Nil slices in boxes, before a call -/
theorem mem_keys : ∀ {h : Heap} {k : Nat} {e : Ent}, look h k = some e → k ∈ h.map (·.1)
  | [], k, e, hl => by simp [look, asc] at hl
  | (k0, e0) :: h, k, e, hl => by
    simp only [look, asc] at hl
    cases hb : Nat.beq k0 k with
    | true => have := beq_eq hb; simp [this]
    | false =>
      rw [hb] at hl
      have := mem_keys (h := h) hl
      simp only [List.map_cons, List.mem_cons]
      exact .inr this
theorem keys_look : ∀ {h : Heap} {k : Nat}, k ∈ h.map (·.1) → ∃ e, look h k = some e
  | [], k, hk => by simp at hk
  | (k0, e0) :: h, k, hk => by
    simp only [look, asc]
    cases hb : Nat.beq k0 k with
    | true => exact ⟨_, rfl⟩
    | false =>
      have hne := Nat.ne_of_beq_eq_false hb
      simp only [List.map_cons, List.mem_cons] at hk
      exact keys_look (hk.resolve_left fun e => hne e.symm)
def KeyUp (h h1 : Heap) : Prop := ∀ k, k ∈ h.map (·.1) → k ∈ h1.map (·.1)
theorem KeyUp.go {wr w X cv h w' X' cv' h'} (G : Go1 wr w X cv h w' X' cv' h') : KeyUp h h' := by
  intro k hk
  obtain ⟨e, he⟩ := keys_look hk
  obtain ⟨e', g1, _⟩ := G.ent k e he
  exact mem_keys g1
section
variable {base : Nat} {wb w : World}
def BoxStay (h h1 : Heap) : Prop := ∀ k sh c, look h k = some (.box sh c) → look h1 k = some (.box sh c)
theorem tokAt0_ok {X cv h} (H : HRel base wb w X cv h) {val : Value} {v : AV} (hv : AR1 w X cv h val v) (kk : Nat) :
    ∃ X1 cv1, HRel base wb w X1 cv1 (tokAt [] kk v h).2 ∧ Go1 ((tokAt [] kk v h).2.map (·.1)) w X cv h w X1 cv1 (tokAt [] kk v h).2 ∧ AR1 w X1 cv1 (tokAt [] kk v h).2 val (tokAt [] kk v h).1 ∧ BoxStay h (tokAt [] kk v h).2 := by
  have stay : ∃ X1 cv1, HRel base wb w X1 cv1 h ∧ Go1 (h.map (·.1)) w X cv h w X1 cv1 h ∧ AR1 w X1 cv1 h val v ∧ BoxStay h h := ⟨X, cv, H, .refl .., hv, fun _ _ _ h => h⟩
  unfold tokAt
  simp only [asc]
  split
  · rename_i e s
    cases hb : Nat.ble 1 s with
    | false => exact stay
    | true =>
      simp only [cond_true]
      split
      · rename_i hn
        have hval : val = .slice none 0 0 := hv
        obtain ⟨X1, cv1, H1, G1, a1⟩ := nilRow_ok H hn (e := e) (ble_le hb)
        refine ⟨X1, cv1, H1, G1.more ?_, by rw [hval]; exact a1, fun k sh c hl => ?_⟩
        · intro k hk
          have hk : k = kk := by simpa using hk
          subst hk
          exact mem_keys (look_upd_same ..)
        · show look (upd h kk _) k = _
          rw [look_upd_other _ _ (fun he => ?_)]
          · exact hl
          · subst he; rw [hn] at hl; cases hl
      · exact stay
  · exact stay
theorem tokCells0_ok {k : Nat} : ∀ {vals : List Value} {l : List AV} {j : Nat} {X cv h} (H : HRel base wb w X cv h) (hv : All2 (AR1 w X cv h) vals l),
    ∃ X1 cv1, HRel base wb w X1 cv1 (tokCells [] k j l h).2 ∧ Go1 ((tokCells [] k j l h).2.map (·.1)) w X cv h w X1 cv1 (tokCells [] k j l h).2 ∧ All2 (AR1 w X1 cv1 (tokCells [] k j l h).2) vals (tokCells [] k j l h).1 ∧ BoxStay h (tokCells [] k j l h).2
  | [], [], j, X, cv, h, H, _ => ⟨X, cv, H, .refl .., trivial, fun _ _ _ h => h⟩
  | val :: vals, v :: l, j, X, cv, h, H, hv => by
    obtain ⟨X1, cv1, H1, G1, a1, b1⟩ := tokAt0_ok H hv.1 (k + 1 + j)
    obtain ⟨X2, cv2, H2, G2, a2, b2⟩ := tokCells0_ok (k := k) (j := j + 1) H1 (hv.2.imp fun _ _ => AR1.mono (G1.keep H) G1)
    refine ⟨X2, cv2, H2, (G1.trans G2).more ?_, ⟨a1.mono (G2.keep H1) G2, a2⟩, fun k sh c hl => b2 k sh c (b1 k sh c hl)⟩
    intro q hq
    rcases List.mem_append.1 hq with hq | hq
    · exact KeyUp.go G2 q hq
    · exact hq
theorem tokHeap0_ok : ∀ {l : Heap} {X cv h} (H : HRel base wb w X cv h), ∃ X1 cv1, HRel base wb w X1 cv1 (tokHeap [] l h) ∧ Go1 ((tokHeap [] l h).map (·.1)) w X cv h w X1 cv1 (tokHeap [] l h)
  | [], X, cv, h, H => ⟨X, cv, H, .refl ..⟩
  | (k, e) :: l, X, cv, h, H => by
    unfold tokHeap
    split
    · rename_i sh cells hl
      obtain ⟨b, arr, t, r1, r2, r3, r4⟩ := H.ent k _ hl
      obtain ⟨X1, cv1, H1, G1, a1, b1⟩ := tokCells0_ok (k := k) (j := 0) H r4
      have hl1 := b1 k sh cells hl
      obtain ⟨b', arr', t', s1, s2, s3, s4⟩ := H1.ent k _ hl1
      have hcv : cv1 k = cv k := by
        obtain ⟨e', g1, g2, g3, g4⟩ := G1.ent k _ hl
        exact g3 rfl
      rw [hcv, r1] at s1
      injection s1 with s1; injection s1 with s1; injection s1 with s1
      subst s1
      rw [r2] at s2
      injection s2 with s2; injection s2 with s2 s2' s2''
      subst s2 s2'
      have hnew : ∀ b', mblk (setCV cv1 k (cv1 k)) k (.box sh (tokCells [] k 0 cells h).1) = some b' → mblk cv1 k (.box sh cells) = some b' := by
        intro b' hb
        rw [setCV_self] at hb
        exact hb
      have G2 := H1.putGo (e' := .box sh (tokCells [] k 0 cells h).1) (c := cv1 k) hl1 trivial (Nat.le_refl _) (fun _ _ _ => rfl) (fun _ => rfl) (fun _ => rfl) (fun b' hb => .inl (hnew b' hb))
      have H2 := H1.put (e' := .box sh (tokCells [] k 0 cells h).1) (c := cv1 k) hl1 trivial (Nat.le_refl _) (fun _ _ _ => rfl) ⟨rfl, rfl, rfl⟩ (fun _ => rfl) (fun _ => rfl) (fun b' hb => .inl (hnew b' hb)) (by
        rw [setCV_self] at G2 ⊢
        exact ⟨b, arr, t, hcv.trans r1, r2, .inl s3, a1.imp fun _ _ => AR1.mono (G2.keep H1) G2⟩)
      obtain ⟨X3, cv3, H3, G3⟩ := tokHeap0_ok (l := l) H2
      refine ⟨X3, cv3, H3, ((G1.trans G2).trans G3).more ?_⟩
      intro q hq
      rcases List.mem_append.1 hq with hq | hq
      · rcases List.mem_append.1 hq with hq | hq
        · exact KeyUp.go G3 q (KeyUp.go G2 q hq)
        · have hq : q = k := by simpa using hq
          subst hq
          exact KeyUp.go G3 q (mem_keys (look_upd_same ..))
      · exact hq
    · exact tokHeap0_ok (l := l) H
theorem tokIf_ok {cx : Cx} {f : FuncId} {X cv h} (H : HRel base wb w X cv h) : ∃ X1 cv1 wr, HRel base wb w X1 cv1 (tokIf cx f h) ∧ Go1 wr w X cv h w X1 cv1 (tokIf cx f h) ∧ ∀ wr' k, k ∈ wr ++ wr' → k ∈ tokWr cx f h wr' := by
  unfold tokIf tokWr
  cases mem cx.tok f with
  | false => exact ⟨X, cv, [], H, .refl .., fun wr' k hk => by simpa using hk⟩
  | true =>
    obtain ⟨X1, cv1, H1, G1⟩ := tokHeap0_ok (l := h) H
    exact ⟨X1, cv1, _, H1, G1, fun wr' k hk => hk⟩
end
end Go.AS
