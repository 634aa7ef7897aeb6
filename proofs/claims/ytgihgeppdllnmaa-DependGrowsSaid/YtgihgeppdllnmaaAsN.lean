/- AS: what follows an operation may be put behind it. -/
import Derived.Test.YtgihgeppdllnmaaAs18
namespace Go.AS
set_option linter.all false
section
variable {β γ : Type} (g : β → Option γ)
theorem cond_nat (c : Bool) (x y : Option β) : (cond c x y).bind g = cond c (x.bind g) (y.bind g) := by cases c <;> rfl
theorem tK_nat (v : AV) (k : T → Option β) : (AV.tK v k).bind g = AV.tK v fun x => (k x).bind g := by cases v <;> rfl
theorem TboolK_nat (v : T) (k : Bool → Option β) : (T.boolK v k).bind g = T.boolK v fun x => (k x).bind g := by cases v <;> rfl
theorem TintK_nat (v : T) (k : IntKind → Int → Option β) : (T.intK v k).bind g = T.intK v fun x y => (k x y).bind g := by cases v <;> rfl
theorem TstrK_nat (v : T) (k : Str → Option β) : (T.strK v k).bind g = T.strK v fun x => (k x).bind g := by cases v <;> rfl
theorem TslK_nat (v : T) (k : Nat → List (List T) → Option β) : (T.slK v k).bind g = T.slK v fun x y => (k x y).bind g := by cases v <;> rfl
theorem TptK_nat (v : T) (k : Nat → List T → Option β) : (T.ptK v k).bind g = T.ptK v fun x y => (k x y).bind g := by cases v <;> rfl
theorem TnilK_nat (v : T) (k : Bool → Option β) : (T.nilK v k).bind g = T.nilK v fun x => (k x).bind g := by cases v <;> rfl
theorem boolK_nat (v : AV) (k : Bool → Option β) : (AV.boolK v k).bind g = AV.boolK v fun x => (k x).bind g := by simp only [AV.boolK, tK_nat, TboolK_nat]
theorem intK_nat (v : AV) (k : IntKind → Int → Option β) : (AV.intK v k).bind g = AV.intK v fun x y => (k x y).bind g := by simp only [AV.intK, tK_nat, TintK_nat]
theorem strK_nat (v : AV) (k : Str → Option β) : (AV.strK v k).bind g = AV.strK v fun x => (k x).bind g := by simp only [AV.strK, tK_nat, TstrK_nat]
theorem consK_nat {α : Type} (l : List α) (k : α → List α → Option β) : (consK l k).bind g = consK l fun a m => (k a m).bind g := by cases l <;> rfl
theorem nilK_nat {α : Type} (l : List α) (k : Option β) : (nilK l k).bind g = nilK l (k.bind g) := by cases l <;> rfl
theorem aggK_nat (v : AV) (k : List AV → Option β) : (AV.aggK v k).bind g = AV.aggK v fun l => (k l).bind g := by cases v <;> rfl
theorem tupK_nat (v : AV) (k : List AV → Option β) : (AV.tupK v k).bind g = AV.tupK v fun l => (k l).bind g := by cases v <;> rfl
theorem rowpK_nat (v : AV) (a b : Nat) (k : Option β) : (AV.rowpK v a b k).bind g = AV.rowpK v a b (k.bind g) := by
  unfold AV.rowpK
  split <;> simp only [cond_nat, Option.bind_none]
theorem ptrK_nat (v : AV) (a b : Nat) (k : Option β) : (AV.ptrK v a b k).bind g = AV.ptrK v a b (k.bind g) := by
  unfold AV.ptrK
  split <;> simp only [cond_nat, Option.bind_none]
theorem mappK_nat (v : AV) (a : Nat) (k : Option β) : (AV.mappK v a k).bind g = AV.mappK v a (k.bind g) := by
  unfold AV.mappK
  split <;> simp only [cond_nat, Option.bind_none]
theorem int1K_nat (v : AV) (j : IntKind) (k : Int → Option β) : (AV.int1K v j k).bind g = AV.int1K v j fun x => (k x).bind g := by simp only [AV.int1K, intK_nat, cond_nat, Option.bind_none]
theorem sl1K_nat (v : AV) (s : Nat) (k : List (List T) → Option β) : (AV.sl1K v s k).bind g = AV.sl1K v s fun x => (k x).bind g := by simp only [AV.sl1K, tK_nat, TslK_nat, cond_nat, Option.bind_none]
theorem decL_nat (s : ShL) (v : AV) (k : AV → Option β) : (decL s v k).bind g = decL s v fun x => (k x).bind g := by
  cases s <;> simp only [decL, boolK_nat, int1K_nat, strK_nat, sl1K_nat, tK_nat, rowpK_nat, ptrK_nat, mappK_nat]
theorem decLs_nat : ∀ (ss : List ShL) (l : List AV) (k : List AV → Option β), (decLs ss l k).bind g = decLs ss l fun x => (k x).bind g
  | [], l, k => by simp only [decLs, nilK_nat]
  | s :: ss, l, k => by simp only [decLs, consK_nat, decL_nat, decLs_nat ss]
theorem decV_nat (s : ShV) (v : AV) (k : AV → Option β) : (decV s v k).bind g = decV s v fun x => (k x).bind g := by
  cases s <;> simp only [decV, decL_nat, aggK_nat, decLs_nat]
theorem decVs_nat : ∀ (ss : List ShV) (l : List AV) (k : List AV → Option β), (decVs ss l k).bind g = decVs ss l fun x => (k x).bind g
  | [], l, k => by simp only [decVs, nilK_nat]
  | s :: ss, l, k => by simp only [decVs, consK_nat, decV_nat, decVs_nat ss]
theorem decR_nat (s : ShR) (v : AV) (k : AV → Option β) : (decR s v k).bind g = decR s v fun x => (k x).bind g := by
  cases s <;> simp only [decR, decV_nat, tupK_nat, decVs_nat]
theorem boxK_nat' (e : Ent) (k : List AV → Option β) : (Ent.boxK e k).bind g = Ent.boxK e fun x => (k x).bind g := by cases e <;> rfl
theorem rowK_nat' (e : Ent) (v s : Nat) (t : TypeId) (k : List (List T) → Option β) : (Ent.rowK e v s t k).bind g = Ent.rowK e v s t fun x => (k x).bind g := by
  unfold Ent.rowK
  split <;> simp only [cond_nat, Option.bind_none]
theorem mapK_nat' (e : Ent) (k : List Str → Option β) : (Ent.mapK e k).bind g = Ent.mapK e fun x => (k x).bind g := by cases e <;> rfl
theorem decE_nat (s : ShE) (e : Ent) (k : Ent → Option β) : (decE s e k).bind g = decE s e fun x => (k x).bind g := by
  cases s <;> simp only [decE, boxK_nat', rowK_nat', mapK_nat', decLs_nat]
theorem decEs_nat : ∀ (ss : List ShE) (i : Nat) (h : Heap) (k : List Ent → Option β), (decEs i ss h k).bind g = decEs i ss h fun x => (k x).bind g
  | [], i, h, k => by simp only [decEs, nilK_nat]
  | s :: ss, i, h, k => by simp only [decEs, consK_nat, cond_nat, decE_nat, decEs_nat ss, Option.bind_none]
theorem rowsK_nat (h : Heap) (es : Nat) (v : AV) (k : List (List T) → List Nat → Option β) : (rowsK h es v k).bind g = rowsK h es v fun x y => (k x y).bind g := by
  unfold rowsK
  split
  · simp only [TslK_nat, cond_nat, Option.bind_none]
  · simp only [cond_nat, Option.bind_none]
  · split <;> simp only [cond_nat, Option.bind_none]
  · rfl
theorem new_nat (h : Heap) (kk : Nat) (e : Ent) (k : Heap → Option β) : (new h kk e k).bind g = new h kk e fun x => (k x).bind g := by
  unfold new
  split <;> rfl
theorem loadK_nat (cx : Cx) (t : TypeId) (h : Heap) (p : AV) (k : OpK β) : (loadK cx t h p k).bind g = loadK cx t h p fun a b c d => (k a b c d).bind g := by
  unfold loadK
  simp only [cond_nat, Option.bind_none]
  congr 1
  split
  · split <;> simp only [cond_nat, Option.bind_none]
  · split <;> simp only [cond_nat, Option.bind_none]
  · simp only [cond_nat, Option.bind_none]
  · simp only [TptK_nat, cond_nat, Option.bind_none]
  · rfl
theorem storeK_nat (cx : Cx) (t : TypeId) (h : Heap) (p v : AV) (k : OpK β) : (storeK cx t h p v k).bind g = storeK cx t h p v fun a b c d => (k a b c d).bind g := by
  unfold storeK
  simp only [cond_nat, Option.bind_none]
  congr 1
  congr 1
  split
  · split <;> simp only [cond_nat, Option.bind_none]
  · split
    · rfl
    · split <;> simp only [cond_nat, Option.bind_none]
  · rfl
theorem boxK_nat (cx : Cx) (d : Nat) (t : TypeId) (h : Heap) (cells : List AV) (k : OpK β) : (boxK cx d t h cells k).bind g = boxK cx d t h cells fun a b c d => (k a b c d).bind g := by
  simp only [boxK, cond_nat, new_nat, Option.bind_none]
theorem ptrAdd_nat (p : AV) (o : Nat) (k : AV → Option β) : (ptrAdd p o k).bind g = ptrAdd p o fun a => (k a).bind g := by
  unfold ptrAdd
  split <;> first | rfl | simp only [TptK_nat]
theorem binK_nat (cx : Cx) (op : BinOp) (t : TypeId) (x y : AV) (k : AV → Option β) : (binK cx op t x y k).bind g = binK cx op t x y fun a => (k a).bind g := by
  unfold binK
  split
  · simp only [intK_nat, cond_nat, Option.bind_none]
    congr 1; funext j1 a; congr 1; funext j2 b; congr 1; congr 1
    cases op <;> first | rfl | simp only [cond_nat, Option.bind_none]
  · simp only [strK_nat]
    congr 1; funext a; congr 1; funext b
    cases op <;> first | rfl | simp only [cond_nat, Option.bind_none]
  · simp only [boolK_nat]
    congr 1; funext a; congr 1; funext b
    cases op <;> rfl
  · simp only
    split
    all_goals (cases op <;> simp only [TnilK_nat, cond_nat, Option.bind_none])
  · rfl
theorem unK_nat (op : UnOp) (x : AV) (k : AV → Option β) : (unK op x k).bind g = unK op x fun a => (k a).bind g := by
  cases op <;> first | rfl | simp only [unK, boolK_nat, intK_nat]
theorem lenK_nat (h : Heap) (x : AV) (k : Int → List Nat → Option β) : (lenK h x k).bind g = lenK h x fun a b => (k a b).bind g := by
  unfold lenK
  split
  · simp only [TslK_nat]
  · rfl
  · split <;> simp only [cond_nat, Option.bind_none]
  · rfl
theorem appendK_nat (cx : Cx) (d : Nat) (t : TypeId) (h : Heap) (x y : AV) (k : OpK β) : (appendK cx d t h x y k).bind g = appendK cx d t h x y fun a b c d => (k a b c d).bind g := by
  unfold appendK
  split
  · simp only [cond_nat, rowsK_nat, Option.bind_none]
    congr 1; congr 1; funext ys ry; congr 1; congr 1
    split
    · simp only [cond_nat, new_nat, Option.bind_none]
    · split <;> simp only [cond_nat, Option.bind_none]
    · rfl
  · rfl
theorem loK_nat (lo : Option AV) (k : Int → Option β) : (loK lo k).bind g = loK lo fun a => (k a).bind g := by
  cases lo <;> simp only [loK, intK_nat]
theorem hiK_nat (lo : Option AV) (n : Nat) (k : Int → Option β) : (hiK lo n k).bind g = hiK lo n fun a => (k a).bind g := by
  cases lo <;> simp only [hiK, intK_nat]
theorem sliceK_nat (cx : Cx) (t : TypeId) (h : Heap) (x : AV) (lo hi : Option AV) (k : OpK β) : (sliceK cx t h x lo hi k).bind g = sliceK cx t h x lo hi fun a b c d => (k a b c d).bind g := by
  unfold sliceK
  split
  · simp only [strK_nat, loK_nat, hiK_nat, cond_nat, Option.bind_none]
  · simp only [cond_nat, Option.bind_none]
    congr 1
    split
    · simp only [TslK_nat, loK_nat, hiK_nat, cond_nat, Option.bind_none]
    · split
      · simp only [intK_nat]
        congr 1; funext j u
        split <;> simp only [cond_nat, Option.bind_none]
      · split <;> simp only [loK_nat, hiK_nat, cond_nat, Option.bind_none]
    · rfl
  · rfl
theorem indexK_nat (cx : Cx) (t : TypeId) (h : Heap) (x i : AV) (k : OpK β) : (indexK cx t h x i k).bind g = indexK cx t h x i fun a b c d => (k a b c d).bind g := by
  unfold indexK
  simp only [intK_nat]
  congr 1; funext j n
  split
  · split
    · simp only [TslK_nat, cond_nat, Option.bind_none]
    · split <;> simp only [cond_nat, Option.bind_none]
    · rfl
  · split
    · simp only [cond_nat, Option.bind_none]
    · rfl
  · rfl
theorem joinK_nat (rows : List (List T)) (sep : Str) (k : Str → Option β) : (joinK rows sep k).bind g = joinK rows sep fun a => (k a).bind g := by
  unfold joinK
  split <;> simp only [cond_nat, Option.bind_none]
theorem primK_nat (p : Prim) (args : List T) (k : AV → Option β) : (primK p args k).bind g = primK p args fun a => (k a).bind g := by
  unfold primK
  split <;> first | rfl | simp only [TstrK_nat, TslK_nat, cond_nat, joinK_nat, Option.bind_none]
theorem mapK_nat (h : Heap) (x : AV) (k : Nat → List Str → Option β) : (mapK h x k).bind g = mapK h x fun a b => (k a b).bind g := by
  unfold mapK
  split
  · split <;> rfl
  · rfl
theorem callK_nat (cx : Cx) (C : CallF) (d : Nat) (ty f : Nat) (args0 : List AV) (h0 : Heap) (k : OpK β) : (callK cx C d ty f args0 h0 k).bind g = callK cx C d ty f args0 h0 fun a b c d => (k a b c d).bind g := by
  unfold callK
  split
  · rfl
  · split
    · rfl
    · split
      · rfl
      · simp only [cond_nat, Option.bind_none]
        congr 1
        rw [Option.bind_assoc]
        congr 1; funext p
        simp only [decR_nat, decEs_nat, cond_nat, Option.bind_none]
        congr 1; funext r; congr 1; funext es; congr 1
        split <;> rfl
theorem opK_nat (cx : Cx) (C : CallF) (o : Oper) (s : St) (k : OpK β) : (opK cx C o s k).bind g = opK cx C o s fun a b c d => (k a b c d).bind g := by
  unfold opK
  simp only
  split
  · rfl
  · rfl
  · simp only [boolK_nat, cond_nat]
  · simp only [cond_nat, boxK_nat, Option.bind_none]
  · simp only [boxK_nat]
  · simp only [cond_nat, Option.bind_none]
    congr 1
    split
    · split <;> rfl
    · simp only [cond_nat, Option.bind_none]
      congr 1
      split <;> rfl
    · rfl
  · split
    · simp only [cond_nat, Option.bind_none]
      congr 1; congr 1
      split
      · simp only [new_nat]
      · rfl
    · rfl
  · simp only [loadK_nat]
  · simp only [storeK_nat]
  · split <;> first | rfl | simp only [TptK_nat]
  · simp only [binK_nat]
  · simp only [unK_nat]
  · split
    · simp only [cond_nat, Option.bind_none]
      congr 1
      split <;> rfl
    · rfl
  · split
    · simp only [intK_nat, cond_nat, new_nat, Option.bind_none]
    · rfl
  · simp only [sliceK_nat]
  · split
    · simp only [cond_nat, ptrAdd_nat, Option.bind_none]
    · rfl
  · split
    · simp only [aggK_nat, cond_nat, Option.bind_none]
    · rfl
  · simp only [indexK_nat]
  · split
    · simp only [strK_nat, intK_nat, cond_nat, Option.bind_none]
    · rfl
  · split
    · simp only [intK_nat]
    · simp only [strK_nat]
    · split
      · simp only [rowsK_nat]
        congr 1; funext rows rd
        split <;> rfl
      · rfl
    · rfl
  · split
    · simp only [new_nat]
    · rfl
  · split
    · simp only [mapK_nat, strK_nat]
    · rfl
  · split
    · simp only [mapK_nat, strK_nat, boolK_nat, cond_nat, Option.bind_none]
    · rfl
  · split
    · simp only [cond_nat, Option.bind_none]
    · rfl
  · split
    · split
      · split
        · simp only [strK_nat]
        · simp only [lenK_nat]
        · simp only [mapK_nat]
        · rfl
      · rfl
    · split
      · simp only [cond_nat, appendK_nat, Option.bind_none]
      · rfl
    · split
      · simp only [intK_nat, cond_nat, Option.bind_none]
      · rfl
    · split
      · simp only [intK_nat, cond_nat, Option.bind_none]
      · rfl
    · split
      · simp only [cond_nat, Option.bind_none]
        congr 1
        split
        · split
          · simp only [primK_nat]
          · rfl
        · simp only [callK_nat]
      · rfl
    · rfl
  · rfl
end
end Go.AS
