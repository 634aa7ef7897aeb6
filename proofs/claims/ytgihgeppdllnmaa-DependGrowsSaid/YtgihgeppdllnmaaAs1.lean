/- AS, part 1: a Lean evaluator of Go functions over abstract states: values are trees, memory is a short list of boxes and rows.
   Definitions alone; that what it answers is what the machine does stands in the parts behind. -/
import Derived.Calls
import Derived.Orders
namespace Go.AS
set_option linter.all false

abbrev Str := List UInt8

/-- Values that never change again. -/
inductive T where
  | bool (b : Bool)
  | int (k : IntKind) (n : Int)
  | str (s : Str)
  | sl (s : Nat) (rows : List (List T))
  | pnil
  | mnil
  | pt (s : Nat) (cells : List T)
  deriving Inhabited

inductive AV where
  | t (x : T)
  | nils (e : TypeId) (s : Nat)
  | rowp (k v : Nat) (n : Option Nat)
  | ptr (k off : Nat)
  | elp (k v i off : Nat)
  | tel (s : Nat) (row : List T) (off : Nat)
  | agg (cells : List AV)
  | tup (parts : List AV)
  | clo (f : FuncId) (caps : List AV)
  | mapp (k : Nat)
  | undef
  | dead
  deriving Inhabited

/-- What a cell holds that a call hands back. -/
inductive ShL where
  | bool | int (k : IntKind) | str | sl (s : Nat) | any
  | rowp (k v : Nat) | ptr (k off : Nat) | mapp (k : Nat) | dead
  deriving Inhabited

inductive ShV where
  | one (s : ShL) | agg (ss : List ShL)
  deriving Inhabited

inductive ShR where
  | val (s : ShV) | tup (ss : List ShV)
  deriving Inhabited

inductive Ent where
  | box (sh : List ShL) (cells : List AV)
  | ibox (cells : List T)
  | row (v s : Nat) (e : TypeId) (rows : List (List T))
  | irow (v s : Nat) (rows : List (List T))
  | map (l : List Str)
  deriving Inhabited

inductive ShE where
  | box (sh : List ShL) (l : List ShL)
  | row (v s : Nat) (e : TypeId)
  | map
  deriving Inhabited

abbrev Heap := List (Nat × Ent)
structure St where
  slots : List AV
  heap : Heap
  deriving Inhabited
abbrev Res := AV × Heap

inductive ZC where
  | t (x : T) | nils (e : TypeId) (s : Nat)
  deriving Inhabited
inductive TyK where
  | bool | int (k : IntKind) | str | slice (e : TypeId) | ptr (e : TypeId) | func
  | struct (fs : List (Nat × TypeId)) | arr (n : Nat) (e : TypeId) | tuple (l : List TypeId) | map (k e : TypeId) | other
  deriving Inhabited
structure TyI where
  size : Nat
  bytes : Nat
  kind : TyK
  zero : List ZC
  sh : List ShL
  deriving Inhabited

inductive Prim where
  | contains | cut | compare | join
  deriving Inhabited

structure Cx where
  ty : List TyI
  prim : List (Nat × Prim)
  own : List (Nat × List (Nat × Bool))
  ret : List (Nat × ShR × List ShE)
  esc : List (Nat × List Nat)
  live : List (Nat × List (Nat × List Bool))
  cut : List Nat
  frz : List Nat
  tok : List Nat

/-! ### Lists -/
def nth {α : Type} (d : α) : List α → Nat → α
  | [], _ => d
  | x :: _, 0 => x
  | _ :: l, n + 1 => nth d l n
def setN {α : Type} : List α → Nat → α → List α
  | [], _, _ => []
  | _ :: l, 0, y => y :: l
  | x :: l, n + 1, y => x :: setN l n y
def takeN {α : Type} : Nat → List α → List α
  | 0, _ => []
  | _ + 1, [] => []
  | n + 1, x :: l => x :: takeN n l
def dropN {α : Type} : Nat → List α → List α
  | 0, l => l
  | _ + 1, [] => []
  | n + 1, _ :: l => dropN n l
def asc {α : Type} : List (Nat × α) → Nat → Option α
  | [], _ => none
  | (k, e) :: l, n => cond (Nat.beq k n) (some e) (asc l n)
def look (h : Heap) (k : Nat) : Option Ent := asc h k
def upd : Heap → Nat → Ent → Heap
  | [], k, e => [(k, e)]
  | (k', e') :: h, k, e => cond (Nat.beq k' k) ((k, e) :: h) ((k', e') :: upd h k e)
def mem (l : List Nat) (n : Nat) : Bool := match l with
  | [] => false
  | k :: l => cond (Nat.beq k n) true (mem l n)
def idx (l : List Nat) (n : Nat) : Nat := match l with
  | [] => 0
  | k :: l => cond (Nat.beq k n) 0 (idx l n + 1)

variable {β : Type}
def consK {α : Type} (l : List α) (k : α → List α → Option β) : Option β := match l with
  | [] => none
  | a :: l => k a l
def nilK {α : Type} (l : List α) (k : Option β) : Option β := match l with
  | [] => k
  | _ :: _ => none

/-! ### Looking at values -/
def T.boolK (x : T) (k : Bool → Option β) : Option β := match x with | .bool b => k b | _ => none
def T.intK (x : T) (k : IntKind → Int → Option β) : Option β := match x with | .int j n => k j n | _ => none
def T.strK (x : T) (k : Str → Option β) : Option β := match x with | .str s => k s | _ => none
def T.slK (x : T) (k : Nat → List (List T) → Option β) : Option β := match x with | .sl s rows => k s rows | _ => none
def T.ptK (x : T) (k : Nat → List T → Option β) : Option β := match x with | .pt s c => k s c | _ => none
def T.nilK (x : T) (k : Bool → Option β) : Option β := match x with | .pnil => k true | .pt _ _ => k false | _ => none
def AV.tK (v : AV) (k : T → Option β) : Option β := match v with | .t x => k x | _ => none
def IntKind.same : IntKind → IntKind → Bool
  | .i8, .i8 | .i16, .i16 | .i32, .i32 | .i64, .i64 | .u8, .u8 | .u16, .u16 | .u32, .u32 | .u64, .u64 => true
  | _, _ => false
def AV.boolK (v : AV) (k : Bool → Option β) : Option β := AV.tK v fun x => T.boolK x k
def AV.intK (v : AV) (k : IntKind → Int → Option β) : Option β := AV.tK v fun x => T.intK x k
def AV.strK (v : AV) (k : Str → Option β) : Option β := AV.tK v fun x => T.strK x k

def tk (n : Option Nat) (rows : List (List T)) : List (List T) := match n with | none => rows | some n => takeN n rows
def AV.cells : AV → List AV
  | .agg l => l
  | v => [v]
def ZC.av : ZC → AV
  | .t x => .t x
  | .nils e s => .nils e s
def ZC.tt : ZC → T
  | .t x => x
  | .nils _ s => .sl s []

def TyI.no : TyI := ⟨0, 0, .other, [], []⟩
def Cx.tyi (cx : Cx) (t : TypeId) : TyI := nth TyI.no cx.ty t
def Cx.sz (cx : Cx) (t : TypeId) : Nat := (cx.tyi t).size

/-- The key of what the operation that writes slot d makes. -/
def key (d j : Nat) : Nat := 4096 + 64 * d + j

/-! ### A slice as its rows -/
/-- The rows of a slice value; 'bor': the key of the row that is not yet fixed. -/
def rowsK (h : Heap) (es : Nat) (v : AV) (k : List (List T) → List Nat → Option β) : Option β := match v with
  | .t x => T.slK x fun s rows => cond (Nat.beq s es) (k rows []) none
  | .nils _ s => cond (Nat.beq s es) (k [] []) none
  | .rowp kk ver n => match look h kk with
    | some (.row v' s _ rows) => cond (Nat.beq ver v') (cond (Nat.beq s es) (k (tk n rows) [kk]) none) none
    | some (.irow v' s rows) => cond (Nat.beq ver v') (cond (Nat.beq s es) (k (tk n rows) []) none) none
    | _ => none
  | _ => none

/-! ### Values that are to stay as they are: what is open is closed for good -/
def strip0 (h : Heap) (v : AV) : Option (T × Heap × List Nat) := match v with
  | .t x => some (x, h, [])
  | .nils _ s => some (.sl s [], h, [])
  | .rowp kk ver n => match look h kk with
    | some (.row v' s _ rows) => cond (Nat.beq ver v') (some (.sl s (tk n rows), upd h kk (.irow v' s rows), [kk])) none
    | some (.irow v' s rows) => cond (Nat.beq ver v') (some (.sl s (tk n rows), h, [kk])) none
    | _ => none
  | _ => none
def strip0s (h : Heap) : List AV → Option (List T × Heap × List Nat)
  | [] => some ([], h, [])
  | v :: l => match strip0 h v with
    | none => none
    | some (x, h1, w1) => match strip0s h1 l with
      | none => none
      | some (xs, h2, w2) => some (x :: xs, h2, w1 ++ w2)
def strip1 (h : Heap) (v : AV) : Option (T × Heap × List Nat) := match v with
  | .ptr kk 0 => match look h kk with
    | some (.box _ cells) => match strip0s h cells with
      | none => none
      | some (xs, h1, w1) => some (.pt xs.length xs, upd h1 kk (.ibox xs), kk :: w1)
    | some (.ibox xs) => some (.pt xs.length xs, h, [kk])
    | _ => none
  | v => strip0 h v
def strip1s (h : Heap) : List AV → Option (List T × Heap × List Nat)
  | [] => some ([], h, [])
  | v :: l => match strip1 h v with
    | none => none
    | some (x, h1, w1) => match strip1s h1 l with
      | none => none
      | some (xs, h2, w2) => some (x :: xs, h2, w1 ++ w2)

/-! ### Operations -/
def constV : Value → AV
  | .bool b => .t (.bool b)
  | .int k n => .t (.int k n)
  | .string s => .t (.str s.data.toList)
  | .pointer none => .t .pnil
  | _ => .dead
def opd (s : St) : Operand → AV
  | .tmp t => nth .dead s.slots t
  | .const v => constV v
  | .func f => .clo f []
  | .global _ => .dead
def ZCR (v : Value) : ZC → Bool
  | .t (.bool b) => (match v with | .bool c => b == c | _ => false)
  | .t (.int k n) => (match v with | .int k' n' => k == k' && n == n' | _ => false)
  | .t (.str l) => (match v with | .string s => s.data.toList == l | _ => false)
  | .t .pnil => (match v with | .pointer none => true | _ => false)
  | .t .mnil => (match v with | .map none => true | _ => false)
  | .nils _ _ => (match v with | .slice none 0 0 => true | _ => false)
  | _ => false
def zcrs : List Value → List ZC → Bool
  | [], [] => true
  | v :: l, z :: m => ZCR v z && zcrs l m
  | _, _ => false
/-- A constant nil slice takes its type from the operation. -/
def opdT (cx : Cx) (s : St) (t : TypeId) (x : Operand) : AV := match x with
  | .const (.slice none 0 0) => match (cx.tyi t).kind with | .slice e => .nils e (cx.sz e) | _ => .dead
  | .const (.agg cs) => cond (zcrs cs.toList (cx.tyi t).zero) (.agg ((cx.tyi t).zero.map ZC.av)) .dead
  | x => opd s x

abbrev OpK (β : Type) := AV → Heap → List Nat → List Nat → Option β

def loadV (cx : Cx) (t : TypeId) (cells : List AV) : AV := match (cx.tyi t).kind with
  | .struct _ | .arr _ _ => .agg cells
  | _ => nth .dead cells 0
def slotsAt {α : Type} (d : α) (l : List α) (off : Nat) : Nat → List α
  | 0 => []
  | n + 1 => nth d l off :: slotsAt d l (off + 1) n

def loadOk (cx : Cx) (t : TypeId) : Bool := match (cx.tyi t).kind with
  | .struct _ | .arr _ _ => true
  | .other | .tuple _ => false
  | _ => Nat.beq (cx.sz t) 1
def loadK (cx : Cx) (t : TypeId) (h : Heap) (p : AV) (k : OpK β) : Option β := cond (loadOk cx t) (match p with
  | .ptr kk off => match look h kk with
    | some (.box _ cells) => cond (Nat.ble (off + cx.sz t) cells.length) (k (loadV cx t (slotsAt .dead cells off (cx.sz t))) h [kk] []) none
    | some (.ibox xs) => cond (Nat.ble (off + cx.sz t) xs.length) (k (loadV cx t ((slotsAt .pnil xs off (cx.sz t)).map .t)) h [kk] []) none
    | _ => none
  | .elp kk ver i off => match look h kk with
    | some (.row v' s _ rows) => cond (Nat.beq ver v') (cond (Nat.ble (off + cx.sz t) s) (k (loadV cx t ((slotsAt .pnil (nth [] rows i) off (cx.sz t)).map .t)) h [kk] []) none) none
    | some (.irow v' s rows) => cond (Nat.beq ver v') (cond (Nat.ble (off + cx.sz t) s) (k (loadV cx t ((slotsAt .pnil (nth [] rows i) off (cx.sz t)).map .t)) h [kk] []) none) none
    | _ => none
  | .tel s row off => cond (Nat.ble (off + cx.sz t) s) (k (loadV cx t ((slotsAt .pnil row off (cx.sz t)).map .t)) h [] []) none
  | .t x => T.ptK x fun s row => cond (Nat.ble (cx.sz t) s) (k (loadV cx t ((slotsAt .pnil row 0 (cx.sz t)).map .t)) h [] []) none
  | _ => none) none

def AV.leaf : AV → Bool
  | .agg _ | .tup _ | .clo _ _ => false
  | _ => true
def allLeaf : List AV → Bool
  | [] => true
  | v :: l => cond v.leaf (allLeaf l) false
def setCells {α : Type} (l : List α) (off : Nat) : List α → List α
  | [] => l
  | x :: xs => setCells (setN l off x) (off + 1) xs
def AV.storable : AV → Bool
  | .t _ | .nils _ _ | .rowp _ _ _ | .ptr _ _ | .elp _ _ _ _ | .tel _ _ _ | .clo _ _ | .mapp _ => true
  | _ => false
def allStorable : List AV → Bool
  | [] => true
  | v :: l => cond v.storable (allStorable l) false

def storeK (cx : Cx) (t : TypeId) (h : Heap) (p v : AV) (k : OpK β) : Option β :=
  cond (Nat.beq v.cells.length (cx.sz t)) (cond (Nat.ble 1 (cx.sz t)) (match p with
  | .ptr kk off => match look h kk with
    | some (.box sh cells) => cond (Nat.ble (off + cx.sz t) cells.length) (cond (allStorable v.cells) (k .undef (upd h kk (.box sh (setCells cells off v.cells))) [] [kk]) none) none
    | _ => none
  | .elp kk ver i off => match strip1s h v.cells with
    | none => none
    | some (xs, h1, w1) => match look h1 kk with
      | some (.row v' s e rows) => cond (Nat.beq ver v') (cond (Nat.ble (off + cx.sz t) s) (k .undef (upd h1 kk (.row v' s e (setN rows i (setCells (nth [] rows i) off xs)))) [] (kk :: w1)) none) none
      | _ => none
  | _ => none) none) none

/-- Where a part of an open row is stored, the row is cut for good. -/
def cutAt (b : Bool) (h : Heap) (v : AV) : AV × Heap × List Nat := match b, v with
  | true, .rowp kk ver (some n) => match look h kk with
    | some (.row v' s e rows) => cond (Nat.beq ver v') (.rowp kk (v' + 1) none, upd h kk (.row (v' + 1) s e (takeN n rows)), [kk]) (v, h, [])
    | _ => (v, h, [])
  | _, v => (v, h, [])
def new (h : Heap) (kk : Nat) (e : Ent) (k : Heap → Option β) : Option β := match look h kk with
  | some _ => none
  | none => k (upd h kk e)

def boxK (cx : Cx) (d : Nat) (t : TypeId) (h : Heap) (cells : List AV) (k : OpK β) : Option β :=
  cond (Nat.beq cells.length (cx.sz t)) (cond (allStorable cells) (new h (key d 0) (.box (cx.tyi t).sh cells) fun h1 => k (.ptr (key d 0) 0) h1 [] [key d 0]) none) none

def fieldOff (fs : List (Nat × TypeId)) (f : Nat) : Nat × TypeId := nth (0, 0) fs f
def ptrAdd (p : AV) (o : Nat) (k : AV → Option β) : Option β := match p with
  | .ptr kk off => k (.ptr kk (off + o))
  | .elp kk ver i off => k (.elp kk ver i (off + o))
  | .tel s row off => k (.tel s row (off + o))
  | .t x => T.ptK x fun s row => k (.tel s row o)
  | _ => none

def fieldPl (cx : Cx) (fs : List (Nat × TypeId)) (f : Nat) : Nat × Nat := cond (Nat.blt f fs.length) ((fieldOff fs f).1, cx.sz (fieldOff fs f).2) (0, 0)
def fillParts (place : Nat → Nat × Nat) (cells : List AV) : List (Nat × AV) → Option (List AV)
  | [] => some cells
  | (i, v) :: rest => cond (Nat.ble 1 (place i).2) (cond (allStorable v.cells) (cond (Nat.beq v.cells.length (place i).2) (cond (Nat.ble ((place i).1 + (place i).2) cells.length) (fillParts place (setCells cells (place i).1 v.cells) rest) none) none) none) none

def binK (cx : Cx) (op : BinOp) (t : TypeId) (x y : AV) (k : AV → Option β) : Option β := match (cx.tyi t).kind with
  | .int j => AV.intK x fun j1 a => AV.intK y fun j2 b => cond (IntKind.same j1 j) (cond (IntKind.same j2 j) (match op with
    | .add => k (.t (.int j (j.wrap (a + b))))
    | .sub => k (.t (.int j (j.wrap (a - b))))
    | .mul => k (.t (.int j (j.wrap (a * b))))
    | .quo => cond (b == 0) none (k (.t (.int j (j.wrap (a.tdiv b)))))
    | .rem => cond (b == 0) none (k (.t (.int j (a.tmod b))))
    | .eql => k (.t (.bool (a == b)))
    | .neq => k (.t (.bool (!(a == b))))
    | .lss => k (.t (.bool (decide (a < b))))
    | .leq => k (.t (.bool (decide (a ≤ b))))
    | .gtr => k (.t (.bool (decide (b < a))))
    | .geq => k (.t (.bool (decide (b ≤ a))))
    | _ => none) none) none
  | .str => AV.strK x fun a => AV.strK y fun b => match op with
    | .add => cond (Nat.ble (a.length + b.length) 9223372036854775807) (k (.t (.str (a ++ b)))) none
    | .eql => k (.t (.bool (a == b)))
    | .neq => k (.t (.bool (!(a == b))))
    | .lss => k (.t (.bool (Op.bytesLess a b)))
    | .leq => k (.t (.bool (Op.bytesLess a b || a == b)))
    | .gtr => k (.t (.bool (!(Op.bytesLess a b || a == b))))
    | .geq => k (.t (.bool (!Op.bytesLess a b)))
    | _ => none
  | .bool => AV.boolK x fun a => AV.boolK y fun b => match op with
    | .eql => k (.t (.bool (a == b)))
    | .neq => k (.t (.bool (!(a == b))))
    | _ => none
  | .ptr _ =>
    let kb := fun b : Bool => match op with | .eql => k (.t (.bool b)) | .neq => k (.t (.bool (!b))) | _ => none
    match x, y with
    | .t a, .t b => T.nilK a fun na => T.nilK b fun nb => cond nb (kb na) (cond na (kb false) none)
    | .ptr _ _, .t b => T.nilK b fun nb => cond nb (kb false) none
    | .t a, .ptr _ _ => T.nilK a fun na => cond na (kb false) none
    | _, _ => none
  | _ => none

def unK (op : UnOp) (x : AV) (k : AV → Option β) : Option β := match op with
  | .not => AV.boolK x fun b => k (.t (.bool (!b)))
  | .neg => AV.intK x fun j a => k (.t (.int j (j.wrap (0 - a))))
  | _ => none

def lenK (h : Heap) (x : AV) (k : Int → List Nat → Option β) : Option β := match x with
  | .t y => T.slK y fun _ rows => k rows.length []
  | .nils _ _ => k 0 []
  | .rowp kk ver n => match look h kk with
    | some (.row v' _ _ rows) => cond (Nat.beq ver v') (k (tk n rows).length [kk]) none
    | some (.irow v' _ rows) => cond (Nat.beq ver v') (k (tk n rows).length [kk]) none
    | _ => none
  | _ => none

/-- How many elements of so many bytes a slice may have. -/
def lim (bytes : Nat) : Nat := 140737488355328 / bytes

def appendK (cx : Cx) (d : Nat) (t : TypeId) (h : Heap) (x y : AV) (k : OpK β) : Option β := match (cx.tyi t).kind with
  | .slice e => cond (Nat.ble 1 (cx.sz e)) (rowsK h (cx.sz e) y fun ys ry => cond (Nat.ble 1 (cx.tyi e).zero.length) (cond (Nat.ble 1 (cx.tyi e).bytes) (match x with
    | .nils e' s => cond (Nat.beq e' e) (cond (Nat.beq s (cx.sz e)) (cond (Nat.ble ys.length (lim (cx.tyi e).bytes)) (new h (key d 0) (.row 1 s e ys) fun h1 => k (.rowp (key d 0) 1 none) h1 ry [key d 0]) none) none) none
    | .rowp kk ver n => match look h kk with
      | some (.row v' s e' rows) => cond (Nat.beq e' e) (cond (Nat.beq ver v') (cond (Nat.beq s (cx.sz e)) (cond (Nat.ble ((tk n rows).length + ys.length) (lim (cx.tyi e).bytes))
          (k (.rowp kk (v' + 1) none) (upd h kk (.row (v' + 1) s e (tk n rows ++ ys))) ry [kk]) none) none) none) none
      | _ => none
    | _ => none) none) none) none
  | _ => none

/-- Between which bounds: those that are not said are 0 and n. -/
def loK (lo : Option AV) (k : Int → Option β) : Option β := match lo with
  | none => k 0
  | some v => AV.intK v fun _ n => k n
def hiK (hi : Option AV) (n : Nat) (k : Int → Option β) : Option β := match hi with
  | none => k n
  | some v => AV.intK v fun _ m => k m
def sliceK (cx : Cx) (t : TypeId) (h : Heap) (x : AV) (lo hi : Option AV) (k : OpK β) : Option β := match (cx.tyi t).kind with
  | .str => AV.strK x fun s => loK lo fun l => hiK hi s.length fun u =>
      cond (decide (0 ≤ l ∧ l ≤ u ∧ u ≤ s.length)) (k (.t (.str (dropN l.toNat (takeN u.toNat s)))) h [] []) none
  | .slice e => cond (Nat.ble 1 (cx.sz e)) (match x with
    | .t y => T.slK y fun s rows => loK lo fun l => hiK hi rows.length fun u =>
        cond (decide (0 ≤ l ∧ l ≤ u ∧ u ≤ rows.length)) (cond (Nat.beq s (cx.sz e)) (k (.t (.sl (cx.sz e) (dropN l.toNat (takeN u.toNat rows)))) h [] []) none) none
    | .rowp kk ver none => match lo, hi with
      | none, some v => AV.intK v fun _ u => match look h kk with
        | some (.row v' s _ rows) => cond (Nat.beq ver v') (cond (Nat.beq s (cx.sz e)) (cond (decide (0 ≤ u ∧ u ≤ rows.length)) (k (.rowp kk ver (some u.toNat)) h [kk] []) none) none) none
        | _ => none
      | _, _ => match strip0 h x with
        | some (.sl s rows, h1, w1) => loK lo fun l => hiK hi rows.length fun u =>
            cond (decide (0 ≤ l ∧ l ≤ u ∧ u ≤ rows.length)) (cond (Nat.beq s (cx.sz e)) (k (.t (.sl s (dropN l.toNat (takeN u.toNat rows)))) h1 [] w1) none) none
        | _ => none
    | _ => none) none
  | _ => none

def indexK (cx : Cx) (t : TypeId) (h : Heap) (x i : AV) (k : OpK β) : Option β := AV.intK i fun _ n => match (cx.tyi t).kind with
  | .slice e => match x with
    | .t y => T.slK y fun s rows => cond (Nat.beq s (cx.sz e)) (cond (Nat.ble 1 (cx.sz e)) (cond (decide (0 ≤ n ∧ n < rows.length)) (k (.tel (cx.sz e) (nth [] rows n.toNat) 0) h [] []) none) none) none
    | .rowp kk ver m => match look h kk with
      | some (.row v' s _ rows) => cond (Nat.beq ver v') (cond (Nat.beq s (cx.sz e)) (cond (Nat.ble 1 (cx.sz e)) (cond (decide (0 ≤ n ∧ n < (tk m rows).length)) (k (.elp kk ver n.toNat 0) h [kk] []) none) none) none) none
      | some (.irow v' s rows) => cond (Nat.beq ver v') (cond (Nat.beq s (cx.sz e)) (cond (Nat.ble 1 (cx.sz e)) (cond (decide (0 ≤ n ∧ n < (tk m rows).length)) (k (.tel (cx.sz e) (nth [] rows n.toNat) 0) h [kk] []) none) none) none) none
      | _ => none
    | _ => none
  | .arr len e => match x with
    | .ptr kk off => cond (Nat.ble 1 (cx.sz e)) (cond (decide (0 ≤ n ∧ n < len)) (k (.ptr kk (off + n.toNat * cx.sz e)) h [] []) none) none
    | _ => none
  | _ => none

/-! ### Calls -/
def addImp (imps : List Nat) (kk : Nat) : List Nat := cond (mem imps kk) imps (imps ++ [kk])
/-- The version at which a row begins in the callee: 0 where it must not be appended to. -/
def startV (h : Heap) (muts : List Nat) (kk : Nat) : Nat := match look h kk with
  | some (.row v _ _ _) => cond (Nat.beq v 0) 0 (cond (mem muts kk) 0 1)
  | _ => 1
def mutKeys (own : List (Nat × Bool)) (i : Nat) : List AV → List Nat
  | [] => []
  | v :: l => match v, asc own i with
    | .rowp kk _ _, some false => kk :: mutKeys own (i + 1) l
    | _, _ => mutKeys own (i + 1) l
/-- A cell of an argument, or of an entry that goes with it: what the callee sees; the keys that go with it. own: rows stay open. -/
def convL (h : Heap) (muts : List Nat) (own : Bool) (imps : List Nat) (v : AV) : Option (AV × List Nat × List Nat) := match v with
  | .t x => some (.t x, imps, [])
  | .nils e s => cond own (some (.nils e s, imps, [])) (some (.t (.sl s []), imps, []))
  | .rowp kk ver n => match look h kk with
    | some (.row v' s _ rows) => cond (Nat.beq ver v') (match own, n with
        | true, none => some (.rowp (idx (addImp imps kk) kk) (startV h muts kk) none, addImp imps kk, [])
        | _, n => some (.t (.sl s (tk n rows)), imps, [kk])) none
    | some (.irow v' s rows) => cond (Nat.beq ver v') (some (.t (.sl s (tk n rows)), imps, [])) none
    | _ => none
  | .ptr kk off => match look h kk with
    | some (.box _ _) => some (.ptr (idx (addImp imps kk) kk) off, addImp imps kk, [])
    | some (.ibox xs) => cond (Nat.beq off 0) (some (.t (.pt xs.length xs), imps, [])) (some (.tel xs.length xs off, imps, []))
    | _ => none
  | .tel s row off => some (.tel s row off, imps, [])
  | .mapp kk => match look h kk with
    | some (.map _) => some (.mapp (idx (addImp imps kk) kk), addImp imps kk, [])
    | _ => none
  | _ => none
def convLs (h : Heap) (muts : List Nat) (own : Bool) (imps : List Nat) : List AV → Option (List AV × List Nat × List Nat)
  | [] => some ([], imps, [])
  | v :: l => match convL h muts own imps v with
    | none => none
    | some (v1, i1, b1) => match convLs h muts own i1 l with
      | none => none
      | some (l2, i2, b2) => some (v1 :: l2, i2, b1 ++ b2)
def convV (h : Heap) (muts : List Nat) (own : Bool) (imps : List Nat) (v : AV) : Option (AV × List Nat × List Nat) := match v with
  | .agg l => match convLs h muts own imps l with
    | none => none
    | some (l1, i1, b1) => some (.agg l1, i1, b1)
  | .clo f caps => match convLs h muts true imps caps with
    | none => none
    | some (l1, i1, b1) => some (.clo f l1, i1, b1)
  | v => convL h muts own imps v
def convArgs (h : Heap) (muts : List Nat) (own : List (Nat × Bool)) (imps : List Nat) (i : Nat) : List AV → Option (List AV × List Nat × List Nat)
  | [] => some ([], imps, [])
  | v :: l => match convV h muts (match asc own i with | some _ => true | none => false) imps v with
    | none => none
    | some (v1, i1, b1) => match convArgs h muts own i1 (i + 1) l with
      | none => none
      | some (l2, i2, b2) => some (v1 :: l2, i2, b1 ++ b2)

/-- The entries that go with the arguments. -/
def convEnts (h : Heap) (muts : List Nat) : (fuel i : Nat) → List Nat → Option (Heap × List Nat × List Nat)
  | 0, _, _ => none
  | fuel + 1, i, imps => cond (Nat.ble imps.length i) (some ([], imps, [])) (match look h (nth 0 imps i) with
    | some (.row _ s e rows) => match convEnts h muts fuel (i + 1) imps with
      | none => none
      | some (h2, i2, b2) => some ((i, .row (startV h muts (nth 0 imps i)) s e rows) :: h2, i2, b2)
    | some (.box sh cells) => match convLs h muts true imps cells with
      | none => none
      | some (c1, i1, b1) => match convEnts h muts fuel (i + 1) i1 with
        | none => none
        | some (h2, i2, b2) => some ((i, .box sh c1) :: h2, i2, b1 ++ b2)
    | some (.map l) => match convEnts h muts fuel (i + 1) imps with
      | none => none
      | some (h2, i2, b2) => some ((i, .map l) :: h2, i2, b2)
    | _ => none)

/-! What comes back -/
def AV.rowpK (v : AV) (kk vv : Nat) (k : Option β) : Option β := match v with
  | .rowp k1 v1 none => cond (Nat.beq k1 kk) (cond (Nat.beq v1 vv) k none) none
  | _ => none
def AV.ptrK (v : AV) (kk off : Nat) (k : Option β) : Option β := match v with
  | .ptr k1 o1 => cond (Nat.beq k1 kk) (cond (Nat.beq o1 off) k none) none
  | _ => none
def AV.mappK (v : AV) (kk : Nat) (k : Option β) : Option β := match v with
  | .mapp k1 => cond (Nat.beq k1 kk) k none
  | _ => none
def AV.aggK (v : AV) (k : List AV → Option β) : Option β := match v with | .agg l => k l | _ => none
def AV.tupK (v : AV) (k : List AV → Option β) : Option β := match v with | .tup l => k l | _ => none
def AV.int1K (v : AV) (j : IntKind) (k : Int → Option β) : Option β := AV.intK v fun j1 n => cond (IntKind.same j1 j) (k n) none
def AV.sl1K (v : AV) (s : Nat) (k : List (List T) → Option β) : Option β := AV.tK v fun x => T.slK x fun s1 rows => cond (Nat.beq s1 s) (k rows) none
def decL (s : ShL) (v : AV) (k : AV → Option β) : Option β := match s with
  | .bool => AV.boolK v fun b => k (.t (.bool b))
  | .int j => AV.int1K v j fun n => k (.t (.int j n))
  | .str => AV.strK v fun l => k (.t (.str l))
  | .sl s => AV.sl1K v s fun rows => k (.t (.sl s rows))
  | .any => AV.tK v fun x => k (.t x)
  | .rowp kk vv => AV.rowpK v kk vv (k (.rowp kk vv none))
  | .ptr kk off => AV.ptrK v kk off (k (.ptr kk off))
  | .mapp kk => AV.mappK v kk (k (.mapp kk))
  | .dead => k .dead
def decLs : List ShL → List AV → (List AV → Option β) → Option β
  | [], l, k => nilK l (k [])
  | s :: ss, l, k => consK l fun a l => decL s a fun a' => decLs ss l fun l' => k (a' :: l')
def decV (s : ShV) (v : AV) (k : AV → Option β) : Option β := match s with
  | .one s => decL s v k
  | .agg ss => AV.aggK v fun l => decLs ss l fun l' => k (.agg l')
def decVs : List ShV → List AV → (List AV → Option β) → Option β
  | [], l, k => nilK l (k [])
  | s :: ss, l, k => consK l fun a l => decV s a fun a' => decVs ss l fun l' => k (a' :: l')
def decR (s : ShR) (v : AV) (k : AV → Option β) : Option β := match s with
  | .val s => decV s v k
  | .tup ss => AV.tupK v fun l => decVs ss l fun l' => k (.tup l')
def Ent.boxK (e : Ent) (k : List AV → Option β) : Option β := match e with | .box _ l => k l | _ => none
def Ent.rowK (e : Ent) (v s : Nat) (t : TypeId) (k : List (List T) → Option β) : Option β := match e with
  | .row v1 s1 t1 rows => cond (Nat.beq v1 v) (cond (Nat.beq s1 s) (cond (Nat.beq t1 t) (k rows) none) none) none
  | _ => none
def Ent.mapK (e : Ent) (k : List Str → Option β) : Option β := match e with | .map l => k l | _ => none
def decE (s : ShE) (e : Ent) (k : Ent → Option β) : Option β := match s with
  | .box sh l => Ent.boxK e fun c => decLs l c fun c' => k (.box sh c')
  | .row v s t => Ent.rowK e v s t fun rows => k (.row v s t rows)
  | .map => Ent.mapK e fun l => k (.map l)
def decEs : (i : Nat) → List ShE → Heap → (List Ent → Option β) → Option β
  | _, [], h, k => nilK h (k [])
  | i, s :: ss, h, k => consK h fun p h => cond (Nat.beq p.1 i) (decE s p.2 fun e => decEs (i + 1) ss h fun l => k (e :: l)) none

def shCell (sh : ShL) (v : AV) : ShL := match v with
  | .t _ => sh
  | .rowp k v _ => .rowp k v
  | .ptr k off => .ptr k off
  | .mapp k => .mapp k
  | _ => .dead
def shCells : List ShL → List AV → List ShL
  | s :: ss, v :: vs => shCell s v :: shCells ss vs
  | _, _ => []
def shEnts : Heap → List ShE
  | [] => []
  | (_, .box sh cells) :: h => .box sh (shCells sh cells) :: shEnts h
  | (_, .row v s e _) :: h => .row v s e :: shEnts h
  | (_, .map _) :: h => .map :: shEnts h
  | _ :: h => shEnts h

def ShL.scalar : ShL → Bool | .bool | .int _ | .str => true | _ => false
def ShL.scalars : List ShL → Bool
  | [] => true
  | s :: l => cond s.scalar (ShL.scalars l) false
def ShV.scalar : ShV → Bool | .one s => s.scalar | .agg ss => ShL.scalars ss
def ShV.scalars : List ShV → Bool
  | [] => true
  | s :: l => cond s.scalar (ShV.scalars l) false
def ShR.scalar : ShR → Bool | .val s => s.scalar | .tup ss => ShV.scalars ss

def Cx.shV (cx : Cx) (t : TypeId) : ShV := match (cx.tyi t).kind with
  | .struct _ | .arr _ _ => .agg (cx.tyi t).sh
  | _ => .one (nth .dead (cx.tyi t).sh 0)
def Cx.shR (cx : Cx) (t : TypeId) : ShR := match (cx.tyi t).kind with
  | .tuple l => .tup (l.map cx.shV)
  | _ => .val (cx.shV t)

/-- Back in the caller: keys and versions. -/
def backKey (imps : List Nat) (d : Nat) (i : Nat) : Nat := cond (Nat.blt i imps.length) (nth 0 imps i) (key d (32 + (i - imps.length)))
def verOf (h : Heap) (kk : Nat) : Nat := match look h kk with | some (.row v _ _ _) => v | _ => 0
def backL (h : Heap) (imps : List Nat) (d : Nat) (v : AV) : AV := match v with
  | .rowp i ver n => .rowp (backKey imps d i) (verOf h (backKey imps d i) + ver) n
  | .ptr i off => .ptr (backKey imps d i) off
  | .mapp i => .mapp (backKey imps d i)
  | v => v
def backV (h : Heap) (imps : List Nat) (d : Nat) (v : AV) : AV := match v with
  | .agg l => .agg (l.map (backL h imps d))
  | v => backL h imps d v
def backR (h : Heap) (imps : List Nat) (d : Nat) (v : AV) : AV := match v with
  | .tup l => .tup (l.map (backV h imps d))
  | v => backV h imps d v
def backE (h : Heap) (imps : List Nat) (d : Nat) (kk : Nat) (e : Ent) : Ent := match e with
  | .box sh cells => .box sh (cells.map (backL h imps d))
  | .row v s t rows => .row (verOf h kk + v) s t rows
  | e => e
def backEs (h0 : Heap) (imps : List Nat) (d : Nat) : (i : Nat) → List Ent → Heap → Heap
  | _, [], h => h
  | i, e :: es, h => backEs h0 imps d (i + 1) es (upd h (backKey imps d i) (backE h0 imps d (backKey imps d i) e))
def freezeAll (h : Heap) : List Nat → Heap
  | [] => h
  | kk :: l => match look h kk with
    | some (.row v s _ rows) => freezeAll (upd h kk (.irow v s rows)) l
    | _ => freezeAll h l

def freshAll (h : Heap) (d : Nat) : (j n : Nat) → Bool
  | _, 0 => true
  | j, n + 1 => match look h (key d (32 + j)) with | none => freshAll h d (j + 1) n | some _ => false
def keysFrom (d : Nat) : (j n : Nat) → List Nat
  | _, 0 => []
  | j, n + 1 => key d (32 + j) :: keysFrom d (j + 1) n

/-- A nil slice that is handed over to be appended to becomes a row. -/
def nilArgs (d : Nat) (own : List (Nat × Bool)) (i : Nat) (h : Heap) : List AV → Option (List AV × Heap × List Nat)
  | [] => some ([], h, [])
  | v :: l => match v, asc own i with
    | .nils e s, some _ => (match look h (key d (48 + i)) with
      | some _ => none
      | none => cond (Nat.ble 1 s) (match nilArgs d own (i + 1) (upd h (key d (48 + i)) (.row 1 s e [])) l with
        | none => none
        | some (l2, h2, w2) => some (.rowp (key d (48 + i)) 1 none :: l2, h2, key d (48 + i) :: w2)) none)
    | v, _ => match nilArgs d own (i + 1) h l with
      | none => none
      | some (l2, h2, w2) => some (v :: l2, h2, w2)

def meet : List Nat → List Nat → Bool
  | [], _ => false
  | k :: l, m => cond (mem m k) true (meet l m)
abbrev CallF := FuncId → List AV → Heap → Option Res
def callK (cx : Cx) (C : CallF) (d : Nat) (ty : TypeId) (f : FuncId) (args0 : List AV) (h0 : Heap) (k : OpK β) : Option β :=
  match nilArgs d ((asc cx.own f).getD []) 0 h0 args0 with
  | none => none
  | some (args, h, w0) => match convArgs h (mutKeys ((asc cx.own f).getD []) 0 args) ((asc cx.own f).getD []) [] 0 args with
  | none => none
  | some (args1, i1, b1) => match convEnts h (mutKeys ((asc cx.own f).getD []) 0 args) 64 0 i1 with
    | none => none
    | some (h1, imps, b2) =>
      cond (meet (b1 ++ b2) imps) none <| (C f args1 h1).bind fun p =>
        let sp : ShR × List ShE := (asc cx.ret f).getD (cx.shR ty, [])
        decR sp.1 p.1 fun r => decEs 0 (shEnts h1 ++ sp.2) p.2 fun es =>
          cond (freshAll h d 0 sp.2.length)
            (match cond sp.1.scalar (Nat.beq imps.length 0) false, sp.2 with
            | true, [] => k (backR h imps d r) h (b1 ++ b2) w0
            | _, _ => k (backR h imps d r) (freezeAll (backEs h imps d 0 es h) (b1 ++ b2)) [] (w0 ++ b1 ++ b2 ++ imps ++ keysFrom d 0 sp.2.length)) none

/-! ### Functions of Go's library, taken by their meaning -/
def prefixB : Str → Str → Bool
  | [], _ => true
  | _ :: _, [] => false
  | a :: p, b :: s => a == b && prefixB p s
/-- The text before and behind the first place of sep, and whether there is one. -/
def cutS (s sep : Str) : Str × Str × Bool := match s with
  | [] => match sep with | [] => ([], [], true) | _ => ([], [], false)
  | c :: r => cond (prefixB sep (c :: r)) ([], dropN sep.length (c :: r), true) (let q := cutS r sep; cond q.2.2 (c :: q.1, q.2.1, true) (c :: r, [], false))
def containsS (s sub : Str) : Bool := (cutS s sub).2.2
def compareS (a b : Str) : Int := cond (Op.bytesLess a b) (-1) (cond (a == b) 0 1)
def T.strOf : T → Option Str | .str s => some s | _ => none
def strsOf : List (List T) → Option (List Str)
  | [] => some []
  | [x] :: l => match x.strOf, strsOf l with | some s, some r => some (s :: r) | _, _ => none
  | _ => none
def joinS (sep : Str) : List Str → Str
  | [] => []
  | [s] => s
  | s :: l => s ++ sep ++ joinS sep l
def joinK (rows : List (List T)) (sep : Str) (k : Str → Option β) : Option β := match strsOf rows with
  | none => none
  | some l => cond (Nat.ble l.length 140737488355328) (cond (Nat.ble (joinS sep l).length 140737488355328) (k (joinS sep l)) none) none
def primK (p : Prim) (args : List T) (k : AV → Option β) : Option β := match p, args with
  | .contains, [x, y] => T.strK x fun a => T.strK y fun b => cond (Nat.beq b.length 1) (k (.t (.bool (containsS a b)))) none
  | .cut, [x, y] => T.strK x fun a => T.strK y fun b => cond (Nat.beq b.length 1) (cond (Nat.ble a.length 9223372036854775807) (k (.tup [.t (.str (cutS a b).1), .t (.str (cutS a b).2.1), .t (.bool (cutS a b).2.2)])) none) none
  | .compare, [x, y] => T.strK x fun a => T.strK y fun b => k (.t (.int .i64 (compareS a b)))
  | .join, [x, y] => T.slK x fun s rows => cond (Nat.beq s 1) (T.strK y fun b => joinK rows b fun l => k (.t (.str l))) none
  | _, _ => none
def bareArgs (h : Heap) : List AV → Option (List T × List Nat)
  | [] => some ([], [])
  | v :: l => match convL h [] false [] v with
    | some (.t x, _, b) => (match bareArgs h l with | none => none | some (xs, b2) => some (x :: xs, b ++ b2))
    | _ => none

def parts (cx : Cx) (s : St) (ty : Nat → TypeId) (ps : List (Nat × Operand)) : List (Nat × AV) := match ps with
  | [] => []
  | (i, x) :: l => (i, opdT cx s (ty i) x) :: parts cx s ty l

/-! Maps: the keys that are there; all have the value true. -/
def memS (l : List Str) (s : Str) : Bool := match l with
  | [] => false
  | x :: l => cond (x == s) true (memS l s)
def addS (l : List Str) (s : Str) : List Str := cond (memS l s) l (l ++ [s])
def mapK (h : Heap) (x : AV) (k : Nat → List Str → Option β) : Option β := match x with
  | .mapp kk => (match look h kk with
    | some (.map l) => k kk l
    | _ => none)
  | _ => none
/-- The letters of a row of bytes. -/
def bytesOf : List (List T) → Option Str
  | [] => some []
  | [.int .u8 n] :: l => (match bytesOf l with | some r => some (UInt8.ofNat n.toNat :: r) | none => none)
  | _ => none
/-- The rows of a literal: each part an element. -/
def litRows (h : Heap) (es : Nat) (rows : List (List T)) : List (Nat × AV) → Option (List (List T) × Heap × List Nat)
  | [] => some (rows, h, [])
  | (i, v) :: l => cond (Nat.beq v.cells.length es) (cond (Nat.blt i rows.length) (match strip1s h v.cells with
    | none => none
    | some (xs, h1, w1) => match litRows h1 es (setN rows i xs) l with
      | none => none
      | some (r2, h2, w2) => some (r2, h2, w1 ++ w2)) none) none
def rep {α : Type} (x : α) : Nat → List α
  | 0 => []
  | n + 1 => x :: rep x n

abbrev Lv := List (Nat × List Bool)
/-- Nil slices that live at a loop's head become rows; or, where the table says so, slices are fixed there. -/
def tokAt (lv : Lv) (kk : Nat) (v : AV) (h : Heap) : AV × Heap := match asc lv (200000 + kk) with
  | some _ => (match strip0 h v with
    | some (x, h1, _) => (.t x, h1)
    | none => (v, h))
  | none => (match v with
    | .nils e s => cond (Nat.ble 1 s) (match look h kk with | none => (.rowp kk 1 none, upd h kk (.row 1 s e [])) | some _ => (v, h)) (v, h)
    | _ => (v, h))
def tokCells (lv : Lv) (k j : Nat) (l : List AV) (h : Heap) : List AV × Heap := match l with
  | [] => ([], h)
  | v :: l => let p := tokAt lv (k + 1 + j) v h; let q := tokCells lv k (j + 1) l p.2; (p.1 :: q.1, q.2)
def tokHeap (lv : Lv) (l : Heap) (h : Heap) : Heap := match l with
  | [] => h
  | (k, _) :: l => match look h k with
    | some (.box sh cells) => let p := tokCells lv k 0 cells h; tokHeap lv l (upd p.2 k (.box sh p.1))
    | _ => tokHeap lv l h
/-- Before a call of a function that the table names, nil slices in boxes become rows. -/
def tokIf (cx : Cx) (f : FuncId) (h : Heap) : Heap := cond (mem cx.tok f) (tokHeap [] h h) h
def tokWr (cx : Cx) (f : FuncId) (h : Heap) (wr : List Nat) : List Nat := cond (mem cx.tok f) ((tokHeap [] h h).map (·.1) ++ wr) wr

def opK (cx : Cx) (C : CallF) (o : Oper) (s : St) (k : OpK β) : Option β :=
  let d := match o.dst with | some d => d | none => 0
  match o.op with
  | .move x => k (opdT cx s o.type x) s.heap [] []
  | .assign x => k (opdT cx s o.type x) s.heap [] []
  | .pick c a b => AV.boolK (opd s c) fun t => cond t (k (opd s a) s.heap [] []) (k (opd s b) s.heap [] [])
  | .alloc t => cond (Nat.ble 1 (cx.sz t)) (boxK cx d t s.heap ((cx.tyi t).zero.map ZC.av) k) none
  | .box t x => boxK cx d t s.heap (opdT cx s t x).cells k
  | .build t ps => cond (Nat.ble 1 (cx.tyi t).zero.length) (match (cx.tyi t).kind with
    | .struct fs => (match fillParts (fieldPl cx fs) ((cx.tyi t).zero.map ZC.av) (parts cx s (fun i => (fieldOff fs i).2) ps.toList) with
      | some cells => k (.agg cells) s.heap [] []
      | none => none)
    | .arr _ e => cond (Nat.ble 1 (cx.sz e)) (match fillParts (fun i => (i * cx.sz e, cx.sz e)) ((cx.tyi t).zero.map ZC.av) (parts cx s (fun _ => e) ps.toList) with
      | some cells => k (.agg cells) s.heap [] []
      | none => none) none
    | _ => none) none
  | .buildSlice t len ps => (match (cx.tyi t).kind with
    | .slice e => cond (Nat.ble 1 (cx.tyi e).zero.length) (cond (Nat.ble (len * cx.sz e) 16777216) (match litRows s.heap (cx.sz e) (rep ((cx.tyi e).zero.map ZC.tt) len) (parts cx s (fun _ => e) ps.toList) with
      | some (rows, h1, w1) => new h1 (key d 0) (.row 1 (cx.sz e) e rows) fun h2 => k (.rowp (key d 0) 1 none) h2 [] (key d 0 :: w1)
      | none => none) none) none
    | _ => none)
  | .load t a => loadK cx t s.heap (opd s a) k
  | .store t a x => storeK cx t (cutAt (mem cx.cut t) s.heap (opdT cx s t x)).2.1 (opd s a) (cutAt (mem cx.cut t) s.heap (opdT cx s t x)).1 fun v h rd wr => k v h rd ((cutAt (mem cx.cut t) s.heap (opdT cx s t x)).2.2 ++ wr)
  | .nilCheck x => (match opd s x with
    | .ptr kk off => k (.ptr kk off) s.heap [] []
    | .elp kk v i off => k (.elp kk v i off) s.heap [] []
    | .tel es row off => k (.tel es row off) s.heap [] []
    | .t x => T.ptK x fun s1 row => k (.tel s1 row 0) s.heap [] []
    | .clo f caps => k (.clo f caps) s.heap [] []
    | _ => none)
  | .binOp op t x y _ => binK cx op t (opd s x) (opd s y) fun v => k v s.heap [] []
  | .unOp op _ x => unK op (opd s x) fun v => k v s.heap [] []
  | .makeFunc (.func f) first caps => (match first.toList with
    | [] => cond (mem cx.frz f) (match strip1s s.heap (caps.toList.map (opd s)) with
      | some (xs, h1, w1) => k (.clo f (xs.map .t)) h1 [] w1
      | none => none) <| cond (allLeaf (caps.toList.map (opd s))) (k (.clo f (caps.toList.map (opd s))) s.heap [] []) none
    | _ => none)
  | .makeSlice t l c => (match (cx.tyi t).kind with
    | .slice e => AV.intK (opd s l) fun j1 n => AV.intK (opd s c) fun j2 m => cond (IntKind.same j1 .i64) (cond (IntKind.same j2 .i64) (cond (Nat.ble 1 (cx.tyi e).zero.length) (cond (Nat.ble 1 (cx.tyi e).bytes)
        (cond (decide (0 ≤ n ∧ n ≤ m ∧ m ≤ (lim (cx.tyi e).bytes : Nat))) (new s.heap (key d 0) (.row 1 (cx.sz e) e (rep ((cx.tyi e).zero.map ZC.tt) n.toNat)) fun h1 => k (.rowp (key d 0) 1 none) h1 [] [key d 0]) none) none) none) none) none
    | _ => none)
  | .slice t x lo hi none => sliceK cx t s.heap (opd s x) (lo.map (opd s)) (hi.map (opd s)) k
  | .fieldAddr t x f => (match (cx.tyi t).kind with
    | .struct fs => cond (Nat.ble 1 (fieldPl cx fs f).2) (ptrAdd (opd s x) (fieldOff fs f).1 fun v => k v s.heap [] []) none
    | _ => none)
  | .field t x f => (match (cx.tyi t).kind with
    | .struct fs => AV.aggK (opd s x) fun l => cond (Nat.ble 1 (fieldPl cx fs f).2) (cond (loadOk cx (fieldOff fs f).2) (cond (Nat.ble ((fieldOff fs f).1 + cx.sz (fieldOff fs f).2) l.length) (k (loadV cx (fieldOff fs f).2 (slotsAt .dead l (fieldOff fs f).1 (cx.sz (fieldOff fs f).2))) s.heap [] []) none) none) none
    | _ => none)
  | .indexAddr t x i => indexK cx t s.heap (opd s x) (opd s i) k
  | .index t x i => (match (cx.tyi t).kind with
    | .str => AV.strK (opd s x) fun l => AV.intK (opd s i) fun _ n => cond (decide (0 ≤ n ∧ n < l.length)) (k (.t (.int .u8 (nth 0 l n.toNat).toNat)) s.heap [] []) none
    | _ => none)
  | .convert t1 t2 x => (match (cx.tyi t1).kind, (cx.tyi t2).kind with
    | .int _, .int j => AV.intK (opd s x) fun _ n => k (.t (.int j (j.wrap n))) s.heap [] []
    | .str, .str => AV.strK (opd s x) fun l => k (.t (.str l)) s.heap [] []
    | .slice e, .str => (match (cx.tyi e).kind with
      | .int .u8 => rowsK s.heap 1 (opdT cx s t1 x) fun rows rd => (match bytesOf rows with
        | some l => k (.t (.str l)) s.heap rd []
        | none => none)
      | _ => none)
    | _, _ => none)
  | .makeMap t none => (match (cx.tyi t).kind with
    | .map _ _ => new s.heap (key d 0) (.map []) fun h1 => k (.mapp (key d 0)) h1 [] [key d 0]
    | _ => none)
  | .lookup t x i false => (match (cx.tyi t).kind with
    | .map _ _ => mapK s.heap (opd s x) fun kk l => AV.strK (opd s i) fun a => k (.t (.bool (memS l a))) s.heap [kk] []
    | _ => none)
  | .mapUpdate t m i x => (match (cx.tyi t).kind with
    | .map _ _ => mapK s.heap (opd s m) fun kk l => AV.strK (opd s i) fun a => AV.boolK (opd s x) fun b => cond b (k .undef (upd s.heap kk (.map (addS l a))) [] [kk]) none
    | _ => none)
  | .extract x i => (match opd s x with
    | .tup l => cond (Nat.blt i l.length) (k (nth .dead l i) s.heap [] []) none
    | _ => none)
  | .call c => (match c.callee with
    | .builtin .len => (match c.args.toList, c.argTypes.toList with
      | [x], [t] => (match (cx.tyi t).kind with
        | .str => AV.strK (opd s x) fun l => k (.t (.int .i64 l.length)) s.heap [] []
        | .slice _ => lenK s.heap (opdT cx s t x) fun n rd => k (.t (.int .i64 n)) s.heap rd []
        | .map _ _ => mapK s.heap (opd s x) fun kk l => k (.t (.int .i64 l.length)) s.heap [kk] []
        | _ => none)
      | _, _ => none)
    | .builtin .append => (match c.args.toList, c.argTypes.toList with
      | [x, y], [t, t'] => cond (Nat.beq t t') (appendK cx d t s.heap (opdT cx s t x) (opdT cx s t y) k) none
      | _, _ => none)
    | .builtin .max => (match c.args.toList with
      | [x, y] => AV.intK (opd s x) fun j a => AV.intK (opd s y) fun j2 b => cond (IntKind.same j j2) (k (.t (.int j (cond (decide (a < b)) b a))) s.heap [] []) none
      | _ => none)
    | .builtin .min => (match c.args.toList with
      | [x, y] => AV.intK (opd s x) fun j a => AV.intK (opd s y) fun j2 b => cond (IntKind.same j j2) (k (.t (.int j (cond (decide (b < a)) b a))) s.heap [] []) none
      | _ => none)
    | .value f => (match opd s f with
      | .clo f caps =>
        cond (Nat.beq c.args.toList.length c.argTypes.toList.length) (match asc cx.prim f with
        | some p => (match caps, bareArgs s.heap ((c.args.toList.zip c.argTypes.toList).map (fun p => opdT cx s p.2 p.1)) with
          | [], some (xs, b) => primK p xs fun v => k v s.heap b []
          | _, _ => none)
        | none => callK cx C d o.type f ((c.args.toList.zip c.argTypes.toList).map (fun p => opdT cx s p.2 p.1) ++ caps) (tokIf cx f s.heap) fun v h rd wr => k v h rd (tokWr cx f s.heap wr)) none
      | _ => none)
    | _ => none)
  | _ => none

def St.putd (s : St) (dst : Option Tmp) (v : AV) (h : Heap) : St := match dst with
  | some d => ⟨setN s.slots d v, h⟩
  | none => ⟨s.slots, h⟩

def stepK (cx : Cx) (C : CallF) (all : List Oper) (o : Oper) (s : St) (k : St → List Nat → List Nat → Option β) : Option β :=
  match o.guard with
  | none => opK cx C o s fun v h rd wr => k (s.putd o.dst v h) rd wr
  | some (j, want) => match (nth default all j).dst with
    | none => none
    | some g => match nth .dead s.slots g with
      | .undef => k (s.putd o.dst .undef s.heap) [] []
      | .t x => T.boolK x fun b =>
        let yes := fun s : St => opK cx C o s fun v h rd wr => k (s.putd o.dst v h) rd wr
        let no := fun s : St => k (s.putd o.dst .undef s.heap) [] []
        match want with
        | true => cond b (yes ⟨setN s.slots g (.t (.bool true)), s.heap⟩) (no ⟨setN s.slots g (.t (.bool false)), s.heap⟩)
        | false => cond b (no ⟨setN s.slots g (.t (.bool true)), s.heap⟩) (yes ⟨setN s.slots g (.t (.bool false)), s.heap⟩)
      | _ => none

def regK (cx : Cx) (C : CallF) (all : List Oper) : List Oper → St → (St → Option β) → Option β
  | [], s, k => k s
  | o :: os, s, k => stepK cx C all o s fun s1 _ _ => regK cx C all os s1 k

/-! ### Regions whose order is open: no two operations that may change places get in each other's way -/
def unionN : List Nat → List Nat → List Nat
  | [], m => m
  | k :: l, m => cond (mem m k) (unionN l m) (k :: unionN l m)
/-- What stands before each operation. -/
def befores (acc : List (List Nat)) : List Oper → List (List Nat)
  | [] => acc
  | o :: os => befores (acc ++ [o.after.toList.foldl (fun l e => cond (Region.binds .any e) (unionN (e.on :: nth [] acc e.on) l) l) []]) os
def opTmps : Operand → List Nat
  | .tmp t => [t]
  | _ => []
def opReads (all : List Oper) (o : Oper) : List Nat :=
  (o.op.operands.toList.flatMap opTmps) ++ (match o.guard with | some (j, _) => (nth default all j).dst.toList | none => [])
structure FP where
  rs : List Nat
  ws : List Nat
  rd : List Nat
  wr : List Nat
def FP.apart (a b : FP) : Bool :=
  cond (meet a.ws b.rs) false (cond (meet a.rs b.ws) false (cond (meet a.ws b.ws) false (cond (meet a.wr b.rd) false (cond (meet a.rd b.wr) false (cond (meet a.wr b.wr) false true)))))
/-- The newest operation, number n, against those of before, the newest first. -/
def clash (bn : List Nat) (f : FP) : (n : Nat) → List FP → Bool
  | n + 1, g :: l => cond (cond (mem bn n) true (FP.apart f g)) (clash bn f n l) true
  | _, _ => false
/-- All keys that a value leads to. -/
def refsA1 (v : AV) : List Nat := match v with
  | .rowp k _ _ => [k]
  | .ptr k _ => [k]
  | .elp k _ _ _ => [k]
  | .mapp k => [k]
  | _ => []
def refsA1s : List AV → List Nat
  | [] => []
  | v :: l => refsA1 v ++ refsA1s l
def refsA2 (v : AV) : List Nat := match v with
  | .clo _ l => refsA1s l
  | v => refsA1 v
def refsA2s : List AV → List Nat
  | [] => []
  | v :: l => refsA2 v ++ refsA2s l
def refsA3 (v : AV) : List Nat := match v with
  | .agg l => refsA2s l
  | v => refsA2 v
def refsA3s : List AV → List Nat
  | [] => []
  | v :: l => refsA3 v ++ refsA3s l
def refsA (v : AV) : List Nat := match v with
  | .tup l => refsA3s l
  | v => refsA3 v
def refsAs : List AV → List Nat
  | [] => []
  | v :: l => refsA v ++ refsAs l
def reachA (h : Heap) : Nat → List Nat → List Nat → List Nat
  | 0, _, acc => acc
  | _, [], acc => acc
  | n + 1, k :: l, acc => cond (mem acc k) (reachA h n l acc) (match look h k with
    | some (.box _ cells) => reachA h n (refsA2s cells ++ l) (k :: acc)
    | some _ => reachA h n l (k :: acc)
    | none => reachA h n l acc)
def maskS (rs : List Nat) (i : Nat) : List AV → List AV
  | [] => []
  | v :: l => cond (mem rs i) v .dead :: maskS rs (i + 1) l
def mergeS (rs : List Nat) (i : Nat) : List AV → List AV → List AV
  | v :: l, u :: m => cond (mem rs i) u v :: mergeS rs (i + 1) l m
  | _, _ => []
def pickH (keys : List Nat) : Heap → Heap
  | [] => []
  | (k, e) :: h => cond (mem keys k) ((k, e) :: pickH keys h) (pickH keys h)
def mergeH (h h1 : Heap) : List Nat → Heap
  | [] => h
  | k :: l => match look h1 k with
    | some e => mergeH (upd h k e) h1 l
    | none => mergeH h h1 l
def subN : List Nat → List Nat → Bool
  | [], _ => true
  | k :: l, m => cond (mem m k) (subN l m) false
/-- No way leads out. -/
def closedH (keys : List Nat) : Heap → Bool
  | [] => true
  | (_, .box _ cells) :: h => cond (subN (refsA2s cells) keys) (closedH keys h) false
  | _ :: h => closedH keys h
/-- What is written is there, and was seen or was not there. -/
def freshWr (keys : List Nat) (h h1 : Heap) : List Nat → Bool
  | [] => true
  | k :: l => match look h1 k with
    | none => false
    | some _ => cond (mem keys k) (freshWr keys h h1 l) (match look h k with | none => freshWr keys h h1 l | some _ => false)
/-- Operations that look at slots alone. -/
def shal (o : Oper) : Bool := match o.guard, o.op, o.dst with
  | none, .move _, some _ => true
  | none, .nilCheck _, some _ => true
  | none, .fieldAddr _ _ _, some _ => true
  | _, _, _ => false
def isPart : AV → Bool
  | .rowp _ _ (some _) => true
  | _ => false
/-- A store of a slot's value into a box: the box's key, and what it becomes. -/
def bst (cx : Cx) (o : Oper) (sl : List AV) (h : Heap) : Option (Nat × Ent) := match o.guard, o.dst, o.op with
  | none, none, .store t a x => (match opd ⟨sl, []⟩ a with
    | .ptr kk off => (match look h kk with
      | some (.box sh cells) => cond (isPart (opdT cx ⟨sl, []⟩ t x)) none <| cond (Nat.beq (opdT cx ⟨sl, []⟩ t x).cells.length (cx.sz t)) (cond (Nat.ble 1 (cx.sz t)) (cond (Nat.ble (off + cx.sz t) cells.length) (cond (allStorable (opdT cx ⟨sl, []⟩ t x).cells) (some (kk, .box sh (setCells cells off (opdT cx ⟨sl, []⟩ t x).cells))) none) none) none) none
      | _ => none)
    | _ => none)
  | _, _, _ => none
def edgesB (n : Nat) : List Edge → Bool
  | [] => true
  | e :: l => cond (cond (Region.binds .any e) (Nat.blt e.on n) true) (edgesB n l) false
def drawK (cx : Cx) (C : CallF) (all : List Oper) (bs : List (List Nat)) : (n : Nat) → List FP → List Oper → St → (St → Option β) → Option β
  | _, _, [], s, k => k s
  | n, fs, o :: os, s, k =>
    let R := opReads all o ++ o.dst.toList
    let sl := maskS R 0 s.slots
    match bst cx o sl s.heap with
    | some (kk, e) => cond (cond (edgesB n o.after.toList) (cond (clash (nth [] bs n) ⟨R, o.dst.toList, [kk], [kk]⟩ n fs) false true) false) (drawK cx C all bs (n + 1) (⟨R, o.dst.toList, [kk], [kk]⟩ :: fs) os ⟨s.slots, upd s.heap kk e⟩ k) none
    | none =>
    let M := cond (shal o) [] (reachA s.heap 1000 (refsAs sl) [])
    let hm := pickH M s.heap
    cond (cond (edgesB n o.after.toList) (cond (cond (shal o) true (subN (refsAs sl) M)) (closedH M hm) false) false) (stepK cx C all o ⟨sl, hm⟩ fun s1 _ wr =>
      cond (cond (clash (nth [] bs n) ⟨R, o.dst.toList, M, wr⟩ n fs) false (freshWr M s.heap s1.heap wr))
        (drawK cx C all bs (n + 1) (⟨R, o.dst.toList, M, wr⟩ :: fs) os ⟨mergeS R 0 s.slots s1.slots, mergeH s.heap s1.heap wr⟩ k) none) none

/-! ### Regions of four operations whose middle two have no order: both ways are gone, and must answer alike -/
def boundBy : List Edge → List Nat
  | [] => []
  | e :: l => cond (Region.binds .any e) (e.on :: boundBy l) (boundBy l)
def coinL (l : List Oper) : Bool := match l with
  | [o0, o1, o2, o3] => cond (subN (boundBy o0.after.toList) []) (cond (cond (mem (boundBy o1.after.toList) 0) (subN (boundBy o1.after.toList) [0]) false) (cond (cond (mem (boundBy o2.after.toList) 0) (subN (boundBy o2.after.toList) [0]) false)
      (cond (cond (mem (boundBy o3.after.toList) 1) (mem (boundBy o3.after.toList) 2) false) (subN (boundBy o3.after.toList) [0, 1, 2]) false) false) false) false
  | _ => false
def swapL (l : List Oper) : List Oper := match l with
  | [a, b, c, d] => [a, c, b, d]
  | l => l
open Classical in
noncomputable def coinK (x y : Option β) : Option β := if x = y then x else none
theorem coinK_self (x : Option β) : coinK x x = x := by unfold coinK; rw [if_pos rfl]

/-! ### Code -/
structure Ks (β : Type) where
  kn : St → Option β
  ex : List (Nat × (St → Option β))
  kr : St → Option β

def iter (F : (St → Option β) → St → Option β) : Nat → St → Option β
  | 0 => fun _ => none
  | n + 1 => F (iter F n)
open Classical in
noncomputable def lfp (F : (St → Option β) → St → Option β) (s : St) : Option β :=
  if h : ∃ n r, iter F n s = some r then iter F h.choose s else none

/-- Which slots and which keys live at a loop's head. -/
structure Mask where
  slots : List Bool
  keys : List Nat
def AV.alive : AV → Bool
  | .undef | .dead => false
  | _ => true
def maskOf (s : St) : Mask := ⟨s.slots.map AV.alive, s.heap.map (·.1)⟩
/-- Versions anew; what leads to a key that goes, goes. -/
def normL (h : Heap) (keys : List Nat) (v : AV) : AV := match v with
  | .rowp k ver n => cond (mem keys k) (match look h k with
    | some (.row v' _ _ _) => cond (Nat.beq ver v') (cond (Nat.beq ver 0) (.rowp k 0 n) (.rowp k 1 n)) .dead
    | some (.irow v' _ _) => cond (Nat.beq ver v') (cond (Nat.beq ver 0) (.rowp k 0 n) (.rowp k 1 n)) .dead
    | _ => .dead) .dead
  | .ptr k off => cond (mem keys k) (.ptr k off) .dead
  | .mapp k => cond (mem keys k) (.mapp k) .dead
  | .elp _ _ _ _ => .dead
  | v => v
def allAlive : List AV → Bool
  | [] => true
  | v :: l => cond v.alive (allAlive l) false
def normC (h : Heap) (keys : List Nat) (v : AV) : AV := match v with
  | .clo f l => let l1 := l.map (normL h keys); cond (allAlive l1) (.clo f l1) .dead
  | v => normL h keys v
def normV (h : Heap) (keys : List Nat) (v : AV) : AV := match v with
  | .agg l => let l1 := l.map (normC h keys); cond (allAlive l1) (.agg l1) .dead
  | .tup _ => .dead
  | v => normC h keys v
def normE (h : Heap) (keys : List Nat) (e : Ent) : Ent := match e with
  | .box sh l => .box sh (l.map (normC h keys))
  | .row v s t rows => .row (cond (Nat.beq v 0) 0 1) s t rows
  | .irow v s rows => .irow (cond (Nat.beq v 0) 0 1) s rows
  | e => e
def normSlots (h : Heap) (keys : List Nat) : List Bool → List AV → List AV
  | _, [] => []
  | [], _ :: l => .dead :: normSlots h keys [] l
  | b :: bs, v :: l => cond b (normV h keys v) .dead :: normSlots h keys bs l
def normHeap (h0 : Heap) (keys : List Nat) : Heap → Heap
  | [] => []
  | (k, e) :: h => cond (mem keys k) ((k, normE h0 keys e) :: normHeap h0 keys h) (normHeap h0 keys h)
def norm (m : Mask) (s : St) : St := ⟨normSlots s.heap m.keys m.slots s.slots, normHeap s.heap m.keys s.heap⟩

def tokSlots (lv : Lv) (i : Nat) (l : List AV) (h : Heap) : List AV × Heap := match l with
  | [] => ([], h)
  | v :: l => let p := tokAt lv (key i 63) v h; let q := tokSlots lv (i + 1) l p.2; (p.1 :: q.1, q.2)
def tok (lv : Lv) (s : St) : St := let p := tokSlots lv 0 s.slots s.heap; ⟨p.1, tokHeap lv p.2 p.2⟩

def firstReg : Code → Option Nat
  | .region id _ _ => some id
  | .seq a b => (match firstReg a with | some n => some n | none => firstReg b)
  | .cond _ a b => (match firstReg a with | some n => some n | none => firstReg b)
  | .block _ c => firstReg c
  | .loop c => firstReg c
  | _ => none
def refsL (v : AV) : List Nat := match v with
  | .rowp k _ _ => [k]
  | .ptr k _ => [k]
  | .mapp k => [k]
  | _ => []
def refsLs : List AV → List Nat
  | [] => []
  | v :: l => refsL v ++ refsLs l
def refsV (v : AV) : List Nat := match v with
  | .agg l => refsLs l
  | .clo _ l => refsLs l
  | v => refsL v
def refsS : List Bool → List AV → List Nat
  | b :: bs, v :: l => cond b (refsV v ++ refsS bs l) (refsS bs l)
  | _, _ => []
def reach (h : Heap) : Nat → List Nat → List Nat → List Nat
  | 0, _, acc => acc
  | _, [], acc => acc
  | n + 1, k :: l, acc => cond (mem acc k) (reach h n l acc) (match look h k with
    | some (.box _ cells) => reach h n (refsLs cells ++ l) (k :: acc)
    | some _ => reach h n l (k :: acc)
    | none => reach h n l acc)
def keepKeys (s : St) (m : List Bool) : List Nat := (s.heap.map (·.1)).filter (fun k => Nat.blt k 4096) ++ reach s.heap 1000 ((s.heap.map (·.1)).filter (fun k => Nat.blt k 4096) ++ refsS m s.slots) []
/-- Where ways meet: what is not read again goes, and what follows is held back. -/
noncomputable def meetK (lv : Lv) (c : Code) (f : St → Option β) (s : St) : Option β := match firstReg c with
  | none => f s
  | some id => match asc lv (100000 + id) with
    | none => f s
    | some m => lfp (fun _ => f) (norm ⟨m, keepKeys s m⟩ s)
def headMask (lv : Lv) (c : Code) (s : St) : Mask := match firstReg c with
  | none => maskOf s
  | some id => match asc lv id with
    | none => maskOf s
    | some m => ⟨m, keepKeys s m⟩

def look1 (l : List (Nat × (St → Option β))) (id : Nat) (s : St) : Option β := match l with
  | [] => none
  | (k, f) :: l => cond (Nat.beq k id) (f s) (look1 l id s)

noncomputable def run (cx : Cx) (C : CallF) (lv : Lv) : Code → Ks β → St → Option β
  | .skip, ks, s => ks.kn s
  | .region _ ops draw, ks, s => cond draw (cond (coinL ops.toList) (coinK (regK cx C ops.toList ops.toList s ks.kn) (regK cx C ops.toList (swapL ops.toList) s ks.kn)) <| drawK cx C ops.toList (befores [] ops.toList) 0 [] ops.toList s ks.kn) (regK cx C ops.toList ops.toList s ks.kn)
  | .seq a b, ks, s => run cx C lv a ⟨meetK lv b (run cx C lv b ks), ks.ex, ks.kr⟩ s
  | .cond c a b, ks, s => AV.boolK (opd s c) fun t => cond t (run cx C lv a ks s) (run cx C lv b ks s)
  | .block id c, ks, s => run cx C lv c ⟨ks.kn, (id, ks.kn) :: ks.ex, ks.kr⟩ s
  | .exit id, ks, s => look1 ks.ex id s
  | .ret, ks, s => ks.kr s
  | .loop c, ks, s => lfp (fun rec s1 => run cx C lv c ⟨fun s2 => rec (norm (headMask lv c (tok lv s)) s2), ks.ex, ks.kr⟩ s1) (norm (headMask lv c (tok lv s)) (tok lv s))
  | _, _, _ => none

/-- A loop that is begun with a mask. -/
noncomputable def loopL (cx : Cx) (C : CallF) (lv : Lv) (c : Code) (m : Mask) (ks : Ks β) (s : St) : Option β :=
  lfp (fun rec s1 => run cx C lv c ⟨fun s2 => rec (norm m s2), ks.ex, ks.kr⟩ s1) s

/-! ### A function's end -/
def resV (cx : Cx) (s : St) : ResultVar → Option AV
  | .tmp t => some (nth .dead s.slots t)
  | .cell a t => loadK cx t s.heap (nth .dead s.slots a) fun v _ _ _ => some v
def pubL (m : Nat) (esc : List Nat) (h : Heap) (v : AV) : Option (AV × Heap) := match v with
  | .rowp kk ver n => cond (Nat.blt kk m) (some (v, h)) (cond (mem esc kk) (some (v, h)) (match strip0 h v with | some (x, h1, _) => some (.t x, h1) | none => none))
  | .ptr kk off => cond (Nat.blt kk m) (some (v, h)) (cond (mem esc kk) (some (v, h)) (match strip1 h v with | some (x, h1, _) => some (.t x, h1) | none => none))
  | .t x => some (.t x, h)
  | .nils _ s => some (.t (.sl s []), h)
  | .mapp kk => cond (Nat.blt kk m) (some (v, h)) (cond (mem esc kk) (some (v, h)) none)
  | _ => none
def pubLs (m : Nat) (esc : List Nat) (h : Heap) : List AV → Option (List AV × Heap)
  | [] => some ([], h)
  | v :: l => match pubL m esc h v with
    | none => none
    | some (v1, h1) => match pubLs m esc h1 l with
      | none => none
      | some (l2, h2) => some (v1 :: l2, h2)
def pubV (m : Nat) (esc : List Nat) (h : Heap) (v : AV) : Option (AV × Heap) := match v with
  | .agg l => match pubLs m esc h l with
    | none => none
    | some (l1, h1) => some (.agg l1, h1)
  | v => pubL m esc h v
def pubVs (m : Nat) (esc : List Nat) (h : Heap) : List AV → Option (List AV × Heap)
  | [] => some ([], h)
  | v :: l => match pubV m esc h v with
    | none => none
    | some (v1, h1) => match pubVs m esc h1 l with
      | none => none
      | some (l2, h2) => some (v1 :: l2, h2)
/-- The entries that go back: the first n (the callers'), then those that leave with a result. -/
def pubE (m : Nat) (esc : List Nat) (h : Heap) (kk : Nat) : Option Heap := match look h kk with
  | some (.box sh cells) => match pubLs m esc h cells with
    | none => none
    | some (c1, h1) => match look h1 kk with
      | some (.box _ _) => some (upd h1 kk (.box sh c1))
      | _ => none
  | some (.row _ _ _ _) => some h
  | some (.map _) => some h
  | _ => none
def pubEs (m : Nat) (esc : List Nat) (h : Heap) : List Nat → Option Heap
  | [] => some h
  | kk :: l => match pubE m esc h kk with
    | none => none
    | some h1 => pubEs m esc h1 l
def rangeN : (i n : Nat) → List Nat
  | _, 0 => []
  | i, n + 1 => i :: rangeN (i + 1) n
def endKey (m : Nat) (esc : List Nat) (kk : Nat) : Nat := cond (Nat.blt kk m) kk (m + idx esc kk)
def endL (m : Nat) (esc : List Nat) (h : Heap) (v : AV) : AV := match v with
  | .rowp kk ver n => (match look h kk with
    | some (.row v' _ _ _) => cond (Nat.beq ver v') (.rowp (endKey m esc kk) (cond (Nat.beq ver 0) 0 1) n) .dead
    | _ => .dead)
  | .ptr kk off => .ptr (endKey m esc kk) off
  | .mapp kk => .mapp (endKey m esc kk)
  | v => v
def endV (m : Nat) (esc : List Nat) (h : Heap) (v : AV) : AV := match v with
  | .agg l => .agg (l.map (endL m esc h))
  | v => endL m esc h v
def endE (m : Nat) (esc : List Nat) (h : Heap) (e : Ent) : Ent := match e with
  | .box sh l => .box sh (l.map (endL m esc h))
  | .row v s t rows => .row (cond (Nat.beq v 0) 0 1) s t rows
  | e => e
def pubB (m : Nat) (esc : List Nat) (v : AV) : Bool := match v with
  | .t _ => true
  | .rowp kk _ _ => cond (Nat.blt kk m) true (mem esc kk)
  | .ptr kk _ => cond (Nat.blt kk m) true (mem esc kk)
  | .mapp kk => cond (Nat.blt kk m) true (mem esc kk)
  | _ => false
def pubBs (m : Nat) (esc : List Nat) : List AV → Bool
  | [] => true
  | v :: l => cond (pubB m esc v) (pubBs m esc l) false
def pubVB (m : Nat) (esc : List Nat) (v : AV) : Bool := match v with
  | .agg l => pubBs m esc l
  | v => pubB m esc v
def pubVBs (m : Nat) (esc : List Nat) : List AV → Bool
  | [] => true
  | v :: l => cond (pubVB m esc v) (pubVBs m esc l) false
def endHeap (m : Nat) (esc : List Nat) (h : Heap) : List Nat → Option Heap
  | [] => some []
  | kk :: l => match look h kk with
    | some (.box sh cells) => cond (pubBs m esc cells) (match endHeap m esc h l with
      | none => none
      | some h2 => some ((endKey m esc kk, endE m esc h (.box sh cells)) :: h2)) none
    | some (.row v s t rows) => (match endHeap m esc h l with
      | none => none
      | some h2 => some ((endKey m esc kk, endE m esc h (.row v s t rows)) :: h2))
    | some (.map ms) => (match endHeap m esc h l with
      | none => none
      | some h2 => some ((endKey m esc kk, endE m esc h (.map ms)) :: h2))
    | _ => none
def resVs (cx : Cx) (s : St) : List ResultVar → Option (List AV)
  | [] => some []
  | r :: l => match resV cx s r with
    | none => none
    | some v => match resVs cx s l with
      | none => none
      | some vs => some (v :: vs)
def finish (cx : Cx) (m : Nat) (esc : List Nat) (fn : Func) (s : St) : Option Res := match resVs cx s fn.results.toList with
  | none => none
  | some vs => match pubVs m esc s.heap vs with
    | none => none
    | some (vs1, h1) => match pubEs m esc h1 (rangeN 0 m ++ esc) with
      | none => none
      | some h2 => match endHeap m esc h2 (rangeN 0 m ++ esc) with
        | none => none
        | some h3 => cond (pubVBs m esc vs1) (match vs1 with
          | [v] => some (endV m esc h2 v, h3)
          | l => some (.tup (l.map (endV m esc h2)), h3)) none

def entry (fn : Func) (args : List AV) (h : Heap) : St := ⟨args ++ rep .undef (fn.ntmps - args.length), h⟩
def seqB : Nat → Heap → Bool
  | _, [] => true
  | i, (k, _) :: h => cond (Nat.beq k i) (seqB (i + 1) h) false
noncomputable def body (cx : Cx) (C : CallF) (f : FuncId) (fn : Func) (args : List AV) (h : Heap) : Option Res := match fn.body with
  | none => none
  | some c => cond (cond (seqB 0 h) (Nat.ble h.length 4096) false) (run cx C ((asc cx.live f).getD []) c ⟨finish cx h.length ((asc cx.esc f).getD []) fn, [], finish cx h.length ((asc cx.esc f).getD []) fn⟩ (entry fn args h)) none

noncomputable def callN (P : Program) (cx : Cx) : Nat → CallF
  | 0 => fun _ _ _ => none
  | n + 1 => fun f args h => match P.funcs[f]? with
    | none => none
    | some fn => body cx (callN P cx n) f fn args h
open Classical in
noncomputable def call (P : Program) (cx : Cx) : CallF := fun f args h =>
  if hx : ∃ n r, callN P cx n f args h = some r then callN P cx hx.choose f args h else none

/-! ### Places in code -/
def pathC : Code → List Nat → Code
  | c, [] => c
  | .seq a b, n :: p => (match n with | 0 => pathC a p | _ => pathC b p)
  | .cond _ a b, n :: p => (match n with | 0 => pathC a p | _ => pathC b p)
  | .block _ c, _ :: p => pathC c p
  | .loop c, _ :: p => pathC c p
  | c, _ => c
noncomputable def pathK (cx : Cx) (C : CallF) (lv : Lv) : Code → List Nat → Ks β → Ks β
  | _, [], ks => ks
  | .seq a b, n :: p, ks => (match n with | 0 => pathK cx C lv a p ⟨meetK lv b (run cx C lv b ks), ks.ex, ks.kr⟩ | _ => pathK cx C lv b p ks)
  | .cond _ a b, n :: p, ks => (match n with | 0 => pathK cx C lv a p ks | _ => pathK cx C lv b p ks)
  | .block id c, _ :: p, ks => pathK cx C lv c p ⟨ks.kn, (id, ks.kn) :: ks.ex, ks.kr⟩
  | _, _, ks => ks
def codeOf (fn : Func) : Code := fn.body.getD .skip
def ks0 (cx : Cx) (f : FuncId) (fn : Func) (m : Nat) : Ks Res := ⟨finish cx m ((asc cx.esc f).getD []) fn, [], finish cx m ((asc cx.esc f).getD []) fn⟩
/-- What follows a place where ways meet. -/
noncomputable def joinL (cx : Cx) (C : CallF) (lv : Lv) (c : Code) (ks : Ks β) (s : St) : Option β := lfp (fun _ => run cx C lv c ks) s
noncomputable def loopKs (cx : Cx) (C : CallF) (lv : Lv) (c : Code) (m : Mask) (ks : Ks β) : Ks β := ⟨fun s2 => loopL cx C lv c m ks (norm m s2), ks.ex, ks.kr⟩
def Cx.lv (cx : Cx) (f : FuncId) : Lv := (asc cx.live f).getD []

end Go.AS
