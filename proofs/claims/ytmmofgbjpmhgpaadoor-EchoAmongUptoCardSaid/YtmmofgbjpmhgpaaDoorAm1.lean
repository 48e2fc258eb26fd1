/- The abstract machine: what a function's code does to values that are told apart from where they lie in memory. Definitions only. -/
import Derived.Below
import Derived.Orders
import Derived.Deep.LoopGhost
set_option linter.all false
set_option linter.unusedVariables false
set_option linter.unusedSimpArgs false
set_option linter.unnecessarySimpa false
namespace Go.Am
open Go

/-- What a value means, apart from where it lies. -/
inductive SV : Type
  | dead
  | v (x : Value)
  | agg (n : Nat) (f : Nat → SV)
  | tup (n : Nat) (f : Nat → SV)
  | sl (ex : Bool) (n esz : Nat) (e : Nat → SV)
  | rd (e : SV) (off : Nat)
instance : Inhabited SV := ⟨.dead⟩

/-- What a slot (a temporary, a cell of an own box) holds. -/
inductive Slot : Type
  | p (x : SV)
  | bx (k off : Nat)
  | ow (k : Nat)
  | rp (k i off : Nat)
  | gd (c : Bool) (s : Slot)
instance : Inhabited Slot := ⟨.p .dead⟩

structure Box where
  n : Nat
  f : Nat → Slot
/-- A slice of the call's own: its element type, what it holds; 'pub': its elements are never written again; 'live': it may be appended to. -/
structure Row where
  ty : TypeId
  s : SV
  pub : Bool
  live : Bool
structure Mem where
  boxes : List Box
  rows : List Row
structure St where
  t : Nat → Slot
  m : Mem

/-- What the machine is told of a type: cells, is it a struct or an array, its element type, the offsets and sizes of its fields, the bytes of one, its zero value, (of an array) its length, and whether no field is of size 0. -/
structure TI where
  size : Nat
  isAgg : Bool
  elem : Nat
  offs : List Nat
  fty : List TypeId
  nz : Bool
  bytes : Nat
  zero : SV
  len : Nat
  kind : Nat
  ik : Option IntKind
  eqok : Bool
instance : Inhabited TI := ⟨⟨0, false, 0, [], [], false, 0, .dead, 0, 0, none, false⟩⟩

structure Spec where
  pre : Prop
  res : SV
def noSpec : Spec := ⟨False, .dead⟩

/-- A state that is written out: what a loop's head is told to be. -/
structure FSt where
  l : List (Nat × Slot)
  m : Mem
structure Ann where
  G : Type
  I : G → Prop
  fam : G → FSt
  μ : G → Nat

structure Cfg where
  ti : TypeId → TI
  spec : FuncId → List SV → Spec
  pubNew : Bool
  pubMake : Bool
  frz : Nat → Bool
  un : Nat → Option (List (Nat × Nat))

def upd {α : Type} (s : Nat → α) (i : Nat) (x : α) : Nat → α := fun j => if j = i then x else s j
def list : List SV → Nat → SV
  | [], _ => .dead
  | x :: _, 0 => x
  | _ :: r, i + 1 => list r i
def st (l : List SV) : SV := .agg l.length (list l)
def T0 : Nat → Slot := fun _ => .p .dead
def ofL : List (Nat × Slot) → Nat → Slot
  | [] => T0
  | (i, x) :: r => upd (ofL r) i x
def FSt.toSt (F : FSt) : St := ⟨ofL F.l, F.m⟩

/-- The cell number 'off' of a value. -/
def SV.cell (s : SV) (off : Nat) : SV := match s with | .agg _ f => f off | s => s
def SV.len : SV → Nat | .sl _ n _ _ => n | .v (.slice none 0 0) => 0 | _ => 0
def SV.idx (s : SV) (i : Nat) : SV := match s with | .sl _ _ _ e => e i | _ => .dead
def SV.isSl : SV → Bool | .sl .. => true | _ => false
def SV.one : SV → Bool | .v x => x.oneCell' | .sl .. => true | .rd .. => true | _ => false
def SV.isAg : SV → Bool | .agg .. => true | _ => false
def SV.good : SV → Bool | .agg .. => true | .v x => x.oneCell' | .sl .. => true | .rd .. => true | _ => false
/-- The same slice, of which it isn't known that its capacity is its length. -/
def SV.ro : SV → SV | .sl _ n k e => .sl false n k e | s => s
/-- The slice of so many cells an element that has these elements. -/
def SV.lit (ex : Bool) (esz : Nat) (l : List SV) : SV := .sl ex l.length esz (list l)
def SV.snoc (esz : Nat) (s x : SV) : SV := .sl false (s.len + x.len) esz (fun i => if i < s.len then s.idx i else x.idx (i - s.len))
def SV.size : SV → Nat | .agg n _ => n | .dead => 0 | _ => 1
def ovl (f : Nat → SV) (off n : Nat) (x : SV) : Nat → SV := fun j => if off ≤ j ∧ j < off + n then x.cell (j - off) else f j
/-- A value's own reading. -/
def ofV : Value → SV
  | .agg ⟨l⟩ => if l.all Value.oneCell' then .agg l.length (list (l.map .v)) else .dead
  | x => .v x
/-- The parts of a literal, laid over what is there. -/
def bldF (off : Nat → Nat) : List (Nat × SV) → (Nat → SV) → Nat → SV
  | [], f => f
  | (i, x) :: r, f => bldF off r (if x.size = 1 then upd f (off i) (x.cell 0) else ovl f (off i) x.size x)
def bldS (off sz : Nat → Nat) (tot : Nat) : List (Nat × SV) → Prop
  | [] => True
  | (i, x) :: r => x.size = sz i ∧ x.good = true ∧ off i + sz i ≤ tot ∧ bldS off sz tot r
def bldT (n esz : Nat) : List (Nat × SV) → Prop
  | [] => True
  | (i, x) :: r => i < n ∧ x.size = esz ∧ x.good = true ∧ bldT n esz r
def bldE : List (Nat × SV) → (Nat → SV) → Nat → SV
  | [], f => f
  | (i, x) :: r, f => bldE r (upd f i x)

def upTo {α : Type} (f : Nat → α) : Nat → List α
  | 0 => []
  | n + 1 => upTo f n ++ [f n]
/-- The same function up to n, as a list. -/
def tabF (n : Nat) (f : Nat → SV) : Nat → SV := list (upTo f n)

def Slot.sv (m : Mem) : Slot → SV
  | .p x => x
  | .ow k => match m.rows[k]? with | some r => if r.pub then r.s.ro else .dead | none => .dead
  | _ => .dead
def Slot.one : Slot → Bool | .p x => x.one | .gd .. => false | _ => true
/-- A slice of the call's own that is never written again reads as any other. -/
def Slot.norm (m : Mem) : Slot → Slot
  | .ow k => match m.rows[k]? with | some r => if r.pub then .p r.s.ro else .ow k | none => .ow k
  | s => s
def Slot.strip : Slot → Slot
  | .gd _ s => s.strip
  | s => s
def Slot.okG (g : Bool) : Slot → Prop
  | .gd c s => (g = true → c = true) ∧ s.okG g
  | _ => True
/-- The condition under which a slot holds this Bool. -/
def Slot.want (b : Bool) : Slot → Option Bool
  | .p (.v (.bool c)) => some (if b then c else !c)
  | .gd c s => (s.want b).map (c && ·)
  | _ => none
def val (t : Nat → Slot) : Operand → Slot
  | .tmp i => t i
  | .const x => .p (ofV x)
  | .global g => .p (.v (.pointer (some ⟨g, 0, none⟩)))
  | .func f => .p (.v (.func (.func f) #[] #[]))
def putT (t : Nat → Slot) (d : Option Tmp) (x : Slot) : Nat → Slot := match d with | some d => upd t d x | none => t

/-- What an operation asks, and what it gives. -/
structure R where
  side : Prop
  s : Slot
def no : R := ⟨False, .p .dead⟩
def yes (x : SV) : R := ⟨True, .p x⟩

/-- A sum, a difference, a product of two numbers of 64 bits. -/
def fop (op : BinOp) (a b : Nat) : Option Nat := match op with
  | .add => FloatKind.f64.format.add a b
  | .sub => FloatKind.f64.format.sub a b
  | .mul => FloatKind.f64.format.mul a b
  | _ => none
def evBin (kd : Nat) (op : BinOp) (x y : SV) : R :=
  match x, y with
  | .v (.int k a), .v (.int k' b) => match op with
    | .add => ⟨k = k', .p (.v (.int k (k.wrap (a + b))))⟩
    | .sub => ⟨k = k', .p (.v (.int k (k.wrap (a - b))))⟩
    | .mul => ⟨k = k', .p (.v (.int k (k.wrap (a * b))))⟩
    | .quo => ⟨k = k' ∧ b ≠ 0, .p (.v (.int k (k.wrap (a.tdiv b))))⟩
    | .rem => ⟨k = k' ∧ b ≠ 0, .p (.v (.int k (a.tmod b)))⟩
    | .eql => ⟨k = k', .p (.v (.bool (a == b)))⟩
    | .neq => ⟨k = k', .p (.v (.bool (a != b)))⟩
    | .lss => ⟨k = k', .p (.v (.bool (decide (a < b))))⟩
    | .leq => ⟨k = k', .p (.v (.bool (decide (a ≤ b))))⟩
    | .gtr => ⟨k = k', .p (.v (.bool (decide (b < a))))⟩
    | .geq => ⟨k = k', .p (.v (.bool (decide (b ≤ a))))⟩
    | .shl => ⟨0 ≤ b, .p (.v (.int k (k.wrap (a * 2 ^ (min b.toNat k.bits)))))⟩
    | .shr => ⟨0 ≤ b, .p (.v (.int k (a.fdiv (2 ^ (min b.toNat k.bits)))))⟩
    | .and => ⟨k = k', .p (.v (.int k (k.wrap ((BitVec.ofInt k.bits a) &&& (BitVec.ofInt k.bits b)).toNat)))⟩
    | .or => ⟨k = k', .p (.v (.int k (k.wrap ((BitVec.ofInt k.bits a) ||| (BitVec.ofInt k.bits b)).toNat)))⟩
    | .xor => ⟨k = k', .p (.v (.int k (k.wrap ((BitVec.ofInt k.bits a) ^^^ (BitVec.ofInt k.bits b)).toNat)))⟩
    | .andNot => ⟨k = k', .p (.v (.int k (k.wrap ((BitVec.ofInt k.bits a) &&& ~~~(BitVec.ofInt k.bits b)).toNat)))⟩
  | .v (.bool a), .v (.bool b) => match op with
    | .eql => ⟨kd = 4, .p (.v (.bool (a == b)))⟩
    | .neq => ⟨kd = 4, .p (.v (.bool (a != b)))⟩
    | _ => no
  | .v (.string a), .v (.string b) => match op with
    | .eql => yes (.v (.bool (a.data.toList == b.data.toList)))
    | .neq => yes (.v (.bool (!(a.data.toList == b.data.toList))))
    | .add => ⟨a.size + b.size ≤ 1099511627776, .p (.v (.string (a ++ b)))⟩
    | .lss => yes (.v (.bool (Op.bytesLess a.data.toList b.data.toList)))
    | .leq => yes (.v (.bool (Op.bytesLess a.data.toList b.data.toList || a.data.toList == b.data.toList)))
    | .gtr => yes (.v (.bool (!(Op.bytesLess a.data.toList b.data.toList || a.data.toList == b.data.toList))))
    | .geq => yes (.v (.bool (!(Op.bytesLess a.data.toList b.data.toList))))
    | _ => no
  | .v (.complex .f64 a b), .v (.complex .f64 a' b') => match op with
    | .add => match fop .add a a', fop .add b b' with
      | some r, some s => yes (.v (.complex .f64 r s))
      | _, _ => no
    | .mul => match fop .mul a a', fop .mul b b', fop .mul a b', fop .mul b a' with
      | some p, some q, some r, some s => match fop .sub p q, fop .add r s with
        | some x, some y => yes (.v (.complex .f64 x y))
        | _, _ => no
      | _, _, _, _ => no
    | _ => no
  | .v (.slice none 0 0), .v (.slice none 0 0) => match op with
    | .eql => ⟨kd = 3, .p (.v (.bool true))⟩
    | .neq => ⟨kd = 3, .p (.v (.bool false))⟩
    | _ => no
  | .sl _ n _ _, .v (.slice none 0 0) => match op with
    | .eql => ⟨kd = 3 ∧ 0 < n, .p (.v (.bool false))⟩
    | .neq => ⟨kd = 3 ∧ 0 < n, .p (.v (.bool true))⟩
    | _ => no
  | _, _ => no

def evUn (op : UnOp) (x : SV) : R :=
  match op, x with
  | .not, .v (.bool b) => yes (.v (.bool !b))
  | .neg, .v (.int k b) => yes (.v (.int k (k.wrap (0 - b))))
  | _, _ => no

def evIdx (ti : TypeId → TI) (t : TypeId) (m : Mem) (x : Slot) (i : SV) : R :=
  match i with
  | .v (.int _ i) => match x with
    | .p (.sl _ n k e) => ⟨(ti t).kind = 3 ∧ ((ti (ti t).elem).size = k ∧ (ti (ti t).elem).size ≠ 0) ∧ 0 ≤ i ∧ i < n, .p (.rd (e i.toNat) 0)⟩
    | .ow k => match m.rows[k]? with
      | some r => ⟨(ti t).kind = 3 ∧ (ti t).elem = r.ty ∧ (ti r.ty).size ≠ 0 ∧ r.live = true ∧ 0 ≤ i ∧ i < r.s.len, .rp k i.toNat 0⟩
      | none => no
    | .bx k off => ⟨(ti t).kind = 2 ∧ (ti (ti t).elem).size ≠ 0 ∧ 0 ≤ i ∧ i < (ti t).len, .bx k (off + i.toNat * (ti (ti t).elem).size)⟩
    | _ => no
  | _ => no

def evLen (kd : Nat) (m : Mem) (x : Slot) : R :=
  match x with
  | .p (.sl _ n _ _) => ⟨kd = 3, .p (.v (.int .i64 n))⟩
  | .p (.v (.slice _ n _)) => ⟨kd = 3, .p (.v (.int .i64 n))⟩
  | .p (.v (.string s)) => ⟨kd = 5, .p (.v (.int .i64 s.size))⟩
  | .ow k => match m.rows[k]? with | some r => ⟨r.live = true ∧ kd = 3, .p (.v (.int .i64 r.s.len))⟩ | none => no
  | _ => no

def pickV (k : Bool) (a b : Slot) : Slot :=
  match a, b with
  | .p (.v (.bool x)), .p (.v (.bool y)) => .p (.v (.bool (bif k then x else y)))
  | a, b => if k then a else b
def evPick (c a b : Slot) : R :=
  match c.strip with
  | .p (.v (.bool k)) => ⟨c.okG true ∧ a.okG k ∧ b.okG (!k), pickV k a.strip b.strip⟩
  | _ => no

/-- A variable of a type, at a place of a value. -/
def SV.at (ti : TypeId → TI) (t : TypeId) (e : SV) (off : Nat) : R :=
  match e with
  | .agg n f => if (ti t).isAgg then ⟨off + (ti t).size ≤ n, .p (.agg (ti t).size (tabF (ti t).size (fun i => f (off + i))))⟩ else ⟨off < n, .p (f off)⟩
  | .v x => ⟨(ti t).isAgg = false ∧ off = 0 ∧ x.oneCell' = true, .p (.v x)⟩
  | .sl ex n k e => ⟨(ti t).isAgg = false ∧ off = 0, .p (.sl ex n k e)⟩
  | .rd e o => ⟨(ti t).isAgg = false ∧ off = 0, .p (.rd e o)⟩
  | _ => no
def evLoad (ti : TypeId → TI) (t : TypeId) (m : Mem) (x : Slot) : R :=
  match x with
  | .p (.rd e off) => ⟨(ti t).kind ≠ 0 ∧ (e.at ti t off).side, (e.at ti t off).s⟩
  | .bx k off => match m.boxes[k]? with
    | some b => if (ti t).isAgg then ⟨off + (ti t).size ≤ b.n, .p (.agg (ti t).size (tabF (ti t).size (fun i => (b.f (off + i)).sv m)))⟩ else ⟨(ti t).kind ≠ 0 ∧ off < b.n, b.f off⟩
    | none => no
  | .rp k i off => match m.rows[k]? with
    | some r => ⟨(ti t).kind ≠ 0 ∧ r.live = true ∧ r.pub = false ∧ i < r.s.len ∧ ((r.s.idx i).at ti t off).side, ((r.s.idx i).at ti t off).s⟩
    | none => no
  | _ => no

/-- What a slot reads as, if it's no place of the call's own. -/
def Slot.pv : Slot → SV | .p x => x | _ => .dead
structure E where
  side : Prop
  b : Bool
/-- Fields, one by one. -/
def eqFs (eq1 : TypeId → SV → SV → E) (ti : TypeId → TI) (x y : SV) : List (Nat × TypeId) → E
  | [] => ⟨True, true⟩
  | (o, t) :: r => ⟨(ti t).kind ≠ 0 ∧ (x.at ti t o).side ∧ (y.at ti t o).side ∧ (eq1 t (x.at ti t o).s.pv (y.at ti t o).s.pv).side ∧ (eqFs eq1 ti x y r).side,
      (eq1 t (x.at ti t o).s.pv (y.at ti t o).s.pv).b && (eqFs eq1 ti x y r).b⟩
/-- Elements, one by one. -/
def eqAs (eq1 : SV → SV → E) (ti : TypeId → TI) (el sz : Nat) (x y : SV) : Nat → Nat → E
  | 0, _ => ⟨True, true⟩
  | n + 1, i => ⟨(x.at ti el (i * sz)).side ∧ (y.at ti el (i * sz)).side ∧ (eq1 (x.at ti el (i * sz)).s.pv (y.at ti el (i * sz)).s.pv).side ∧ (eqAs eq1 ti el sz x y n (i + 1)).side,
      (eq1 (x.at ti el (i * sz)).s.pv (y.at ti el (i * sz)).s.pv).b && (eqAs eq1 ti el sz x y n (i + 1)).b⟩
/-- Two values of a type are the same. -/
def eqE (ti : TypeId → TI) : Nat → TypeId → SV → SV → E
  | 0, _, _, _ => ⟨False, false⟩
  | d + 1, t, x, y => match x, y with
    | .v (.int k a), .v (.int k' b) => ⟨(ti t).ik.isSome = true ∧ k = k', a == b⟩
    | .v (.bool a), .v (.bool b) => ⟨(ti t).kind = 4, a == b⟩
    | .v (.string a), .v (.string b) => ⟨(ti t).kind = 5, a.data.toList == b.data.toList⟩
    | .agg n f, .agg n' g => if (ti t).kind = 1 then ⟨(ti t).eqok = true ∧ (eqFs (eqE ti d) ti (.agg n f) (.agg n' g) ((ti t).offs.zip (ti t).fty)).side, (eqFs (eqE ti d) ti (.agg n f) (.agg n' g) ((ti t).offs.zip (ti t).fty)).b⟩
      else if (ti t).kind = 2 then ⟨(ti (ti t).elem).kind ≠ 0 ∧ (eqAs (eqE ti d (ti t).elem) ti (ti t).elem (ti (ti t).elem).size (.agg n f) (.agg n' g) (ti t).len 0).side, (eqAs (eqE ti d (ti t).elem) ti (ti t).elem (ti (ti t).elem).size (.agg n f) (.agg n' g) (ti t).len 0).b⟩ else ⟨False, false⟩
    | _, _ => ⟨False, false⟩
def evBinT (ti : TypeId → TI) (t : TypeId) (op : BinOp) (x y : SV) : R :=
  match x with
  | .agg n f => match op with
    | .eql => ⟨(ti t).eqok = true ∧ y.isAg = true ∧ (eqE ti 5 t (.agg n f) y).side, .p (.v (.bool (eqE ti 5 t (.agg n f) y).b))⟩
    | .neq => ⟨(ti t).eqok = true ∧ y.isAg = true ∧ (eqE ti 5 t (.agg n f) y).side, .p (.v (.bool (!(eqE ti 5 t (.agg n f) y).b)))⟩
    | _ => no
  | x => evBin (ti t).kind op x y
def evField (ti : TypeId → TI) (t : TypeId) (f : Nat) (x : Slot) : R :=
  match x with
  | .p (.rd e off) => ⟨(ti t).kind = 1 ∧ (ti t).nz = true ∧ f < (ti t).offs.length, .p (.rd e (off + (ti t).offs.getD f 0))⟩
  | .bx k off => ⟨(ti t).kind = 1 ∧ (ti t).nz = true ∧ f < (ti t).offs.length, .bx k (off + (ti t).offs.getD f 0)⟩
  | .rp k i off => ⟨(ti t).kind = 1 ∧ (ti t).nz = true ∧ f < (ti t).offs.length, .rp k i (off + (ti t).offs.getD f 0)⟩
  | _ => no
/-- A field of a struct value. -/
def evFieldV (ti : TypeId → TI) (t : TypeId) (f : Nat) (x : SV) : R :=
  ⟨(ti t).kind = 1 ∧ f < (ti t).offs.length ∧ x.isAg = true ∧ (ti ((ti t).fty.getD f 0)).kind ≠ 0 ∧ (x.at ti ((ti t).fty.getD f 0) ((ti t).offs.getD f 0)).side, (x.at ti ((ti t).fty.getD f 0) ((ti t).offs.getD f 0)).s⟩
/-- An element of an array value, a byte of a string. -/
def evIndexV (ti : TypeId → TI) (t : TypeId) (x i : SV) : R :=
  match i with
  | .v (.int _ i) => match x with
    | .v (.string s) => ⟨(ti t).kind = 5 ∧ 0 ≤ i ∧ i < s.size, .p (.v (.int .u8 (s.data.toList.getD i.toNat 0).toNat))⟩
    | x => ⟨(ti t).kind = 2 ∧ 0 ≤ i ∧ i < (ti t).len ∧ x.isAg = true ∧ (ti (ti t).elem).kind ≠ 0 ∧ (ti (ti t).elem).size ≠ 0 ∧ (x.at ti (ti t).elem (i.toNat * (ti (ti t).elem).size)).side, (x.at ti (ti t).elem (i.toNat * (ti (ti t).elem).size)).s⟩
  | _ => no

def evSlice (esz kd : Nat) (x : SV) (lo hi : Option SV) : R :=
  match x, lo, hi with
  | .sl ex n k e, some (.v (.int _ i)), none => ⟨(kd = 3 ∧ esz = k ∧ esz ≠ 0) ∧ 0 ≤ i ∧ i ≤ n, .p (.sl ex (n - i.toNat) k (fun j => e (i.toNat + j)))⟩
  | .sl _ n k e, none, some (.v (.int _ i)) => ⟨(kd = 3 ∧ esz = k ∧ esz ≠ 0) ∧ 0 ≤ i ∧ i ≤ n, .p (.sl false i.toNat k e)⟩
  | .sl _ n k e, some (.v (.int _ i)), some (.v (.int _ j)) => ⟨(kd = 3 ∧ esz = k ∧ esz ≠ 0) ∧ 0 ≤ i ∧ i ≤ j ∧ j ≤ n, .p (.sl false (j.toNat - i.toNat) k (fun l => e (i.toNat + l)))⟩
  | .v (.string s), some (.v (.int _ i)), none => ⟨kd = 5 ∧ 0 ≤ i ∧ i ≤ s.size, .p (.v (.string (s.extract i.toNat s.size)))⟩
  | .v (.string s), none, some (.v (.int _ i)) => ⟨kd = 5 ∧ 0 ≤ i ∧ i ≤ s.size, .p (.v (.string (s.extract 0 i.toNat)))⟩
  | .v (.string s), some (.v (.int _ i)), some (.v (.int _ j)) => ⟨kd = 5 ∧ 0 ≤ i ∧ i ≤ j ∧ j ≤ s.size, .p (.v (.string (s.extract i.toNat j.toNat)))⟩
  | _, _, _ => no

def evBuild (ti : TypeId → TI) (t : TypeId) (l : List (Nat × SV)) : R :=
  if (ti t).kind = 1 then ⟨((ti t).zero.good = true ∧ (ti t).zero.size = (ti t).size) ∧ (ti t).nz = true ∧ (∀ p ∈ l, p.1 < (ti t).offs.length) ∧ bldS (fun i => (ti t).offs.getD i 0) (fun i => (ti ((ti t).fty.getD i 0)).size) (ti t).size l, .p (.agg (ti t).size (tabF (ti t).size (bldF (fun i => (ti t).offs.getD i 0) l (ti t).zero.cell)))⟩
  else ⟨(ti t).kind = 2 ∧ ((ti t).zero.good = true ∧ (ti t).zero.size = (ti t).size) ∧ (ti (ti t).elem).size ≠ 0 ∧ bldS (fun i => i * (ti (ti t).elem).size) (fun _ => (ti (ti t).elem).size) (ti t).size l, .p (.agg (ti t).size (tabF (ti t).size (bldF (fun i => i * (ti (ti t).elem).size) l (ti t).zero.cell)))⟩
def evBuildSlice (ti : TypeId → TI) (t : TypeId) (n : Nat) (l : List (Nat × SV)) : R :=
  ⟨(ti t).kind = 3 ∧ (ti (ti t).elem).size ≠ 0 ∧ n * (ti (ti t).elem).size ≤ 16777216 ∧ ((ti (ti t).elem).zero.good = true ∧ (ti (ti t).elem).zero.size = (ti (ti t).elem).size) ∧ bldT n (ti (ti t).elem).size l,
    .p (.sl true n (ti (ti t).elem).size (tabF n (bldE l (fun _ => (ti (ti t).elem).zero))))⟩

def evMin (x y : SV) : R := match x, y with
  | .v (.int k a), .v (.int k' b) => ⟨k = k', .p (.v (.int k (if b < a then b else a)))⟩
  | _, _ => no
def evMax (x y : SV) : R := match x, y with
  | .v (.int k a), .v (.int k' b) => ⟨k = k', .p (.v (.int k (if b > a then b else a)))⟩
  | _, _ => no
def evConv (ti : TypeId → TI) (src dst : TypeId) (x : SV) : R := match x with
  | .v (.int _ n) => match (ti dst).ik with
    | some k => ⟨(ti src).kind ≠ 0, .p (.v (.int k (k.wrap n)))⟩
    | none => ⟨(ti src).kind ≠ 0 ∧ (ti dst).kind = 6, .p (.v (.float .f64 (FloatKind.f64.nearest n)))⟩
  | .v (.float .f64 b) => match (ti dst).ik, (FloatKind.f64.decode b).toInt .zero with
    | some k, some n => ⟨(ti src).kind ≠ 0 ∧ k.min ≤ n ∧ n ≤ k.max, .p (.v (.int k n))⟩
    | _, _ => no
  | _ => no
def evCplx (x y : SV) : R := match x, y with
  | .v (.float .f64 a), .v (.float .f64 b) => yes (.v (.complex .f64 a b))
  | _, _ => no
def evPart (re : Bool) (x : SV) : R := match x with
  | .v (.complex .f64 a b) => yes (.v (.float .f64 (if re then a else b)))
  | _ => no
def evNil (x : Slot) : R := match x with
  | .p (.rd ..) | .bx .. | .rp .. => ⟨True, x⟩
  | _ => no
/-- Operations that leave the machine's memory alone. -/
def ev (c : Cfg) (op : Op) (ρ : Operand → Slot) (m : Mem) : R :=
  match op with
  | .move x => ⟨True, ρ x⟩
  | .assign x => ⟨True, ρ x⟩
  | .pick x a b => evPick (ρ x) (ρ a) (ρ b)
  | .binOp op t x y _ => evBinT c.ti t op ((ρ x).sv m) ((ρ y).sv m)
  | .unOp op _ x => evUn op ((ρ x).sv m)
  | .indexAddr t x i => evIdx c.ti t m ((ρ x).norm m) ((ρ i).sv m)
  | .index t x i => evIndexV c.ti t ((ρ x).sv m) ((ρ i).sv m)
  | .field t x f => evFieldV c.ti t f ((ρ x).sv m)
  | .fieldAddr t x f => evField c.ti t f (ρ x)
  | .load t x => evLoad c.ti t m (ρ x)
  | .extract x i => match (ρ x).sv m with | .tup n f => ⟨i < n, .p (f i)⟩ | _ => no
  | .build t ⟨l⟩ => evBuild c.ti t (l.map (fun p => (p.1, (ρ p.2).sv m)))
  | .buildSlice t n ⟨l⟩ => evBuildSlice c.ti t n (l.map (fun p => (p.1, (ρ p.2).sv m)))
  | .slice t x lo hi none => evSlice (c.ti (c.ti t).elem).size (c.ti t).kind ((ρ x).sv m) (lo.map (fun o => (ρ o).sv m)) (hi.map (fun o => (ρ o).sv m))
  | .call { callee := .builtin .len, args := ⟨[x]⟩, argTypes := ⟨[t]⟩ } => evLen (c.ti t).kind m ((ρ x).norm m)
  | .call { callee := .value x, args := ⟨l⟩, .. } => match (ρ x).sv m with
    | .v (.func (.func f) ⟨[]⟩ ⟨[]⟩) => ⟨(c.spec f (l.map (fun x => (ρ x).sv m))).pre, .p (c.spec f (l.map (fun x => (ρ x).sv m))).res⟩
    | _ => no
  | .call { callee := .builtin .min, args := ⟨[x, y]⟩, .. } => evMin ((ρ x).sv m) ((ρ y).sv m)
  | .call { callee := .builtin .max, args := ⟨[x, y]⟩, .. } => evMax ((ρ x).sv m) ((ρ y).sv m)
  | .convert src dst x => evConv c.ti src dst ((ρ x).sv m)
  | .nilCheck x => evNil (ρ x)
  | .call { callee := .builtin .complex, args := ⟨[x, y]⟩, .. } => evCplx ((ρ x).sv m) ((ρ y).sv m)
  | .call { callee := .builtin .real, args := ⟨[x]⟩, .. } => evPart true ((ρ x).sv m)
  | .call { callee := .builtin .imag, args := ⟨[x]⟩, .. } => evPart false ((ρ x).sv m)
  | _ => no

/-- The table of types of a program. -/
def TI.of (P : Program) (t : TypeId) : TI :=
  match P.info? t with
  | none => default
  | some i =>
    { size := i.size, bytes := i.bytes
      isAgg := match P.underlying t with | some (.struct _) | some (.array _ _) => true | _ => false
      elem := match P.underlying t with | some (.slice e) | some (.array _ e) | some (.pointer e) => e | _ => 0
      offs := match P.underlying t with | some (.struct fs) => fs.toList.map (·.offset) | _ => []
      fty := match P.underlying t with | some (.struct fs) => fs.toList.map (·.type) | _ => []
      nz := match P.underlying t with | some (.struct fs) => fs.toList.all (fun f => P.cellsOf f.type != 0) | _ => false
      zero := match i.zero with | some z => ofV z | none => .dead
      len := match P.underlying t with | some (.array n _) => n | _ => 0
      kind := match P.underlying t with | some (.struct _) => 1 | some (.array _ _) => 2 | some (.slice _) => 3 | some .bool => 4 | some .string => 5 | some (.float k) => (if k = .f64 then 6 else 9) | some _ => 9 | none => 0
      ik := match P.underlying t with | some (.int k) => some k | _ => none
      eqok := match P.underlying t with | some (.struct fs) => !P.stoodInHeld t && fs.toList.all (fun f => f.name != "_") && !P.eqGuardType P.depth t | some (.array _ _) => !P.eqGuardType P.depth t | _ => false }

/-- Room for so many cells of so many bytes. -/
def roomy (n bytes : Nat) : Prop := n ≤ 1099511627776 ∧ n * bytes ≤ 140737488355328

def allocK (c : Cfg) (t : TypeId) (d : Option Tmp) (T : Nat → Slot) (m : Mem) : St :=
  ⟨putT T d (.bx m.boxes.length 0), { m with boxes := m.boxes ++ [⟨(c.ti t).size, fun i => .p ((c.ti t).zero.cell i)⟩] }⟩
def boxF (c : Cfg) (t : TypeId) (m : Mem) (x : Slot) : Nat → Slot := if (c.ti t).isAgg then fun i => .p ((x.sv m).cell i) else fun _ => x
def boxS (c : Cfg) (t : TypeId) (m : Mem) (x : Slot) : Prop := if (c.ti t).isAgg then (x.sv m).size = (c.ti t).size ∧ (x.sv m).isAg = true else (c.ti t).size = 1 ∧ x.one = true
def boxK (c : Cfg) (t : TypeId) (d : Option Tmp) (T : Nat → Slot) (m : Mem) (x : Slot) : St :=
  ⟨putT T d (.bx m.boxes.length 0), { m with boxes := m.boxes ++ [⟨(c.ti t).size, boxF c t m x⟩] }⟩
def Box.put (b : Box) (c : Cfg) (t : TypeId) (off : Nat) (m : Mem) (x : Slot) : Box :=
  ⟨b.n, if (c.ti t).isAgg then fun i => if off ≤ i ∧ i < off + (c.ti t).size then .p ((x.sv m).cell (i - off)) else b.f i else upd b.f off x⟩
def setAt {α : Type} : List α → Nat → α → List α
  | [], _, _ => []
  | _ :: r, 0, x => x :: r
  | y :: r, k + 1, x => y :: setAt r k x
def SV.setCell (s : SV) (n off : Nat) (x : SV) : SV := match s with | .agg _ f => .agg n (upd f off x) | _ => x
def SV.setIdx (s : SV) (i : Nat) (x : SV) : SV := match s with | .sl ex n k e => .sl ex n k (upd e i x) | s => s

/-- What is asked of what follows, and the state that it gets. -/
structure A where
  side : Prop
  s : St
def noA : A := ⟨False, ⟨T0, ⟨[], []⟩⟩⟩

def storeA (c : Cfg) (t : TypeId) (d : Option Tmp) (T : Nat → Slot) (m : Mem) (a x : Slot) : A :=
  match a with
  | .bx k off => match m.boxes[k]? with
    | some b => ⟨boxS c t m x ∧ off + (c.ti t).size ≤ b.n ∧ (c.ti t).size ≠ 0, ⟨putT T d (.p .dead), { m with boxes := setAt m.boxes k (b.put c t off m x) }⟩⟩
    | none => noA
  | .rp k i off => match m.rows[k]? with
    | some r => if (c.ti t).isAgg then
        ⟨r.live = true ∧ r.pub = false ∧ i < r.s.len ∧ off = 0 ∧ (x.sv m).size = (c.ti r.ty).size ∧ (x.sv m).isAg = true ∧ (c.ti t).size = (c.ti r.ty).size ∧ (c.ti t).size ≠ 0 ∧ r.s.isSl = true, ⟨putT T d (.p .dead), { m with rows := setAt m.rows k { r with s := r.s.setIdx i (x.sv m) } }⟩⟩
        else ⟨r.live = true ∧ r.pub = false ∧ i < r.s.len ∧ off < (c.ti r.ty).size ∧ (x.sv m).one = true ∧ (c.ti t).size = 1 ∧ r.s.isSl = true ∧ ((r.s.idx i).isAg = true ∨ (c.ti r.ty).size = 1), ⟨putT T d (.p .dead), { m with rows := setAt m.rows k { r with s := r.s.setIdx i ((r.s.idx i).setCell (c.ti r.ty).size off (x.sv m)) } }⟩⟩
    | none => noA
  | _ => noA

/-- A type of which slices are made. -/
def okTy (c : Cfg) (ty : TypeId) : Prop := (c.ti ty).size ≠ 0 ∧ (c.ti ty).zero.good = true ∧ (c.ti ty).zero.size = (c.ti ty).size
/-- 'append' of what reads as 'x' to the slice in a slot. -/
def appendA (c : Cfg) (ty : TypeId) (d : Option Tmp) (T : Nat → Slot) (m : Mem) (s : Slot) (x : SV) : A :=
  match x with
  | .sl _ n2 k2 e2 => match s with
    | .p (.v (.slice none 0 0)) => ⟨0 < n2 ∧ k2 = (c.ti ty).size ∧ okTy c ty ∧ roomy n2 (c.ti ty).bytes,
        ⟨putT T d (.ow m.rows.length), { m with rows := m.rows ++ [⟨ty, .sl false n2 k2 e2, c.pubNew, true⟩] }⟩⟩
    | .p (.sl true n k e) => if n2 = 1 then ⟨k = (c.ti ty).size ∧ k2 = (c.ti ty).size ∧ okTy c ty ∧ roomy (n + n2) (c.ti ty).bytes,
        ⟨putT T d (.ow m.rows.length), { m with rows := m.rows ++ [⟨ty, SV.snoc k (.sl true n k e) (.sl true n2 k2 e2), c.pubNew, true⟩] }⟩⟩
        else ⟨k = (c.ti ty).size ∧ k2 = (c.ti ty).size ∧ okTy c ty ∧ roomy (n + n2) (c.ti ty).bytes, ⟨putT T d (.p (SV.snoc k (.sl true n k e) (.sl true n2 k2 e2))), m⟩⟩
    | .ow k => match m.rows[k]? with
      | some r => ⟨r.live = true ∧ r.ty = ty ∧ k2 = (c.ti ty).size ∧ okTy c ty ∧ roomy (r.s.len + n2) (c.ti ty).bytes,
        ⟨putT T d (.ow m.rows.length), { m with rows := setAt m.rows k { r with live := false } ++ [⟨ty, SV.snoc k2 r.s (.sl true n2 k2 e2), r.pub, true⟩] }⟩⟩
      | none => noA
    | _ => noA
  | _ => noA

def makeA (c : Cfg) (ty : TypeId) (d : Option Tmp) (T : Nat → Slot) (m : Mem) (l k : SV) : A :=
  match l, k with
  | .v (.int _ n), .v (.int _ cap) => ⟨n ≤ cap ∧ 0 ≤ n ∧ roomy cap.toNat (c.ti ty).bytes ∧ (c.ti ty).size ≠ 0 ∧ (c.ti ty).zero.good = true ∧ (c.ti ty).zero.size = (c.ti ty).size,
      ⟨putT T d (.ow m.rows.length), { m with rows := m.rows ++ [⟨ty, .sl false n.toNat (c.ti ty).size (fun _ => (c.ti ty).zero), c.pubMake, true⟩] }⟩⟩
  | _, _ => noA

/-- The operations that change the machine's memory. -/
def act (c : Cfg) (op : Op) (d : Option Tmp) (T : Nat → Slot) (m : Mem) : Option A :=
  match op with
  | .alloc t => some ⟨(c.ti t).zero.good = true ∧ (c.ti t).zero.size = (c.ti t).size, allocK c t d T m⟩
  | .box t x => some ⟨boxS c t m (val T x), boxK c t d T m (val T x)⟩
  | .store t a x => some (storeA c t d T m (val T a) (val T x))
  | .makeSlice t l k => some (if (c.ti t).kind ≠ 3 then noA else makeA c (c.ti t).elem d T m ((val T l).sv m) ((val T k).sv m))
  | .call { callee := .builtin .append, args := ⟨[s, x]⟩, argTypes := ⟨[t, u]⟩ } => some (if t = u ∧ (c.ti t).kind = 3 then appendA c (c.ti t).elem d T m (val T s) ((val T x).sv m) else noA)
  | _ => none

/-- The operands of the operations that may be guarded. -/
def opl : Op → List Operand
  | .move x | .assign x | .nilCheck x | .unOp _ _ x | .fieldAddr _ x _ | .load _ x | .extract x _ | .field _ x _ | .convert _ _ x => [x]
  | .binOp _ _ x y _ | .indexAddr _ x y | .index _ x y => [x, y]
  | .build _ ps | .buildSlice _ _ ps => ps.toList.map (·.2)
  | .slice _ x lo hi _ => x :: (lo.toList ++ hi.toList)
  | .call { callee := .value x, args, .. } => x :: args.toList
  | .call { args, .. } => args.toList
  | _ => []
def opu : Op → List Operand
  | .pick c a b => [c, a, b]
  | op => opl op
def isPick : Op → Bool | .pick .. => true | _ => false
def okAll (g : Bool) (T : Nat → Slot) : List Operand → Prop
  | [] => True
  | x :: r => (val T x).okG g ∧ okAll g T r

/-- The slot that a guard looks at. -/
def gslot (ops : Array Oper) (j : Nat) : Option Tmp := (ops[j]?).bind (·.dst)
def evG (c : Cfg) (op : Op) (T : Nat → Slot) (m : Mem) : R := ev c op (fun x => if isPick op then val T x else (val T x).strip) m

/-- Operations, one by one, in the order of the text. -/
def runOps (c : Cfg) (ops : Array Oper) (K : St → Prop) : List Oper → (Nat → Slot) → Mem → Prop
  | [], T, m => K ⟨T, m⟩
  | o :: r, T, m => match o.guard with
    | none => match act c o.op o.dst T m with
      | some a => a.side ∧ runOps c ops K r a.s.t a.s.m
      | none => (ev c o.op (val T) m).side ∧ runOps c ops K r (putT T o.dst (ev c o.op (val T) m).s) m
    | some (j, want) => match gslot ops j with
      | none => False
      | some d => match (T d).want want with
        | none => False
        | some g => okAll g T (opl o.op) ∧ (act c o.op o.dst T m).isNone = true ∧ (g = true → (evG c o.op T m).side) ∧ runOps c ops K r (putT T o.dst (.gd g (evG c o.op T m).s)) m

/-! ### Regions that draw their order -/
def isBar : Op → Bool
  | .box .. | .store .. | .makeSlice .. | .call { callee := .builtin .append, .. } => true
  | _ => false
def direct (o : Oper) : List Nat := o.after.toList.filterMap fun e => if Region.binds .any e then some e.on else none
/-- Of each operation all that must have come up before it. -/
def preds : List Oper → List (List Nat) → List (List Nat)
  | [], acc => acc
  | o :: r, acc => preds r (acc ++ [direct o ++ (direct o).flatMap (fun i => acc.getD i [])])
def pairOK (ops : Array Oper) (ps : List (List Nat)) (i j : Nat) (x y : Oper) : Bool :=
  (ps.getD j []).contains i || (!isBar x.op && !isBar y.op && x.apart ops y)
def drawOK (ops : Array Oper) : Bool :=
  (List.range ops.size).all fun j => match ops[j]? with
    | none => true
    | some y => (direct y).all (· < j) && (match y.op with | .select .. => false | _ => true) && (List.range j).all fun i => match ops[i]? with
      | none => true
      | some x => pairOK ops (preds ops.toList []) i j x y

/-! ### Regions in which a read may come before a write or behind it -/
def pureS : Slot → Bool
  | .p _ => true
  | .bx .. => true
  | .gd _ s => pureS s
  | _ => false
/-- The box that an operation looks into, or makes. -/
def opBox (op : Op) (T : Nat → Slot) (v : Slot) : Option Nat :=
  match op with
  | .load _ x => match (val T x).strip with | .bx k _ => some k | _ => none
  | .alloc _ => match v with | .bx k _ => some k | _ => none
  | _ => none
/-- An operation that looks at no row. -/
def rowFree (c : Cfg) (op : Op) (T : Nat → Slot) : Bool :=
  match op with
  | .move _ | .assign _ | .pick .. | .fieldAddr .. | .nilCheck _ | .alloc _ => true
  | .load t x => match (val T x).strip with | .bx _ _ => !(c.ti t).isAgg | .p _ => true | _ => false
  | op => (opl op).all fun x => pureS (val T x)
def barBox (op : Op) (T : Nat → Slot) : Option Nat :=
  match op with
  | .store _ a _ => match val T a with | .bx k _ => some k | _ => none
  | _ => none
/-- The read gives the same before the write and behind it. -/
def indep (c : Cfg) (oi : Op) (Ti : Nat → Slot) (vi : Slot) (oj : Op) (Tj : Nat → Slot) : Bool :=
  match barBox oj Tj with
  | some k => opBox oi Ti vi != some k
  | none => rowFree c oi Ti
def opAt (ops : Array Oper) (i : Nat) : Op := match ops[i]? with | some o => o.op | none => .move (.const (.bool true))
/-- What is checked at the operation 'i', for the pairs (a read, a write) whose order is open. -/
def chkU (c : Cfg) (ops : Array Oper) : List (Nat × Nat) → Nat → (Nat → Nat → Slot) → (Nat → Slot) → (Nat → Slot) → Slot → Prop
  | [], _, _, _, _, _ => True
  | (q, j) :: r, i, hT, hV, T, v =>
    (if j = i then (if q < i then indep c (opAt ops q) (hT q) (hV q) (opAt ops i) T = true else True)
     else if q = i then (if j < i then indep c (opAt ops i) T v (opAt ops j) (hT j) = true else True) else True) ∧ chkU c ops r i hT hV T v
/-- Operations, one by one, in the order of the text; 'hT', 'hV': the slots as they were at each operation, and what it gave. -/
def runH (c : Cfg) (ops : Array Oper) (U : List (Nat × Nat)) (K : St → Prop) : List Oper → Nat → (Nat → Nat → Slot) → (Nat → Slot) → (Nat → Slot) → Mem → Prop
  | [], _, _, _, T, m => K ⟨T, m⟩
  | o :: r, i, hT, hV, T, m => match o.guard with
    | none => match act c o.op o.dst T m with
      | some a => a.side ∧ chkU c ops U i hT hV T (.bx m.boxes.length 0) ∧ runH c ops U K r (i + 1) (upd hT i T) (upd hV i (.bx m.boxes.length 0)) a.s.t a.s.m
      | none => (ev c o.op (val T) m).side ∧ chkU c ops U i hT hV T (ev c o.op (val T) m).s ∧ runH c ops U K r (i + 1) (upd hT i T) (upd hV i (ev c o.op (val T) m).s) (putT T o.dst (ev c o.op (val T) m).s) m
    | some (j, want) => match gslot ops j with
      | none => False
      | some d => match (T d).want want with
        | none => False
        | some g => okAll g T (opl o.op) ∧ (act c o.op o.dst T m).isNone = true ∧ (g = true → (evG c o.op T m).side) ∧ chkU c ops U i hT hV T (.gd g (evG c o.op T m).s) ∧
            runH c ops U K r (i + 1) (upd hT i T) (upd hV i (.gd g (evG c o.op T m).s)) (putT T o.dst (.gd g (evG c o.op T m).s)) m
def isBox : Op → Bool
  | .box .. => true
  | _ => false
def hardOK (ops : Array Oper) (U : List (Nat × Nat)) : Bool :=
  (List.range ops.size).all fun j => match ops[j]? with
    | none => true
    | some y => (direct y).all (· < j) && (match y.op with | .select .. => false | _ => true) && !isBox y.op && (!isBar y.op || y.guard.isNone) && (List.range j).all fun i => match ops[i]? with
      | none => true
      | some x => ((preds ops.toList []).getD j []).contains i || (x.apart ops y && (if isBar x.op then !isBar y.op && U.contains (j, i) else !isBar y.op || U.contains (i, j)))

/-! ### What a loop's head is told -/
def allLt : Nat → (Nat → Prop) → Prop
  | 0, _ => True
  | n + 1, p => allLt n p ∧ p n
def SV.le : SV → SV → Prop
  | x, .dead => True
  | .v a, .v b => a = b
  | .v (.slice none 0 0), .sl false n _ _ => n = 0
  | .agg n f, .agg n' g => n = n' ∧ allLt n (fun i => SV.le (f i) (g i))
  | .tup n f, .tup n' g => n = n' ∧ allLt n (fun i => SV.le (f i) (g i))
  | .sl ex n k e, .sl ex' n' k' e' => (ex' = true → ex = true) ∧ n = n' ∧ k = k' ∧ ∀ i, i < n → SV.le (e i) (e' i)
  | .rd e off, .rd e' off' => off = off' ∧ SV.le e e'
  | _, _ => False
def Slot.le (m : Mem) (sb : List Nat) (sr : List (Option Nat)) : Slot → Slot → Prop
  | _, .p .dead => True
  | .p (.v (.slice none 0 0)), .ow k' => sr[k']? = some none
  | .bx k o, .bx k' o' => sb[k']? = some k ∧ o = o'
  | .ow k, .ow k' => sr[k']? = some (some k)
  | .gd _ _, _ => False
  | s, .p y => SV.le (s.sv m) y
  | _, _ => False
def findB (T : Nat → Slot) : List (Nat × Slot) → Nat → Nat
  | [], k => k
  | (i, .bx k' _) :: r, k => if k' = k then (match T i with | .bx j _ => j | _ => k) else findB T r k
  | _ :: r, k => findB T r k
def findR (T : Nat → Slot) : List (Nat × Slot) → Nat → Option Nat
  | [], k => some k
  | (i, .ow k') :: r, k => if k' = k then (match T i with | .ow j => some j | .p _ => none | _ => some k) else findR T r k
  | _ :: r, k => findR T r k
def leL (m : Mem) (sb : List Nat) (sr : List (Option Nat)) (T : Nat → Slot) : List (Nat × Slot) → Prop
  | [] => True
  | (i, s) :: r => Slot.le m sb sr (T i) s ∧ leL m sb sr T r
def leB (m : Mem) (sb : List Nat) (sr : List (Option Nat)) : List Nat → List Box → Prop
  | k :: ks, b' :: r => (match m.boxes[k]? with | some b => b.n = b'.n ∧ allLt b.n (fun i => Slot.le m sb sr (b.f i) (b'.f i)) | none => False) ∧ leB m sb sr ks r
  | [], [] => True
  | _, _ => False
def leRow (r r' : Row) : Prop := r'.ty = r.ty ∧ (r'.live = true → r.live = true) ∧ r'.pub = r.pub ∧ r.s.isSl = true ∧ r'.s.isSl = true ∧ SV.le r.s.ro r'.s.ro
def leR (m : Mem) : List (Option Nat) → List Row → Prop
  | some k :: ks, r' :: r => (match m.rows[k]? with | some r0 => leRow r0 r' | none => False) ∧ leR m ks r
  | none :: ks, r' :: r => (r'.s.isSl = true ∧ r'.s.len = 0) ∧ leR m ks r
  | [], [] => True
  | _, _ => False
def distinct : List Nat → Bool
  | [] => true
  | x :: r => !r.contains x && distinct r
def somes : List (Option Nat) → List Nat
  | [] => []
  | some x :: r => x :: somes r
  | none :: r => somes r
/-- The state is as the loop's head (or whatever is written out) says, and more. -/
def St.le (s : St) (F : FSt) : Prop :=
  distinct (upTo (findB s.t F.l) F.m.boxes.length) = true ∧ distinct (somes (upTo (findR s.t F.l) F.m.rows.length)) = true ∧
  leB s.m (upTo (findB s.t F.l) F.m.boxes.length) (upTo (findR s.t F.l) F.m.rows.length) (upTo (findB s.t F.l) F.m.boxes.length) F.m.boxes ∧ leR s.m (upTo (findR s.t F.l) F.m.rows.length) F.m.rows ∧
  leL s.m (upTo (findB s.t F.l) F.m.boxes.length) (upTo (findR s.t F.l) F.m.rows.length) s.t F.l

/-! ### Code -/
def seqK (wb : St → Prop) (Q : Exit → St → Prop) : Exit → St → Prop
  | .normal, s => wb s
  | e, s => Q e s
def blkK (id : Nat) (Q : Exit → St → Prop) : Exit → St → Prop
  | .exit id', s => if id' = id then Q .normal s else Q (.exit id') s
  | e, s => Q e s
def loopK (A : Ann) (g : A.G) (Q : Exit → St → Prop) : Exit → St → Prop
  | .normal, s => ∃ g', A.I g' ∧ A.μ g' < A.μ g ∧ s.le (A.fam g')
  | e, s => Q e s
def LoopVC (A : Ann) (body : (Exit → St → Prop) → St → Prop) (Q : Exit → St → Prop) (s : St) : Prop :=
  (∃ g, A.I g ∧ s.le (A.fam g)) ∧ ∀ g, A.I g → body (loopK A g Q) (A.fam g).toSt
/-- So many rounds, one by one. -/
def rounds (body : (Exit → St → Prop) → St → Prop) (Q : Exit → St → Prop) : Nat → St → Prop
  | 0, _ => False
  | n + 1, s => body (seqK (rounds body Q n) Q) s
def cnd (x : Slot) (a b : Prop) : Prop :=
  match x with
  | .p (.v (.bool t)) => (t = true → a) ∧ (t = false → b)
  | _ => False
/-- The boxes are written no more: what points to one points to what lies still. -/
def Slot.frz (m : Mem) : Slot → Slot
  | .bx k off => match m.boxes[k]? with | some b => .p (.rd (.agg b.n (fun i => (b.f i).sv m)) off) | none => .p .dead
  | .gd c s => .gd c (s.frz m)
  | s => s
def St.freeze (s : St) : St := ⟨fun i => (s.t i).frz s.m, ⟨[], s.m.rows⟩⟩
def St.frzIf (s : St) : Bool → St
  | true => s.freeze
  | false => s
def wp (c : Cfg) : Code → (Exit → St → Prop) → St → Prop
  | .skip, Q, s => Q .normal s
  | .label _, Q, s => Q .normal s
  | .region id ops _, Q, s => match c.un id with
    | none => runOps c ops (Q .normal) ops.toList (s.frzIf (c.frz id)).t (s.frzIf (c.frz id)).m
    | some U => runH c ops U (Q .normal) ops.toList 0 (fun _ => T0) T0 (s.frzIf (c.frz id)).t (s.frzIf (c.frz id)).m
  | .seq x y, Q, s => wp c x (seqK (wp c y Q) Q) s
  | .cond x t e, Q, s => cnd (val s.t x) (wp c t Q s) (wp c e Q s)
  | .block id x, Q, s => wp c x (blkK id Q) s
  | .loop x, Q, s => (∃ n, rounds (wp c x) Q n s) ∨ ∃ A : Ann, LoopVC A (wp c x) Q s
  | .exit id, Q, s => Q (.exit id) s
  | .ret, Q, s => Q .ret s
  | _, _, _ => False
end Go.Am
