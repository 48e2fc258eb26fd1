/- Closed runs: a function that carries out what the abstract machine does, at given arguments. Definitions. -/
import Derived.Test.YtmmofgbjpmhgpaaDoorAm16
set_option linter.all false
set_option linter.unusedVariables false
set_option linter.unusedSimpArgs false
set_option linter.unnecessarySimpa false
namespace Go.Am
open Go

/-! ### What is handed on is computed first -/
section
variable {α : Type}
def forceNat (n : Nat) (k : Nat → α) : α := match n with | 0 => k 0 | m + 1 => k (Nat.succ m)
def forceInt (i : Int) (k : Int → α) : α := match i with | .ofNat n => forceNat n (fun n => k (.ofNat n)) | .negSucc n => forceNat n fun n => k (.negSucc n)
def forceBool (b : Bool) (k : Bool → α) : α := match b with | true => k true | false => k false
def forceBytes : List UInt8 → (List UInt8 → α) → α
  | [], k => k []
  | x :: r, k => forceNat x.toNat fun n => forceBytes r fun r => k (UInt8.ofNat n :: r)
def forceV (v : Value) (k : Value → α) : α := match v with
  | .int q i => forceInt i fun i => k (.int q i)
  | .bool b => forceBool b fun b => k (.bool b)
  | .string ⟨⟨l⟩⟩ => forceBytes l fun l => k (.string ⟨⟨l⟩⟩)
  | .float q b => forceNat b fun b => k (.float q b)
  | .complex q a b => forceNat a fun a => forceNat b fun b => k (.complex q a b)
  | v => k v
def forceUp {β : Type} (g : β → (β → α) → α) : (n : Nat) → (f : Nat → β) → (List β → α) → α
  | 0, _, k => k []
  | n + 1, f, k => g (f 0) fun x => forceUp g n (fun i => f (i + 1)) fun l => k (x :: l)
def forceSV : Nat → SV → (SV → α) → α
  | 0, s, k => k s
  | d + 1, s, k => match s with
    | .v x => forceV x fun x => k (.v x)
    | .agg n f => forceNat n fun n => forceUp (forceSV d) n f fun l => k (.agg n (list l))
    | .tup n f => forceNat n fun n => forceUp (forceSV d) n f fun l => k (.tup n (list l))
    | .sl ex n e f => forceBool ex fun ex => forceNat n fun n => forceUp (forceSV d) n f fun l => k (.sl ex n e (list l))
    | .rd e o => forceSV d e fun e => forceNat o fun o => k (.rd e o)
    | .dead => k .dead
def forceS : Slot → (Slot → α) → α
  | .p x, k => forceSV 5 x fun x => k (.p x)
  | .bx a b, k => forceNat a fun a => forceNat b fun b => k (.bx a b)
  | .ow a, k => forceNat a fun a => k (.ow a)
  | .rp a b c, k => forceNat a fun a => forceNat b fun b => forceNat c fun c => k (.rp a b c)
  | .gd true s, k => forceS s fun s => k (.gd true s)
  | .gd false s, k => k (.gd false s)
def slist : List Slot → Nat → Slot
  | [], _ => .p .dead
  | x :: _, 0 => x
  | _ :: r, i + 1 => slist r i
def forceBox (b : Box) (k : Box → α) : α := forceNat b.n fun n => forceUp forceS n b.f fun l => k ⟨n, slist l⟩
def forceRow (r : Row) (k : Row → α) : α := match r.s with
  | .sl ex n e f => forceNat n fun n => forceUp (forceSV 5) n f fun l => k ⟨r.ty, .sl ex n e (list l), r.pub, r.live⟩
  | _ => k r
def forceList {β : Type} (g : β → (β → α) → α) : List β → (List β → α) → α
  | [], k => k []
  | x :: r, k => g x fun x => forceList g r fun r => k (x :: r)
def forceM (m : Mem) (k : Mem → α) : α := forceList forceBox m.boxes fun b => forceList forceRow m.rows fun r => k ⟨b, r⟩
def lsetK : List Slot → Nat → Slot → (List Slot → α) → α
  | [], _, _, k => k []
  | _ :: r, 0, x, k => k (x :: r)
  | y :: r, n + 1, x, k => lsetK r n x fun r => k (y :: r)
def wrBack (T : Nat → Slot) : List Tmp → List Slot → (List Slot → α) → α
  | [], l, k => k l
  | d :: r, l, k => forceS (T d) fun s => lsetK l d s fun l => wrBack T r l k
end

def dsts : List Oper → List Tmp
  | [] => []
  | o :: r => match o.dst with | some d => (if (dsts r).contains d then dsts r else d :: dsts r) | none => dsts r

def runX (c : Cfg) [∀ f l, Decidable (c.spec f l).pre] (ops : Array Oper) : List Oper → (Nat → Slot) → Mem → Option ((Nat → Slot) × Mem)
  | [], T, m => some (T, m)
  | o :: r, T, m => match o.guard with
    | none => match act c o.op o.dst T m with
      | some a => if sideO (act c o.op o.dst T m) then runX c ops r a.s.t a.s.m else none
      | none => if (ev c o.op (val T) m).side then runX c ops r (putT T o.dst (ev c o.op (val T) m).s) m else none
    | some (j, want) => match gslot ops j with
      | none => none
      | some d => match (T d).want want with
        | none => none
        | some g => if okAll g T (opl o.op) ∧ (act c o.op o.dst T m).isNone = true ∧ (g = true → (evG c o.op T m).side) then runX c ops r (putT T o.dst (.gd g (evG c o.op T m).s)) m else none

def chkB (c : Cfg) (ops : Array Oper) : List (Nat × Nat) → Nat → (Nat → Nat → Slot) → (Nat → Slot) → (Nat → Slot) → Slot → Bool
  | [], _, _, _, _, _ => true
  | (q, j) :: r, i, hT, hV, T, v =>
    (if Nat.beq j i then (if Nat.blt q i then indep c (opAt ops q) (hT q) (hV q) (opAt ops i) T else true)
     else if Nat.beq q i then (if Nat.blt j i then indep c (opAt ops i) T v (opAt ops j) (hT j) else true) else true) && chkB c ops r i hT hV T v
def runHX (c : Cfg) [∀ f l, Decidable (c.spec f l).pre] (ops : Array Oper) (U : List (Nat × Nat)) : List Oper → Nat → (Nat → Nat → Slot) → (Nat → Slot) → (Nat → Slot) → Mem → Option ((Nat → Slot) × Mem)
  | [], _, _, _, T, m => some (T, m)
  | o :: r, i, hT, hV, T, m => match o.guard with
    | none => match act c o.op o.dst T m with
      | some a => if sideO (act c o.op o.dst T m) ∧ chkB c ops U i hT hV T (.bx m.boxes.length 0) = true then runHX c ops U r (i + 1) (upd hT i T) (upd hV i (.bx m.boxes.length 0)) a.s.t a.s.m else none
      | none => if (ev c o.op (val T) m).side ∧ chkB c ops U i hT hV T (ev c o.op (val T) m).s = true then
          runHX c ops U r (i + 1) (upd hT i T) (upd hV i (ev c o.op (val T) m).s) (putT T o.dst (ev c o.op (val T) m).s) m else none
    | some (j, want) => match gslot ops j with
      | none => none
      | some d => match (T d).want want with
        | none => none
        | some g => if okAll g T (opl o.op) ∧ (act c o.op o.dst T m).isNone = true ∧ (g = true → (evG c o.op T m).side) ∧ chkB c ops U i hT hV T (.gd g (evG c o.op T m).s) = true then
            runHX c ops U r (i + 1) (upd hT i T) (upd hV i (.gd g (evG c o.op T m).s)) (putT T o.dst (.gd g (evG c o.op T m).s)) m else none
def runRX (c : Cfg) [∀ f l, Decidable (c.spec f l).pre] (ops : Array Oper) (T : Nat → Slot) (m : Mem) : Option (List (Nat × Nat)) → Option ((Nat → Slot) × Mem)
  | none => runX c ops ops.toList T m
  | some U => runHX c ops U ops.toList 0 (fun _ => T0) T0 T m

def isMemOp : Op → Bool
  | .alloc _ | .box .. | .store .. | .makeSlice .. | .call { callee := .builtin .append, .. } => true
  | _ => false
def forceMIf {α : Type} (b : Bool) (m : Mem) (k : Mem → α) : α := match b with | true => forceM m k | false => k m
abbrev XR := Option (Exit × List Slot × Mem)
def xloop (f : List Slot → Mem → XR) : Nat → List Slot → Mem → XR
  | 0, _, _ => none
  | n + 1, l, m => match f l m with
    | some (.normal, l', m') => xloop f n l' m'
    | r => r
def xcode (c : Cfg) [∀ f l, Decidable (c.spec f l).pre] (F : Nat) : Code → List Slot → Mem → XR
  | .skip, l, m | .label _, l, m => some (.normal, l, m)
  | .region id ops _, l, m => match c.frz id with
    | false => match runRX c ops (slist l) m (c.un id) with
      | some (T', m') => forceMIf (ops.any fun o => isMemOp o.op) m' fun m' => wrBack T' (dsts ops.toList) l fun l => some (.normal, l, m')
      | none => none
    | true => match runRX c ops (slist (l.map (·.frz m))) ⟨[], m.rows⟩ (c.un id) with
      | some (T', m') => forceMIf (ops.any fun o => isMemOp o.op) m' fun m' => wrBack T' (dsts ops.toList) (l.map (·.frz m)) fun l => forceList forceS l fun l => some (.normal, l, m')
      | none => none
  | .seq x y, l, m => match xcode c F x l m with
    | some (.normal, l', m') => xcode c F y l' m'
    | r => r
  | .cond x t e, l, m => match val (slist l) x with
    | .p (.v (.bool true)) => xcode c F t l m
    | .p (.v (.bool false)) => xcode c F e l m
    | _ => none
  | .block id x, l, m => match xcode c F x l m with
    | some (.exit id', l', m') => if id' = id then some (.normal, l', m') else some (.exit id', l', m')
    | r => r
  | .loop x, l, m => xloop (xcode c F x) F l m
  | .exit id, l, m => some (.exit id, l, m)
  | .ret, l, m => some (.ret, l, m)
  | _, _, _ => none

/-! ### Calls -/
structure Opt where
  pubNew : Bool
  pubMake : Bool
  frz : Nat → Bool
  un : Nat → Option (List (Nat × Nat))
def specOf (call : FuncId → List SV → Option SV) : FuncId → List SV → Spec := fun f l => match call f l with
  | some r => ⟨True, r⟩
  | none => noSpec
instance decSpecOf (call : FuncId → List SV → Option SV) (f : FuncId) (l : List SV) : Decidable (specOf call f l).pre := by
  unfold specOf
  split
  · exact isTrue trivial
  · exact isFalse (fun h => h)
def xcfg (ti : TypeId → TI) (call : FuncId → List SV → Option SV) (o : Opt) : Cfg := ⟨ti, specOf call, o.pubNew, o.pubMake, o.frz, o.un⟩
instance decXcfg (ti : TypeId → TI) (call : FuncId → List SV → Option SV) (o : Opt) (f : FuncId) (l : List SV) : Decidable ((xcfg ti call o).spec f l).pre := decSpecOf call f l
structure Fn where
  ntmps : Nat
  code : Code
  res : List ResultVar
  opt : Opt
instance decResR (c : Cfg) (s : St) (r : ResultVar) : Decidable (resR c s r).side := by
  have fin : ∀ (m : Mem) (x : Slot), Decidable (finR c m x).side := fun m x => by
    unfold finR; split
    · dsimp only; infer_instance
    · split
      · split
        all_goals (dsimp only [no]; infer_instance)
      · dsimp only [no]; infer_instance
    · dsimp only; infer_instance
  unfold resR
  split
  · exact fin _ _
  · have := fin s.m (evLoad c.ti ‹_› s.m (s.t ‹_›)).s
    dsimp only
    infer_instance
def decSides : ∀ l, (∀ r ∈ l, Decidable r.side) → Decidable (sides l)
  | [], _ => isTrue trivial
  | r :: l, h => by
    have := h r List.mem_cons_self
    have := decSides l (fun x hx => h x (List.mem_cons_of_mem _ hx))
    unfold sides
    infer_instance
def sidesB (c : Cfg) (s : St) : List ResultVar → Bool
  | [] => true
  | r :: l => decide (resR c s r).side && sidesB c s l
def callX (ti : TypeId → TI) (base : FuncId → List SV → Option SV) (fns : FuncId → Option Fn) (F : Nat) : Nat → FuncId → List SV → Option SV
  | 0, f, svs => base f svs
  | n + 1, f, svs => match base f svs with
    | some r => some r
    | none => match fns f with
      | none => none
      | some fn => forceList (forceSV 5) svs fun svs =>
        match xcode (xcfg ti (callX ti base fns F n) fn.opt) F fn.code (svs.map .p ++ List.replicate (fn.ntmps - svs.length) (.p .dead)) ⟨[], []⟩ with
        | some (.ret, l, m) | some (.normal, l, m) =>
          if svs.length ≤ fn.ntmps ∧ sidesB (xcfg ti (callX ti base fns F n) fn.opt) ⟨slist l, m⟩ fn.res = true then forceSV 5 (retSV (fn.res.map fun r => slotP (resR (xcfg ti (callX ti base fns F n) fn.opt) ⟨slist l, m⟩ r).s)) some else none
        | _ => none
end Go.Am
