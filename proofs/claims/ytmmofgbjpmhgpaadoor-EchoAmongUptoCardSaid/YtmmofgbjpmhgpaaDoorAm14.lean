/- The abstract machine's steps as equations, for 'simp only [am]'. -/
import Derived.Test.YtmmofgbjpmhgpaaDoorAm13
set_option linter.all false
set_option linter.unusedVariables false
set_option linter.unusedSimpArgs false
set_option linter.unnecessarySimpa false
namespace Go.Am
open Go

def R.bind (r : R) (k : Slot → Prop) : Prop := r.side ∧ k r.s
theorem R.bind_mk (p : Prop) (s : Slot) (k : Slot → Prop) : R.bind ⟨p, s⟩ k = (p ∧ k s) := rfl
theorem R.bind_yes (x : SV) (k : Slot → Prop) : R.bind (yes x) k = k (.p x) := by simp [R.bind, yes]
theorem R.bind_no (k : Slot → Prop) : R.bind no k = False := by simp [R.bind, no]
@[congr] theorem R.bind_congr {r r' : R} (k : Slot → Prop) (h : r = r') : R.bind r k = R.bind r' k := by rw [h]
def A.bind (r : A) (k : St → Prop) : Prop := r.side ∧ k r.s
theorem A.bind_mk (p : Prop) (s : St) (k : St → Prop) : A.bind ⟨p, s⟩ k = (p ∧ k s) := rfl
theorem A.bind_no (k : St → Prop) : A.bind noA k = False := by simp [A.bind, noA]
@[congr] theorem A.bind_congr {r r' : A} (k : St → Prop) (h : r = r') : A.bind r k = A.bind r' k := by rw [h]
def bindO {α : Type} : Option α → (α → Prop) → Prop
  | none, _ => False
  | some x, k => k x
theorem bindO_none {α : Type} (k : α → Prop) : bindO none k = False := rfl
theorem bindO_some {α : Type} (x : α) (k : α → Prop) : bindO (some x) k = k x := rfl
@[congr] theorem bindO_congr {α : Type} {r r' : Option α} (k : α → Prop) (h : r = r') : bindO r k = bindO r' k := by rw [h]
/-- What goes on behind an operation that writes; if it's none that writes: the other. -/
def actK : Option A → (St → Prop) → Prop → Prop
  | some a, k, _ => a.bind k
  | none, _, e => e
theorem actK_some (a : A) (k : St → Prop) (e : Prop) : actK (some a) k e = a.bind k := rfl
theorem actK_none (k : St → Prop) (e : Prop) : actK none k e = e := rfl
@[congr] theorem actK_congr {r r' : Option A} (k : St → Prop) (e : Prop) (h : r = r') : actK r k e = actK r' k e := by rw [h]

section
variable (c : Cfg) (ops : Array Oper) (K : St → Prop) (T : Nat → Slot) (m : Mem)

theorem ro_nil : runOps c ops K [] T m = K ⟨T, m⟩ := rfl
theorem ro_cons (d : Option Tmp) (op : Op) (ty : TypeId) (p : String) (af : Array Edge) (r : List Oper) :
    runOps c ops K (⟨d, op, ty, p, af, none⟩ :: r) T m = actK (act c op d T m) (fun s => runOps c ops K r s.t s.m) ((ev c op (val T) m).bind fun s => runOps c ops K r (putT T d s) m) := by
  rw [runOps]
  dsimp only
  cases act c op d T m <;> rfl
theorem ro_guard (d : Option Tmp) (op : Op) (ty : TypeId) (p : String) (af : Array Edge) (j : Nat) (w : Bool) (r : List Oper) :
    runOps c ops K (⟨d, op, ty, p, af, some (j, w)⟩ :: r) T m = bindO (gslot ops j) fun q => bindO ((T q).want w) fun g =>
      okAll g T (opl op) ∧ (act c op d T m).isNone = true ∧ (g = true → (evG c op T m).side) ∧ runOps c ops K r (putT T d (.gd g (evG c op T m).s)) m := by
  rw [runOps]
  dsimp only
  cases gslot ops j with
  | none => rfl
  | some q =>
    dsimp only [bindO]
    cases (T q).want w <;> rfl
@[congr] theorem ro_congr {T T' : Nat → Slot} {m m' : Mem} (l : List Oper) (h : T = T') (h' : m = m') : runOps c ops K l T m = runOps c ops K l T' m' := by rw [h, h']
@[congr] theorem wp_congr (k : Code) (Q : Exit → St → Prop) {s s' : St} (h : s = s') : wp c k Q s = wp c k Q s' := by rw [h]
@[congr] theorem cnd_congr {x x' : Slot} (a b : Prop) (h : x = x') : cnd x a b = cnd x' a b := by rw [h]

theorem gslot_at (l : List Oper) (j : Nat) : gslot ⟨l⟩ j = (l[j]?).bind (·.dst) := by simp [gslot]
theorem list_cons_zero {α : Type} (x : α) (l : List α) : (x :: l)[0]? = some x := rfl
theorem list_cons_succ {α : Type} (x : α) (l : List α) (i : Nat) : (x :: l)[i + 1]? = l[i]? := rfl

/-! ### Code -/
variable (Q : Exit → St → Prop) (s : St)
theorem wp_skip' : wp c .skip Q s = Q .normal s := rfl
theorem wp_label' (l : Nat) : wp c (.label l) Q s = Q .normal s := rfl
theorem wp_ret' : wp c .ret Q s = Q .ret s := rfl
theorem wp_exit' (id : Nat) : wp c (.exit id) Q s = Q (.exit id) s := rfl
theorem wp_seq' (x y : Code) : wp c (.seq x y) Q s = wp c x (seqK (wp c y Q) Q) s := rfl
theorem wp_block' (id : Nat) (x : Code) : wp c (.block id x) Q s = wp c x (blkK id Q) s := rfl
theorem wp_cond' (x : Operand) (t e : Code) : wp c (.cond x t e) Q s = cnd (val s.t x) (wp c t Q s) (wp c e Q s) := rfl
def wpR (c : Cfg) (l : List Oper) (K : St → Prop) (s : St) : Option (List (Nat × Nat)) → Prop
  | none => runOps c ⟨l⟩ K l s.t s.m
  | some U => runH c ⟨l⟩ U K l 0 (fun _ => T0) T0 s.t s.m
theorem wpR_none (l : List Oper) (K : St → Prop) : wpR c l K s none = runOps c ⟨l⟩ K l s.t s.m := rfl
theorem wpR_some (l : List Oper) (K : St → Prop) (U : List (Nat × Nat)) : wpR c l K s (some U) = runH c ⟨l⟩ U K l 0 (fun _ => T0) T0 s.t s.m := rfl
theorem wp_region' (id : Nat) (l : List Oper) (dr : Bool) : wp c (.region id ⟨l⟩ dr) Q s = wpR c l (Q .normal) (s.frzIf (c.frz id)) (c.un id) := by
  simp only [wp]
  cases c.un id <;> rfl
theorem frzIf_false : s.frzIf false = s := rfl
theorem wp_loop' (x : Code) : wp c (.loop x) Q s = ((∃ n, rounds (wp c x) Q n s) ∨ ∃ A : Ann, LoopVC A (wp c x) Q s) := rfl
theorem cnd_bool (t : Bool) (a b : Prop) : cnd (.p (.v (.bool t))) a b = ((t = true → a) ∧ (t = false → b)) := rfl
variable (wb : St → Prop) (id id' : Nat)
theorem seqK_normal : seqK wb Q .normal s = wb s := rfl
theorem seqK_ret : seqK wb Q .ret s = Q .ret s := rfl
theorem seqK_exit : seqK wb Q (.exit id) s = Q (.exit id) s := rfl
theorem blkK_normal : blkK id Q .normal s = Q .normal s := rfl
theorem blkK_ret : blkK id Q .ret s = Q .ret s := rfl
theorem blkK_same : blkK id Q (.exit id) s = Q .normal s := by simp [blkK]
theorem blkK_other (h : id' ≠ id) : blkK id Q (.exit id') s = Q (.exit id') s := by simp [blkK, h]
theorem loopK_ret (A : Ann) (g : A.G) : loopK A g Q .ret s = Q .ret s := rfl
theorem loopK_exit (A : Ann) (g : A.G) : loopK A g Q (.exit id) s = Q (.exit id) s := rfl
theorem loopK_normal (A : Ann) (g : A.G) : loopK A g Q .normal s = ∃ g', A.I g' ∧ A.μ g' < A.μ g ∧ s.le (A.fam g') := rfl
end

/-! ### Slots -/
section
variable (T : Nat → Slot) (m : Mem) (s : Slot) (x : SV)
theorem val_tmp (i : Nat) : val T (.tmp i) = T i := rfl
theorem val_const (v : Value) : val T (.const v) = .p (ofV v) := rfl
theorem val_global (g : Nat) : val T (.global g) = .p (.v (.pointer (some ⟨g, 0, none⟩))) := rfl
theorem val_func (f : FuncId) : val T (.func f) = .p (.v (.func (.func f) #[] #[])) := rfl
theorem upd_same {α : Type} (f : Nat → α) (i : Nat) (x : α) : upd f i x i = x := by simp [upd]
theorem upd_ne {α : Type} (f : Nat → α) (i j : Nat) (x : α) (h : j ≠ i) : upd f i x j = f j := by simp [upd, h]
theorem putT_some (d : Tmp) : putT T (some d) s = upd T d s := rfl
theorem putT_none : putT T none s = T := rfl
theorem ofV_int (k : IntKind) (n : Int) : ofV (.int k n) = .v (.int k n) := rfl
theorem ofV_bool (b : Bool) : ofV (.bool b) = .v (.bool b) := rfl
theorem ofV_str (b : ByteArray) : ofV (.string b) = .v (.string b) := rfl
theorem ofV_slice (a : Option Addr) (n k : Nat) : ofV (.slice a n k) = .v (.slice a n k) := rfl
theorem ofV_ptr (a : Option Addr) : ofV (.pointer a) = .v (.pointer a) := rfl
theorem sv_p : (Slot.p x).sv m = x := rfl
theorem norm_p : (Slot.p x).norm m = .p x := rfl
theorem norm_bx (k o : Nat) : (Slot.bx k o).norm m = .bx k o := rfl
theorem strip_p : (Slot.p x).strip = .p x := rfl
theorem strip_bx (k o : Nat) : (Slot.bx k o).strip = .bx k o := rfl
theorem strip_ow (k : Nat) : (Slot.ow k).strip = .ow k := rfl
theorem strip_rp (k i o : Nat) : (Slot.rp k i o).strip = .rp k i o := rfl
theorem strip_gd (g : Bool) : (Slot.gd g s).strip = s.strip := rfl
theorem okG_gd (g g' : Bool) : (Slot.gd g s).okG g' = ((g' = true → g = true) ∧ s.okG g') := rfl
theorem okG_p (g : Bool) : (Slot.p x).okG g = True := rfl
theorem okG_bx (g : Bool) (k o : Nat) : (Slot.bx k o).okG g = True := rfl
theorem okG_ow (g : Bool) (k : Nat) : (Slot.ow k).okG g = True := rfl
theorem okG_rp (g : Bool) (k i o : Nat) : (Slot.rp k i o).okG g = True := rfl
theorem want_true (b : Bool) : (Slot.p (.v (.bool b))).want true = some b := rfl
theorem want_false (b : Bool) : (Slot.p (.v (.bool b))).want false = some (!b) := rfl
theorem want_gd (g w : Bool) : (Slot.gd g s).want w = (s.want w).map (g && ·) := rfl
theorem omap_some {α β : Type} (f : α → β) (x : α) : (some x).map f = some (f x) := rfl
theorem omap_none {α β : Type} (f : α → β) : (none : Option α).map f = none := rfl
theorem obind_some {α β : Type} (f : α → Option β) (x : α) : (some x).bind f = f x := rfl
theorem isNone_none {α : Type} : ((none : Option α).isNone = true) = True := by simp
theorem okAll_nil (g : Bool) : okAll g T [] = True := rfl
theorem okAll_cons (g : Bool) (y : Operand) (r : List Operand) : okAll g T (y :: r) = ((val T y).okG g ∧ okAll g T r) := rfl
end

/-! ### Operations -/
section
variable (c : Cfg) (ρ : Operand → Slot) (T : Nat → Slot) (m : Mem) (d : Option Tmp) (x y z : Operand) (t : TypeId)
theorem ev_move : ev c (.move x) ρ m = ⟨True, ρ x⟩ := rfl
theorem ev_assign : ev c (.assign x) ρ m = ⟨True, ρ x⟩ := rfl
theorem ev_pick : ev c (.pick x y z) ρ m = evPick (ρ x) (ρ y) (ρ z) := rfl
theorem ev_bin (op : BinOp) (q : TypeId) : ev c (.binOp op t x y q) ρ m = evBinT c.ti t op ((ρ x).sv m) ((ρ y).sv m) := rfl
theorem ev_un (op : UnOp) : ev c (.unOp op t x) ρ m = evUn op ((ρ x).sv m) := rfl
theorem ev_idxA : ev c (.indexAddr t x y) ρ m = evIdx c.ti t m ((ρ x).norm m) ((ρ y).sv m) := rfl
theorem ev_idx : ev c (.index t x y) ρ m = evIndexV c.ti t ((ρ x).sv m) ((ρ y).sv m) := rfl
theorem ev_field (f : Nat) : ev c (.field t x f) ρ m = evFieldV c.ti t f ((ρ x).sv m) := rfl
theorem ev_fieldA (f : Nat) : ev c (.fieldAddr t x f) ρ m = evField c.ti t f (ρ x) := rfl
theorem ev_load : ev c (.load t x) ρ m = evLoad c.ti t m (ρ x) := rfl
def evExtract (s : SV) (i : Nat) : R := match s with | .tup n f => ⟨i < n, .p (f i)⟩ | _ => no
theorem ev_extract (i : Nat) : ev c (.extract x i) ρ m = evExtract ((ρ x).sv m) i := rfl
theorem evExtract_tup (n : Nat) (f : Nat → SV) (i : Nat) : evExtract (.tup n f) i = ⟨i < n, .p (f i)⟩ := rfl
theorem ev_build (l : List (Nat × Operand)) : ev c (.build t ⟨l⟩) ρ m = evBuild c.ti t (l.map (fun p => (p.1, (ρ p.2).sv m))) := rfl
theorem ev_buildSlice (n : Nat) (l : List (Nat × Operand)) : ev c (.buildSlice t n ⟨l⟩) ρ m = evBuildSlice c.ti t n (l.map (fun p => (p.1, (ρ p.2).sv m))) := rfl
theorem ev_slice (lo hi : Option Operand) : ev c (.slice t x lo hi none) ρ m = evSlice (c.ti (c.ti t).elem).size (c.ti t).kind ((ρ x).sv m) (lo.map (fun o => (ρ o).sv m)) (hi.map (fun o => (ρ o).sv m)) := rfl
theorem ev_len : ev c (.call { callee := .builtin .len, args := ⟨[x]⟩, argTypes := ⟨[t]⟩ }) ρ m = evLen (c.ti t).kind m ((ρ x).norm m) := rfl
def evCall (c : Cfg) (f : SV) (l : List SV) : R := match f with
  | .v (.func (.func f) ⟨[]⟩ ⟨[]⟩) => ⟨(c.spec f l).pre, .p (c.spec f l).res⟩
  | _ => no
theorem ev_call (l : List Operand) (ts : Array TypeId) : ev c (.call { callee := .value x, args := ⟨l⟩, argTypes := ts }) ρ m = evCall c ((ρ x).sv m) (l.map (fun x => (ρ x).sv m)) := rfl
theorem evCall_func (f : FuncId) (l : List SV) : evCall c (.v (.func (.func f) #[] #[])) l = ⟨(c.spec f l).pre, .p (c.spec f l).res⟩ := rfl
theorem evG_pick : evG c (.pick x y z) T m = evPick (val T x) (val T y) (val T z) := rfl
theorem evG_move : evG c (.move x) T m = ⟨True, (val T x).strip⟩ := rfl
theorem evG_assign : evG c (.assign x) T m = ⟨True, (val T x).strip⟩ := rfl
theorem evG_bin (op : BinOp) (q : TypeId) : evG c (.binOp op t x y q) T m = evBinT c.ti t op ((val T x).strip.sv m) ((val T y).strip.sv m) := rfl
theorem evG_un (op : UnOp) : evG c (.unOp op t x) T m = evUn op ((val T x).strip.sv m) := rfl
theorem evG_idxA : evG c (.indexAddr t x y) T m = evIdx c.ti t m ((val T x).strip.norm m) ((val T y).strip.sv m) := rfl
theorem evG_idx : evG c (.index t x y) T m = evIndexV c.ti t ((val T x).strip.sv m) ((val T y).strip.sv m) := rfl
theorem evG_field (f : Nat) : evG c (.field t x f) T m = evFieldV c.ti t f ((val T x).strip.sv m) := rfl
theorem evG_fieldA (f : Nat) : evG c (.fieldAddr t x f) T m = evField c.ti t f ((val T x).strip) := rfl
theorem evG_load : evG c (.load t x) T m = evLoad c.ti t m ((val T x).strip) := rfl
theorem evG_extract (i : Nat) : evG c (.extract x i) T m = evExtract ((val T x).strip.sv m) i := rfl
theorem evG_build (l : List (Nat × Operand)) : evG c (.build t ⟨l⟩) T m = evBuild c.ti t (l.map (fun p => (p.1, (val T p.2).strip.sv m))) := rfl
theorem evG_buildSlice (n : Nat) (l : List (Nat × Operand)) : evG c (.buildSlice t n ⟨l⟩) T m = evBuildSlice c.ti t n (l.map (fun p => (p.1, (val T p.2).strip.sv m))) := rfl
theorem evG_slice (lo hi : Option Operand) : evG c (.slice t x lo hi none) T m = evSlice (c.ti (c.ti t).elem).size (c.ti t).kind ((val T x).strip.sv m) (lo.map (fun o => (val T o).strip.sv m)) (hi.map (fun o => (val T o).strip.sv m)) := rfl
theorem evG_len : evG c (.call { callee := .builtin .len, args := ⟨[x]⟩, argTypes := ⟨[t]⟩ }) T m = evLen (c.ti t).kind m ((val T x).strip.norm m) := rfl
theorem evG_call (l : List Operand) (ts : Array TypeId) : evG c (.call { callee := .value x, args := ⟨l⟩, argTypes := ts }) T m = evCall c ((val T x).strip.sv m) (l.map (fun x => (val T x).strip.sv m)) := rfl
theorem ev_min (ts) : ev c (.call { callee := .builtin .min, args := ⟨[x, y]⟩, argTypes := ts }) ρ m = evMin ((ρ x).sv m) ((ρ y).sv m) := rfl
theorem ev_max (ts) : ev c (.call { callee := .builtin .max, args := ⟨[x, y]⟩, argTypes := ts }) ρ m = evMax ((ρ x).sv m) ((ρ y).sv m) := rfl
theorem ev_conv (u : TypeId) : ev c (.convert t u x) ρ m = evConv c.ti t u ((ρ x).sv m) := rfl
theorem evG_min (ts) : evG c (.call { callee := .builtin .min, args := ⟨[x, y]⟩, argTypes := ts }) T m = evMin ((val T x).strip.sv m) ((val T y).strip.sv m) := rfl
theorem evG_max (ts) : evG c (.call { callee := .builtin .max, args := ⟨[x, y]⟩, argTypes := ts }) T m = evMax ((val T x).strip.sv m) ((val T y).strip.sv m) := rfl
theorem evG_conv (u : TypeId) : evG c (.convert t u x) T m = evConv c.ti t u ((val T x).strip.sv m) := rfl
theorem act_min (l ts) : act c (.call { callee := .builtin .min, args := l, argTypes := ts }) d T m = none := rfl
theorem act_max (l ts) : act c (.call { callee := .builtin .max, args := l, argTypes := ts }) d T m = none := rfl
theorem act_conv (u : TypeId) : act c (.convert t u x) d T m = none := rfl
theorem opl_min (l : List Operand) (ts) : opl (.call { callee := .builtin .min, args := ⟨l⟩, argTypes := ts }) = l := rfl
theorem opl_max (l : List Operand) (ts) : opl (.call { callee := .builtin .max, args := ⟨l⟩, argTypes := ts }) = l := rfl
theorem opl_conv (u : TypeId) : opl (.convert t u x) = [x] := rfl
theorem act_move : act c (.move x) d T m = none := rfl
theorem act_assign : act c (.assign x) d T m = none := rfl
theorem act_pick : act c (.pick x y z) d T m = none := rfl
theorem act_bin (op : BinOp) (q : TypeId) : act c (.binOp op t x y q) d T m = none := rfl
theorem act_un (op : UnOp) : act c (.unOp op t x) d T m = none := rfl
theorem act_idxA : act c (.indexAddr t x y) d T m = none := rfl
theorem act_idx : act c (.index t x y) d T m = none := rfl
theorem act_field (f : Nat) : act c (.field t x f) d T m = none := rfl
theorem act_fieldA (f : Nat) : act c (.fieldAddr t x f) d T m = none := rfl
theorem act_load : act c (.load t x) d T m = none := rfl
theorem act_extract (i : Nat) : act c (.extract x i) d T m = none := rfl
theorem act_build (l : Array (Nat × Operand)) : act c (.build t l) d T m = none := rfl
theorem act_buildSlice (n : Nat) (l : Array (Nat × Operand)) : act c (.buildSlice t n l) d T m = none := rfl
theorem act_slice (lo hi mx : Option Operand) : act c (.slice t x lo hi mx) d T m = none := rfl
theorem act_len : act c (.call { callee := .builtin .len, args := ⟨[x]⟩, argTypes := ⟨[t]⟩ }) d T m = none := rfl
theorem act_call (l ts) : act c (.call { callee := .value x, args := l, argTypes := ts }) d T m = none := rfl
theorem act_alloc' : act c (.alloc t) d T m = some ⟨(c.ti t).zero.good = true ∧ (c.ti t).zero.size = (c.ti t).size, allocK c t d T m⟩ := rfl
theorem act_box : act c (.box t x) d T m = some ⟨boxS c t m (val T x), boxK c t d T m (val T x)⟩ := rfl
theorem act_store : act c (.store t x y) d T m = some (storeA c t d T m (val T x) (val T y)) := rfl
theorem act_make : act c (.makeSlice t x y) d T m = some (if (c.ti t).kind ≠ 3 then noA else makeA c (c.ti t).elem d T m ((val T x).sv m) ((val T y).sv m)) := rfl
theorem act_append (u : TypeId) : act c (.call { callee := .builtin .append, args := ⟨[x, y]⟩, argTypes := ⟨[t, u]⟩ }) d T m = some (if t = u ∧ (c.ti t).kind = 3 then appendA c (c.ti t).elem d T m (val T x) ((val T y).sv m) else noA) := rfl
theorem opl_move : opl (.move x) = [x] := rfl
theorem opl_assign : opl (.assign x) = [x] := rfl
theorem opl_pick : opl (.pick x y z) = [] := rfl
theorem opl_bin (op : BinOp) (q : TypeId) : opl (.binOp op t x y q) = [x, y] := rfl
theorem opl_un (op : UnOp) : opl (.unOp op t x) = [x] := rfl
theorem opl_idxA : opl (.indexAddr t x y) = [x, y] := rfl
theorem opl_idx : opl (.index t x y) = [x, y] := rfl
theorem opl_field (f : Nat) : opl (.field t x f) = [x] := rfl
theorem opl_fieldA (f : Nat) : opl (.fieldAddr t x f) = [x] := rfl
theorem opl_load : opl (.load t x) = [x] := rfl
theorem opl_extract (i : Nat) : opl (.extract x i) = [x] := rfl
theorem opl_build (l : List (Nat × Operand)) : opl (.build t ⟨l⟩) = l.map (·.2) := rfl
theorem opl_buildSlice (n : Nat) (l : List (Nat × Operand)) : opl (.buildSlice t n ⟨l⟩) = l.map (·.2) := rfl
theorem opl_slice (lo hi mx : Option Operand) : opl (.slice t x lo hi mx) = x :: (lo.toList ++ hi.toList) := rfl
theorem opl_len (ts) : opl (.call { callee := .builtin .len, args := ⟨[x]⟩, argTypes := ts }) = [x] := rfl
theorem opl_call (l : List Operand) (ts) : opl (.call { callee := .value x, args := ⟨l⟩, argTypes := ts }) = x :: l := rfl
end

/-! ### Values -/
section
variable (kd : Nat) (k : IntKind) (a b : Int) (p q : Bool) (s s' : ByteArray)
theorem binT_v (ti : TypeId → TI) (t : TypeId) (op : BinOp) (a : Value) (y : SV) : evBinT ti t op (.v a) y = evBin (ti t).kind op (.v a) y := rfl
theorem binT_sl (ti : TypeId → TI) (t : TypeId) (op : BinOp) (ex : Bool) (n e : Nat) (f : Nat → SV) (y : SV) : evBinT ti t op (.sl ex n e f) y = evBin (ti t).kind op (.sl ex n e f) y := rfl
theorem binT_eql (ti : TypeId → TI) (t : TypeId) (n : Nat) (f : Nat → SV) (y : SV) : evBinT ti t .eql (.agg n f) y = ⟨(ti t).eqok = true ∧ y.isAg = true ∧ (eqE ti 5 t (.agg n f) y).side, .p (.v (.bool (eqE ti 5 t (.agg n f) y).b))⟩ := rfl
theorem binT_neq (ti : TypeId → TI) (t : TypeId) (n : Nat) (f : Nat → SV) (y : SV) : evBinT ti t .neq (.agg n f) y = ⟨(ti t).eqok = true ∧ y.isAg = true ∧ (eqE ti 5 t (.agg n f) y).side, .p (.v (.bool (!(eqE ti 5 t (.agg n f) y).b)))⟩ := rfl
theorem bin_add : evBin kd .add (.v (.int k a)) (.v (.int k b)) = yes (.v (.int k (k.wrap (a + b)))) := by simp [evBin, yes]
theorem bin_sub : evBin kd .sub (.v (.int k a)) (.v (.int k b)) = yes (.v (.int k (k.wrap (a - b)))) := by simp [evBin, yes]
theorem bin_mul : evBin kd .mul (.v (.int k a)) (.v (.int k b)) = yes (.v (.int k (k.wrap (a * b)))) := by simp [evBin, yes]
theorem bin_quo : evBin kd .quo (.v (.int k a)) (.v (.int k b)) = ⟨b ≠ 0, .p (.v (.int k (k.wrap (a.tdiv b))))⟩ := by simp [evBin]
theorem bin_rem : evBin kd .rem (.v (.int k a)) (.v (.int k b)) = ⟨b ≠ 0, .p (.v (.int k (a.tmod b)))⟩ := by simp [evBin]
theorem bin_eql : evBin kd .eql (.v (.int k a)) (.v (.int k b)) = yes (.v (.bool (a == b))) := by simp [evBin, yes]
theorem bin_neq : evBin kd .neq (.v (.int k a)) (.v (.int k b)) = yes (.v (.bool (a != b))) := by simp [evBin, yes]
theorem bin_lss : evBin kd .lss (.v (.int k a)) (.v (.int k b)) = yes (.v (.bool (decide (a < b)))) := by simp [evBin, yes]
theorem bin_leq : evBin kd .leq (.v (.int k a)) (.v (.int k b)) = yes (.v (.bool (decide (a ≤ b)))) := by simp [evBin, yes]
theorem bin_gtr : evBin kd .gtr (.v (.int k a)) (.v (.int k b)) = yes (.v (.bool (decide (b < a)))) := by simp [evBin, yes]
theorem bin_geq : evBin kd .geq (.v (.int k a)) (.v (.int k b)) = yes (.v (.bool (decide (b ≤ a)))) := by simp [evBin, yes]
theorem bin_shl (k' : IntKind) : evBin kd .shl (.v (.int k a)) (.v (.int k' b)) = ⟨0 ≤ b, .p (.v (.int k (k.wrap (a * 2 ^ (min b.toNat k.bits)))))⟩ := by simp [evBin]
theorem bin_shr (k' : IntKind) : evBin kd .shr (.v (.int k a)) (.v (.int k' b)) = ⟨0 ≤ b, .p (.v (.int k (a.fdiv (2 ^ (min b.toNat k.bits)))))⟩ := by simp [evBin]
theorem bin_and : evBin kd .and (.v (.int k a)) (.v (.int k b)) = yes (.v (.int k (k.wrap ((BitVec.ofInt k.bits a) &&& (BitVec.ofInt k.bits b)).toNat))) := by simp [evBin, yes]
theorem bin_or : evBin kd .or (.v (.int k a)) (.v (.int k b)) = yes (.v (.int k (k.wrap ((BitVec.ofInt k.bits a) ||| (BitVec.ofInt k.bits b)).toNat))) := by simp [evBin, yes]
theorem bin_xor : evBin kd .xor (.v (.int k a)) (.v (.int k b)) = yes (.v (.int k (k.wrap ((BitVec.ofInt k.bits a) ^^^ (BitVec.ofInt k.bits b)).toNat))) := by simp [evBin, yes]
theorem bin_beql : evBin kd .eql (.v (.bool p)) (.v (.bool q)) = ⟨kd = 4, .p (.v (.bool (p == q)))⟩ := by simp [evBin]
theorem bin_bneq : evBin kd .neq (.v (.bool p)) (.v (.bool q)) = ⟨kd = 4, .p (.v (.bool (p != q)))⟩ := by simp [evBin]
theorem bin_seql : evBin kd .eql (.v (.string s)) (.v (.string s')) = yes (.v (.bool (s.data.toList == s'.data.toList))) := by simp [evBin]
theorem bin_sneq : evBin kd .neq (.v (.string s)) (.v (.string s')) = yes (.v (.bool (!(s.data.toList == s'.data.toList)))) := by simp [evBin]
theorem bin_sadd : evBin kd .add (.v (.string s)) (.v (.string s')) = ⟨s.size + s'.size ≤ 1099511627776, .p (.v (.string (s ++ s')))⟩ := by simp [evBin]
theorem bin_slss : evBin kd .lss (.v (.string s)) (.v (.string s')) = yes (.v (.bool (Op.bytesLess s.data.toList s'.data.toList))) := by simp [evBin]
theorem bin_nil_eql : evBin kd .eql (.v (.slice none 0 0)) (.v (.slice none 0 0)) = ⟨kd = 3, .p (.v (.bool true))⟩ := by simp [evBin]
theorem bin_nil_neq : evBin kd .neq (.v (.slice none 0 0)) (.v (.slice none 0 0)) = ⟨kd = 3, .p (.v (.bool false))⟩ := by simp [evBin]
theorem bin_sl_eql (ex n e f) : evBin kd .eql (.sl ex n e f) (.v (.slice none 0 0)) = ⟨kd = 3 ∧ 0 < n, .p (.v (.bool false))⟩ := by simp [evBin]
theorem bin_sl_neq (ex n e f) : evBin kd .neq (.sl ex n e f) (.v (.slice none 0 0)) = ⟨kd = 3 ∧ 0 < n, .p (.v (.bool true))⟩ := by simp [evBin]
theorem min_int : evMin (.v (.int k a)) (.v (.int k b)) = yes (.v (.int k (if b < a then b else a))) := by simp [evMin, yes]
theorem max_int : evMax (.v (.int k a)) (.v (.int k b)) = yes (.v (.int k (if b > a then b else a))) := by simp [evMax, yes]
def convK (p : Prop) (kd : Nat) (n : Int) : Option IntKind → R
  | some k => ⟨p, .p (.v (.int k (k.wrap n)))⟩
  | none => ⟨p ∧ kd = 6, .p (.v (.float .f64 (FloatKind.f64.nearest n)))⟩
theorem conv_int (ti : TypeId → TI) (t u : TypeId) : evConv ti t u (.v (.int k a)) = convK ((ti t).kind ≠ 0) (ti u).kind a (ti u).ik := by
  unfold evConv convK; cases (ti u).ik <;> rfl
theorem convK_some (p : Prop) (kd : Nat) (n : Int) : convK p kd n (some k) = ⟨p, .p (.v (.int k (k.wrap n)))⟩ := rfl
theorem un_not : evUn .not (.v (.bool p)) = yes (.v (.bool !p)) := rfl
theorem un_neg : evUn .neg (.v (.int k a)) = yes (.v (.int k (k.wrap (0 - a)))) := rfl
def pickB (x y z : Slot) (p : Bool → Prop) : R := match x with
  | .p (.v (.bool k)) => ⟨p k, pickV k y z⟩
  | _ => no
theorem pick_def (x y z : Slot) : evPick x y z = pickB x.strip y.strip z.strip (fun k => x.okG true ∧ y.okG k ∧ z.okG (!k)) := rfl
theorem pickB_bool (x : Bool) (y z : Slot) (f : Bool → Prop) : pickB (.p (.v (.bool x))) y z f = ⟨f x, pickV x y z⟩ := rfl
theorem pickV_bool (x y z : Bool) : pickV x (.p (.v (.bool y))) (.p (.v (.bool z))) = .p (.v (.bool (bif x then y else z))) := rfl
theorem pickV_true (y z : Slot) : pickV true y z = y := by
  unfold pickV; split <;> rfl
theorem pickV_false (y z : Slot) : pickV false y z = z := by
  unfold pickV; split <;> rfl
theorem okG_false : ∀ s : Slot, s.okG false = True
  | .gd c s => by simp [Slot.okG, okG_false s]
  | .p _ => rfl
  | .bx _ _ => rfl
  | .ow _ => rfl
  | .rp _ _ _ => rfl

variable (ti : TypeId → TI) (t : TypeId) (m : Mem) (n e : Nat) (f : Nat → SV) (ex : Bool) (i j : Int) (off : Nat)
theorem idx_sl : evIdx ti t m (.p (.sl ex n e f)) (.v (.int k i)) = ⟨(ti t).kind = 3 ∧ ((ti (ti t).elem).size = e ∧ (ti (ti t).elem).size ≠ 0) ∧ 0 ≤ i ∧ i < n, .p (.rd (f i.toNat) 0)⟩ := rfl
theorem idx_str : evIndexV ti t (.v (.string s)) (.v (.int k i)) = ⟨(ti t).kind = 5 ∧ 0 ≤ i ∧ i < s.size, .p (.v (.int .u8 (s.data.toList.getD i.toNat 0).toNat))⟩ := rfl
theorem len_sl : evLen kd m (.p (.sl ex n e f)) = ⟨kd = 3, .p (.v (.int .i64 n))⟩ := rfl
theorem len_nil (x) (n c : Nat) : evLen kd m (.p (.v (.slice x n c))) = ⟨kd = 3, .p (.v (.int .i64 n))⟩ := rfl
theorem len_str : evLen kd m (.p (.v (.string s))) = ⟨kd = 5, .p (.v (.int .i64 s.size))⟩ := rfl
theorem load_rd (x : SV) : evLoad ti t m (.p (.rd x off)) = ⟨(ti t).kind ≠ 0 ∧ (x.at ti t off).side, (x.at ti t off).s⟩ := rfl
theorem field_rd (x : SV) (fi : Nat) : evField ti t fi (.p (.rd x off)) = ⟨(ti t).kind = 1 ∧ (ti t).nz = true ∧ fi < (ti t).offs.length, .p (.rd x (off + (ti t).offs.getD fi 0))⟩ := rfl
theorem field_bx (kb fi : Nat) : evField ti t fi (.bx kb off) = ⟨(ti t).kind = 1 ∧ (ti t).nz = true ∧ fi < (ti t).offs.length, .bx kb (off + (ti t).offs.getD fi 0)⟩ := rfl
theorem at_agg : SV.at ti t (.agg n f) off = if (ti t).isAgg then ⟨off + (ti t).size ≤ n, .p (.agg (ti t).size (tabF (ti t).size (fun i => f (off + i))))⟩ else ⟨off < n, .p (f off)⟩ := rfl
theorem at_int : SV.at ti t (.v (.int k a)) off = ⟨(ti t).isAgg = false ∧ off = 0 ∧ True, .p (.v (.int k a))⟩ := by simp [SV.at, Value.oneCell']
theorem at_sl : SV.at ti t (.sl ex n e f) off = ⟨(ti t).isAgg = false ∧ off = 0, .p (.sl ex n e f)⟩ := rfl
theorem slice_lo : evSlice e kd (.sl ex n off f) (some (.v (.int k i))) none = ⟨(kd = 3 ∧ e = off ∧ e ≠ 0) ∧ 0 ≤ i ∧ i ≤ n, .p (.sl ex (n - i.toNat) off (fun j => f (i.toNat + j)))⟩ := rfl
end

/-! ### Own memory -/
section
variable (c : Cfg) (T : Nat → Slot) (m : Mem) (d : Option Tmp) (t : TypeId) (k off : Nat) (x : Slot)
theorem allocK_def : allocK c t d T m = ⟨putT T d (.bx m.boxes.length 0), { m with boxes := m.boxes ++ [⟨(c.ti t).size, fun i => .p ((c.ti t).zero.cell i)⟩] }⟩ := rfl
theorem boxK_def : boxK c t d T m x = ⟨putT T d (.bx m.boxes.length 0), { m with boxes := m.boxes ++ [⟨(c.ti t).size, boxF c t m x⟩] }⟩ := rfl
theorem boxF_def : boxF c t m x = if (c.ti t).isAgg then fun i => .p ((x.sv m).cell i) else fun _ => x := rfl
theorem boxS_def : boxS c t m x = if (c.ti t).isAgg then (x.sv m).size = (c.ti t).size ∧ (x.sv m).isAg = true else (c.ti t).size = 1 ∧ x.one = true := rfl
def storeBxA (c : Cfg) (t : TypeId) (d : Option Tmp) (T : Nat → Slot) (m : Mem) (k off : Nat) (x : Slot) : Option Box → A
  | some b => ⟨boxS c t m x ∧ off + (c.ti t).size ≤ b.n ∧ (c.ti t).size ≠ 0, ⟨putT T d (.p .dead), { m with boxes := setAt m.boxes k (b.put c t off m x) }⟩⟩
  | none => noA
theorem store_bx : storeA c t d T m (.bx k off) x = storeBxA c t d T m k off x m.boxes[k]? := by
  unfold storeA storeBxA; dsimp only; cases m.boxes[k]? <;> rfl
theorem storeBxA_some (b : Box) : storeBxA c t d T m k off x (some b) = ⟨boxS c t m x ∧ off + (c.ti t).size ≤ b.n ∧ (c.ti t).size ≠ 0, ⟨putT T d (.p .dead), { m with boxes := setAt m.boxes k (b.put c t off m x) }⟩⟩ := rfl
theorem put_def (n : Nat) (f : Nat → Slot) : Box.put ⟨n, f⟩ c t off m x = ⟨n, if (c.ti t).isAgg then fun i => if off ≤ i ∧ i < off + (c.ti t).size then .p ((x.sv m).cell (i - off)) else f i else upd f off x⟩ := rfl
theorem setAt_zero {α : Type} (y z : α) (r : List α) : setAt (y :: r) 0 z = z :: r := rfl
theorem setAt_succ {α : Type} (y z : α) (r : List α) (k : Nat) : setAt (y :: r) (k + 1) z = y :: setAt r k z := rfl
def loadBx (ti : TypeId → TI) (t : TypeId) (m : Mem) (off : Nat) : Option Box → R
  | some b => if (ti t).isAgg then ⟨off + (ti t).size ≤ b.n, .p (.agg (ti t).size (tabF (ti t).size (fun i => (b.f (off + i)).sv m)))⟩ else ⟨(ti t).kind ≠ 0 ∧ off < b.n, b.f off⟩
  | none => no
theorem load_bx (ti : TypeId → TI) : evLoad ti t m (.bx k off) = loadBx ti t m off m.boxes[k]? := by
  unfold evLoad loadBx; dsimp only; cases m.boxes[k]? <;> rfl
theorem loadBx_some (ti : TypeId → TI) (n : Nat) (f : Nat → Slot) : loadBx ti t m off (some ⟨n, f⟩) = if (ti t).isAgg then ⟨off + (ti t).size ≤ n, .p (.agg (ti t).size (tabF (ti t).size (fun i => (f (off + i)).sv m)))⟩ else ⟨(ti t).kind ≠ 0 ∧ off < n, f off⟩ := rfl
theorem cell_agg (n : Nat) (f : Nat → SV) (i : Nat) : SV.cell (.agg n f) i = f i := rfl
theorem cell_v (v : Value) (i : Nat) : SV.cell (.v v) i = .v v := rfl
theorem cell_sl (ex n e f) (i : Nat) : SV.cell (.sl ex n e f) i = .sl ex n e f := rfl
theorem good_agg (n : Nat) (f : Nat → SV) : (SV.agg n f).good = true := rfl
theorem good_int (k : IntKind) (n : Int) : (SV.v (.int k n)).good = true := rfl
theorem good_bool (b : Bool) : (SV.v (.bool b)).good = true := rfl
theorem good_str (b : ByteArray) : (SV.v (.string b)).good = true := rfl
theorem good_nil (a : Option Addr) (n c : Nat) : (SV.v (.slice a n c)).good = true := rfl
theorem good_sl (ex n e f) : (SV.sl ex n e f).good = true := rfl
theorem size_agg (n : Nat) (f : Nat → SV) : (SV.agg n f).size = n := rfl
theorem size_v (v : Value) : (SV.v v).size = 1 := rfl
theorem size_sl (ex n e f) : (SV.sl ex n e f).size = 1 := rfl
theorem isAg_agg (n : Nat) (f : Nat → SV) : (SV.agg n f).isAg = true := rfl
theorem sone_p (x : SV) : (Slot.p x).one = x.one := rfl
theorem sone_ow (k : Nat) : (Slot.ow k).one = true := rfl
theorem sone_bx (k o : Nat) : (Slot.bx k o).one = true := rfl
theorem one_int (k : IntKind) (n : Int) : (SV.v (.int k n)).one = true := rfl
theorem one_bool (b : Bool) : (SV.v (.bool b)).one = true := rfl
theorem one_str (b : ByteArray) : (SV.v (.string b)).one = true := rfl
theorem one_nil (a : Option Addr) (n c : Nat) : (SV.v (.slice a n c)).one = true := rfl
theorem one_sl (ex n e f) : (SV.sl ex n e f).one = true := rfl
theorem tabF_def (n : Nat) (f : Nat → SV) : tabF n f = list (upTo f n) := rfl
theorem evBuild_def (ti : TypeId → TI) (l : List (Nat × SV)) : evBuild ti t l = if (ti t).kind = 1 then ⟨((ti t).zero.good = true ∧ (ti t).zero.size = (ti t).size) ∧ (ti t).nz = true ∧ (∀ p ∈ l, p.1 < (ti t).offs.length) ∧ bldS (fun i => (ti t).offs.getD i 0) (fun i => (ti ((ti t).fty.getD i 0)).size) (ti t).size l, .p (.agg (ti t).size (tabF (ti t).size (bldF (fun i => (ti t).offs.getD i 0) l (ti t).zero.cell)))⟩
  else ⟨(ti t).kind = 2 ∧ ((ti t).zero.good = true ∧ (ti t).zero.size = (ti t).size) ∧ (ti (ti t).elem).size ≠ 0 ∧ bldS (fun i => i * (ti (ti t).elem).size) (fun _ => (ti (ti t).elem).size) (ti t).size l, .p (.agg (ti t).size (tabF (ti t).size (bldF (fun i => i * (ti (ti t).elem).size) l (ti t).zero.cell)))⟩ := rfl
theorem bldF_nil (o : Nat → Nat) (f : Nat → SV) : bldF o [] f = f := rfl
theorem bldF_cons (o : Nat → Nat) (i : Nat) (x : SV) (r : List (Nat × SV)) (f : Nat → SV) : bldF o ((i, x) :: r) f = bldF o r (if x.size = 1 then upd f (o i) (x.cell 0) else ovl f (o i) x.size x) := rfl
theorem bldS_nil (o z : Nat → Nat) (tot : Nat) : bldS o z tot [] = True := rfl
theorem bldS_cons (o z : Nat → Nat) (tot : Nat) (i : Nat) (x : SV) (r : List (Nat × SV)) : bldS o z tot ((i, x) :: r) = (x.size = z i ∧ x.good = true ∧ o i + z i ≤ tot ∧ bldS o z tot r) := rfl
theorem bldT_nil (n e : Nat) : bldT n e [] = True := rfl
theorem bldT_cons (n e : Nat) (i : Nat) (x : SV) (r : List (Nat × SV)) : bldT n e ((i, x) :: r) = (i < n ∧ x.size = e ∧ x.good = true ∧ bldT n e r) := rfl
theorem bldE_nil (f : Nat → SV) : bldE [] f = f := rfl
theorem bldE_cons (i : Nat) (x : SV) (r : List (Nat × SV)) (f : Nat → SV) : bldE ((i, x) :: r) f = bldE r (upd f i x) := rfl
theorem ovl_at (f : Nat → SV) (o n j : Nat) (x : SV) : ovl f o n x j = if o ≤ j ∧ j < o + n then x.cell (j - o) else f j := rfl
theorem evBuildSlice_def (ti : TypeId → TI) (n : Nat) (l : List (Nat × SV)) : evBuildSlice ti t n l = ⟨(ti t).kind = 3 ∧ (ti (ti t).elem).size ≠ 0 ∧ n * (ti (ti t).elem).size ≤ 16777216 ∧ ((ti (ti t).elem).zero.good = true ∧ (ti (ti t).elem).zero.size = (ti (ti t).elem).size) ∧ bldT n (ti (ti t).elem).size l,
    .p (.sl true n (ti (ti t).elem).size (tabF n (bldE l (fun _ => (ti (ti t).elem).zero))))⟩ := rfl
variable (n2 k2 n : Nat) (e2 e : Nat → SV) (ex ex' : Bool)
theorem append_nil : appendA c t d T m (.p (.v (.slice none 0 0))) (.sl ex n2 k2 e2) = ⟨0 < n2 ∧ k2 = (c.ti t).size ∧ okTy c t ∧ roomy n2 (c.ti t).bytes,
        ⟨putT T d (.ow m.rows.length), { m with rows := m.rows ++ [⟨t, .sl false n2 k2 e2, c.pubNew, true⟩] }⟩⟩ := rfl
theorem append_ex : appendA c t d T m (.p (.sl true n k e)) (.sl ex n2 k2 e2) = if n2 = 1 then ⟨k = (c.ti t).size ∧ k2 = (c.ti t).size ∧ okTy c t ∧ roomy (n + n2) (c.ti t).bytes,
        ⟨putT T d (.ow m.rows.length), { m with rows := m.rows ++ [⟨t, SV.snoc k (.sl true n k e) (.sl true n2 k2 e2), c.pubNew, true⟩] }⟩⟩
        else ⟨k = (c.ti t).size ∧ k2 = (c.ti t).size ∧ okTy c t ∧ roomy (n + n2) (c.ti t).bytes, ⟨putT T d (.p (SV.snoc k (.sl true n k e) (.sl true n2 k2 e2))), m⟩⟩ := rfl
def appendRow (c : Cfg) (t : TypeId) (d : Option Tmp) (T : Nat → Slot) (m : Mem) (k n2 k2 : Nat) (e2 : Nat → SV) : Option Row → A
  | some r => ⟨r.live = true ∧ r.ty = t ∧ k2 = (c.ti t).size ∧ okTy c t ∧ roomy (r.s.len + n2) (c.ti t).bytes,
        ⟨putT T d (.ow m.rows.length), { m with rows := setAt m.rows k { r with live := false } ++ [⟨t, SV.snoc k2 r.s (.sl true n2 k2 e2), r.pub, true⟩] }⟩⟩
  | none => noA
theorem append_ow : appendA c t d T m (.ow k) (.sl ex n2 k2 e2) = appendRow c t d T m k n2 k2 e2 m.rows[k]? := by
  unfold appendA appendRow; dsimp only; cases m.rows[k]? <;> rfl
theorem appendRow_some (ty : TypeId) (s : SV) (p l : Bool) : appendRow c t d T m k n2 k2 e2 (some ⟨ty, s, p, l⟩) = ⟨l = true ∧ ty = t ∧ k2 = (c.ti t).size ∧ okTy c t ∧ roomy (s.len + n2) (c.ti t).bytes,
        ⟨putT T d (.ow m.rows.length), { m with rows := setAt m.rows k ⟨ty, s, p, false⟩ ++ [⟨t, SV.snoc k2 s (.sl true n2 k2 e2), p, true⟩] }⟩⟩ := rfl
theorem okTy_def : okTy c t = ((c.ti t).size ≠ 0 ∧ (c.ti t).zero.good = true ∧ (c.ti t).zero.size = (c.ti t).size) := rfl
theorem roomy_def (n b : Nat) : roomy n b = (n ≤ 1099511627776 ∧ n * b ≤ 140737488355328) := rfl
def normRow (k : Nat) : Option Row → Slot
  | some r => if r.pub then .p r.s.ro else .ow k
  | none => .ow k
theorem norm_ow : (Slot.ow k).norm m = normRow k m.rows[k]? := by
  unfold Slot.norm normRow; dsimp only; cases m.rows[k]? <;> rfl
theorem normRow_pub (ty : TypeId) (s : SV) (l : Bool) : normRow k (some ⟨ty, s, true, l⟩) = .p s.ro := rfl
theorem normRow_own (ty : TypeId) (s : SV) (l : Bool) : normRow k (some ⟨ty, s, false, l⟩) = .ow k := rfl
def svRow : Option Row → SV
  | some r => if r.pub then r.s.ro else .dead
  | none => .dead
theorem sv_ow : (Slot.ow k).sv m = svRow m.rows[k]? := by
  unfold Slot.sv svRow; dsimp only; cases m.rows[k]? <;> rfl
theorem svRow_pub (ty : TypeId) (s : SV) (l : Bool) : svRow (some ⟨ty, s, true, l⟩) = s.ro := rfl
theorem ro_sl : (SV.sl ex n k e).ro = .sl false n k e := rfl
theorem ro_snoc (s x : SV) : (SV.snoc k s x).ro = SV.snoc k s x := rfl
theorem len_snoc (s x : SV) : (SV.snoc k s x).len = s.len + x.len := rfl
theorem isSl_snoc (s x : SV) : (SV.snoc k s x).isSl = true := rfl
theorem isSl_sl : (SV.sl ex n k e).isSl = true := rfl
theorem slen_sl : (SV.sl ex n k e).len = n := rfl
theorem len_ow_snoc (kd : Nat) (s x : SV) : evLen kd m (.p (SV.snoc k s x)) = ⟨kd = 3, .p (.v (.int .i64 ((s.len + x.len : Nat) : Int)))⟩ := rfl
end
end Go.Am
