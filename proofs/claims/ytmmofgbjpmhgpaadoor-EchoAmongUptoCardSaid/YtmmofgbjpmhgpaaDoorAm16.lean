/- What an operation asks can be decided: for closed runs. -/
import Derived.Test.YtmmofgbjpmhgpaaDoorAm15
set_option linter.all false
set_option linter.unusedVariables false
set_option linter.unusedSimpArgs false
set_option linter.unnecessarySimpa false
namespace Go.Am
open Go

instance decBin (kd : Nat) (op : BinOp) (x y : SV) : Decidable (evBin kd op x y).side := by
  unfold evBin
  split
  all_goals (cases op)
  all_goals (dsimp only [no, yes])
  all_goals (first | infer_instance | skip)
  all_goals split
  all_goals (first | infer_instance | skip)
  all_goals split
  all_goals infer_instance
instance decAt (ti : TypeId → TI) (t : TypeId) (e : SV) (off : Nat) : Decidable (e.at ti t off).side := by
  unfold SV.at
  split
  · split
    all_goals (dsimp only; infer_instance)
  all_goals (dsimp only [no]; infer_instance)
def decFs (eq1 : TypeId → SV → SV → E) (h : ∀ t x y, Decidable (eq1 t x y).side) (ti : TypeId → TI) (x y : SV) : ∀ l, Decidable (eqFs eq1 ti x y l).side
  | [] => isTrue trivial
  | (o, t) :: r => by
    have := decFs eq1 h ti x y r
    have := h t (x.at ti t o).s.pv (y.at ti t o).s.pv
    unfold eqFs
    infer_instance
def decAs (eq1 : SV → SV → E) (h : ∀ x y, Decidable (eq1 x y).side) (ti : TypeId → TI) (el sz : Nat) (x y : SV) : ∀ n i, Decidable (eqAs eq1 ti el sz x y n i).side
  | 0, _ => isTrue trivial
  | n + 1, i => by
    have := decAs eq1 h ti el sz x y n (i + 1)
    have := h (x.at ti el (i * sz)).s.pv (y.at ti el (i * sz)).s.pv
    unfold eqAs
    infer_instance
def decEqE (ti : TypeId → TI) : ∀ d t x y, Decidable (eqE ti d t x y).side
  | 0, _, _, _ => isFalse (fun h => h)
  | d + 1, t, x, y => by
    have h1 := decFs (eqE ti d) (decEqE ti d) ti
    have h2 := decAs (eqE ti d (ti t).elem) (decEqE ti d (ti t).elem) ti
    unfold eqE
    split
    all_goals (first | infer_instance | skip)
    split
    · have := h1; infer_instance
    · split
      · have := h2; infer_instance
      · infer_instance
instance (ti : TypeId → TI) (d : Nat) (t : TypeId) (x y : SV) : Decidable (eqE ti d t x y).side := decEqE ti d t x y
instance decBinT (ti : TypeId → TI) (t : TypeId) (op : BinOp) (x y : SV) : Decidable (evBinT ti t op x y).side := by
  unfold evBinT
  split
  · split
    all_goals (dsimp only [no]; infer_instance)
  · infer_instance
instance decUn (op : UnOp) (x : SV) : Decidable (evUn op x).side := by
  unfold evUn; split
  all_goals (dsimp only [no, yes]; infer_instance)
instance decIdx (ti : TypeId → TI) (t : TypeId) (m : Mem) (x : Slot) (i : SV) : Decidable (evIdx ti t m x i).side := by
  unfold evIdx; split
  · split
    all_goals first | (dsimp only [no]; infer_instance) | split
    all_goals (dsimp only [no]; infer_instance)
  · dsimp only [no]; infer_instance
instance decLen (kd : Nat) (m : Mem) (x : Slot) : Decidable (evLen kd m x).side := by
  unfold evLen; split
  all_goals first | (dsimp only [no]; infer_instance) | split
  all_goals (dsimp only [no]; infer_instance)
def decOkG (g : Bool) : ∀ s : Slot, Decidable (s.okG g)
  | .gd c s => by
    have := decOkG g s
    unfold Slot.okG
    infer_instance
  | .p _ => isTrue trivial
  | .bx _ _ => isTrue trivial
  | .ow _ => isTrue trivial
  | .rp _ _ _ => isTrue trivial
instance (g : Bool) (s : Slot) : Decidable (s.okG g) := decOkG g s
instance decPick (c a b : Slot) : Decidable (evPick c a b).side := by
  unfold evPick; split
  all_goals (dsimp only [no]; infer_instance)
instance decLoad (ti : TypeId → TI) (t : TypeId) (m : Mem) (x : Slot) : Decidable (evLoad ti t m x).side := by
  unfold evLoad; split
  · dsimp only; infer_instance
  · split
    · split
      all_goals (dsimp only; infer_instance)
    · dsimp only [no]; infer_instance
  · split
    all_goals (dsimp only [no]; infer_instance)
  · dsimp only [no]; infer_instance
instance decField (ti : TypeId → TI) (t : TypeId) (f : Nat) (x : Slot) : Decidable (evField ti t f x).side := by
  unfold evField; split
  all_goals (dsimp only [no]; infer_instance)
instance decFieldV (ti : TypeId → TI) (t : TypeId) (f : Nat) (x : SV) : Decidable (evFieldV ti t f x).side := by
  unfold evFieldV; dsimp only; infer_instance
instance decIndexV (ti : TypeId → TI) (t : TypeId) (x i : SV) : Decidable (evIndexV ti t x i).side := by
  unfold evIndexV; split
  · split
    all_goals (dsimp only [no]; infer_instance)
  · dsimp only [no]; infer_instance
instance decSlice (esz kd : Nat) (x : SV) (lo hi : Option SV) : Decidable (evSlice esz kd x lo hi).side := by
  unfold evSlice; split
  all_goals (dsimp only [no]; infer_instance)
def decBldS (off sz : Nat → Nat) (tot : Nat) : ∀ l, Decidable (bldS off sz tot l)
  | [] => isTrue trivial
  | (i, x) :: r => by
    have := decBldS off sz tot r
    unfold bldS
    infer_instance
instance (off sz : Nat → Nat) (tot : Nat) (l : List (Nat × SV)) : Decidable (bldS off sz tot l) := decBldS off sz tot l
def decBldT (n esz : Nat) : ∀ l, Decidable (bldT n esz l)
  | [] => isTrue trivial
  | (i, x) :: r => by
    have := decBldT n esz r
    unfold bldT
    infer_instance
instance (n esz : Nat) (l : List (Nat × SV)) : Decidable (bldT n esz l) := decBldT n esz l
instance decBuild (ti : TypeId → TI) (t : TypeId) (l : List (Nat × SV)) : Decidable (evBuild ti t l).side := by
  unfold evBuild; split
  all_goals (dsimp only; infer_instance)
instance decBuildSlice (ti : TypeId → TI) (t n : Nat) (l : List (Nat × SV)) : Decidable (evBuildSlice ti t n l).side := by
  unfold evBuildSlice; dsimp only; infer_instance
instance decMin (x y : SV) : Decidable (evMin x y).side := by
  unfold evMin; split
  all_goals (dsimp only [no]; infer_instance)
instance decMax (x y : SV) : Decidable (evMax x y).side := by
  unfold evMax; split
  all_goals (dsimp only [no]; infer_instance)
instance decConv (ti : TypeId → TI) (a b : TypeId) (x : SV) : Decidable (evConv ti a b x).side := by
  unfold evConv; split
  · split
    all_goals (dsimp only; infer_instance)
  · split
    all_goals (dsimp only [no]; infer_instance)
  · dsimp only [no]; infer_instance
instance decCplx (x y : SV) : Decidable (evCplx x y).side := by
  unfold evCplx; split
  all_goals (dsimp only [no, yes]; infer_instance)
instance decPart (b : Bool) (x : SV) : Decidable (evPart b x).side := by
  unfold evPart; split
  all_goals (dsimp only [no, yes]; infer_instance)
instance decNil (x : Slot) : Decidable (evNil x).side := by
  unfold evNil; split
  all_goals (dsimp only [no, yes]; infer_instance)
instance decEv (c : Cfg) [h : ∀ f l, Decidable (c.spec f l).pre] (op : Op) (ρ : Operand → Slot) (m : Mem) : Decidable (ev c op ρ m).side := by
  unfold ev; split
  all_goals first | infer_instance | (dsimp only [no]; infer_instance) | skip
  all_goals split
  all_goals first | (dsimp only [no]; infer_instance) | skip
  all_goals exact h _ _
instance decEvG (c : Cfg) [h : ∀ f l, Decidable (c.spec f l).pre] (op : Op) (T : Nat → Slot) (m : Mem) : Decidable (evG c op T m).side := decEv c op _ m
instance decBoxS (c : Cfg) (t : TypeId) (m : Mem) (x : Slot) : Decidable (boxS c t m x) := by
  unfold boxS; split
  all_goals infer_instance
instance decStore (c : Cfg) (t : TypeId) (d : Option Tmp) (T : Nat → Slot) (m : Mem) (a x : Slot) : Decidable (storeA c t d T m a x).side := by
  unfold storeA; split
  · split
    all_goals (dsimp only [noA]; infer_instance)
  · split
    · split
      all_goals (dsimp only; infer_instance)
    · dsimp only [noA]; infer_instance
  · dsimp only [noA]; infer_instance
instance (n b : Nat) : Decidable (roomy n b) := by unfold roomy; infer_instance
instance (c : Cfg) (t : TypeId) : Decidable (okTy c t) := by unfold okTy; infer_instance
instance decAppend (c : Cfg) (ty : TypeId) (d : Option Tmp) (T : Nat → Slot) (m : Mem) (s : Slot) (x : SV) : Decidable (appendA c ty d T m s x).side := by
  unfold appendA; split
  · split
    · dsimp only; infer_instance
    · split
      all_goals (dsimp only; infer_instance)
    · split
      all_goals (dsimp only [noA]; infer_instance)
    · dsimp only [noA]; infer_instance
  · dsimp only [noA]; infer_instance
instance decMake (c : Cfg) (ty : TypeId) (d : Option Tmp) (T : Nat → Slot) (m : Mem) (l k : SV) : Decidable (makeA c ty d T m l k).side := by
  unfold makeA; split
  all_goals (dsimp only [noA]; infer_instance)
def sideO : Option A → Prop
  | some a => a.side
  | none => True
instance decAct (c : Cfg) (op : Op) (d : Option Tmp) (T : Nat → Slot) (m : Mem) : Decidable (sideO (act c op d T m)) := by
  unfold act; split
  all_goals (dsimp only [sideO])
  all_goals first | infer_instance | skip
  all_goals split
  all_goals first | infer_instance | (dsimp only [noA]; infer_instance)
def decOkAll (g : Bool) (T : Nat → Slot) : ∀ l, Decidable (okAll g T l)
  | [] => isTrue trivial
  | x :: r => by
    have := decOkAll g T r
    unfold okAll
    infer_instance
instance (g : Bool) (T : Nat → Slot) (l : List Operand) : Decidable (okAll g T l) := decOkAll g T l
end Go.Am
