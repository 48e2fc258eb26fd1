/- Contracts over typed values, and what is handed to loops and callers. -/
import Derived.Test.YtmmofgbjpmhgpaaDoorAm14
set_option linter.all false
set_option linter.unusedVariables false
set_option linter.unusedSimpArgs false
set_option linter.unnecessarySimpa false
namespace Go.Am
open Go Go.RowKit

/-- A slice of values. -/
def encL {α : Type} [Inhabited α] (enc : α → SV) (k : Nat) (l : List α) : SV := .sl false l.length k (fun i => enc (l.getD i default))

section
variable {α : Type} [Inhabited α] (enc : α → SV) (k : Nat) (l : List α) (x : α) (m : Mem)

theorem encL_inj {l l' : List α} (he : ∀ a b, enc a = enc b → a = b) (h : encL enc k l = encL enc k l') : l = l' := by
  unfold encL at h
  injection h with _ h1 _ h2
  refine List.ext_getElem h1 fun i hi hi' => ?_
  have := he _ _ (congrFun h2 i)
  simpa [hi, hi'] using this
theorem len_encL (kd : Nat) : evLen kd m (.p (encL enc k l)) = ⟨kd = 3, .p (.v (.int .i64 l.length))⟩ := rfl
theorem idx_encL (ti : TypeId → TI) (t : TypeId) (q : IntKind) (i : Int) : evIdx ti t m (.p (encL enc k l)) (.v (.int q i)) = ⟨(ti t).kind = 3 ∧ ((ti (ti t).elem).size = k ∧ (ti (ti t).elem).size ≠ 0) ∧ 0 ≤ i ∧ i < l.length, .p (.rd (enc (l.getD i.toNat default)) 0)⟩ := rfl
theorem ro_encL : (encL enc k l).ro = encL enc k l := rfl
theorem slen_encL : (encL enc k l).len = l.length := rfl
theorem isSl_encL : (encL enc k l).isSl = true := rfl
theorem sidx_encL (i : Nat) : (encL enc k l).idx i = enc (l.getD i default) := rfl
theorem drop_encL (kd e : Nat) (q : IntKind) (i : Int) : evSlice e kd (encL enc k l) (some (.v (.int q i))) none = ⟨(kd = 3 ∧ e = k ∧ e ≠ 0) ∧ 0 ≤ i ∧ i ≤ l.length, .p (encL enc k (l.drop i.toNat))⟩ := by
  simp only [encL, evSlice, List.length_drop]
  congr 3
  funext j
  simp [List.getD_eq_getElem?_getD, List.getElem?_drop]
end

/-! ### More -/
theorem allLt_of' {n : Nat} {p : Nat → Prop} (h : ∀ i, i < n → p i) : allLt n p := by
  induction n with
  | zero => trivial
  | succ n ih => exact ⟨ih fun i hi => h i (by omega), h n (by omega)⟩
theorem SV.le_refl (x : SV) : SV.le x x := by
  induction x with
  | dead => trivial
  | v a => cases a <;> rfl
  | agg n f ih => exact ⟨rfl, allLt_of' fun i _ => ih i⟩
  | tup n f ih => exact ⟨rfl, allLt_of' fun i _ => ih i⟩
  | sl ex n k e ih => cases ex <;> exact ⟨fun h => h, rfl, rfl, fun i _ => ih i⟩
  | rd e off ih => exact ⟨rfl, ih⟩
theorem le_refl' (x : SV) : SV.le x x = True := eq_true (SV.le_refl x)
theorem le_dead (x : SV) : SV.le x .dead = True := by cases x <;> simp [SV.le]
theorem le_v (a b : Value) : SV.le (.v a) (.v b) = (a = b) := by cases a <;> rfl
theorem le_agg (n n' : Nat) (f f' : Nat → SV) : SV.le (.agg n f) (.agg n' f') = (n = n' ∧ allLt n (fun i => SV.le (f i) (f' i))) := rfl
theorem le_tup (n n' : Nat) (f f' : Nat → SV) : SV.le (.tup n f) (.tup n' f') = (n = n' ∧ allLt n (fun i => SV.le (f i) (f' i))) := rfl
theorem le_sl (ex : Bool) (n n' k k' : Nat) (e e' : Nat → SV) : SV.le (.sl ex n k e) (.sl false n' k' e') = (n = n' ∧ k = k' ∧ ∀ i, i < n → SV.le (e i) (e' i)) := by
  simp [SV.le]
theorem le_nil (n k : Nat) (e : Nat → SV) : SV.le (.v (.slice none 0 0)) (.sl false n k e) = (n = 0) := rfl
theorem allLt_zero (p : Nat → Prop) : allLt 0 p = True := rfl
theorem allLt_succ (n : Nat) (p : Nat → Prop) : allLt (n + 1) p = (allLt n p ∧ p n) := rfl
section
variable {α : Type} [Inhabited α] (enc : α → SV) (k : Nat) (l l' : List α) (x : α)
theorem le_nil_encL : SV.le (.v (.slice none 0 0)) (encL enc k l) = (l = []) := by
  simp only [encL, SV.le, List.length_eq_zero_iff]
theorem le_encL_eq (h : l = l') : SV.le (encL enc k l) (encL enc k l') := by subst h; exact SV.le_refl _
theorem le_snoc (ex : Bool) (e : Nat → SV) : SV.le (SV.snoc k (encL enc k l) (.sl ex 1 k e)) (encL enc k (l ++ [x])) = SV.le (e 0) (enc x) := by
  apply propext
  simp only [SV.snoc, encL, SV.len, SV.idx, le_sl, List.length_append, List.length_singleton, true_and]
  constructor
  · intro h
    have := h l.length (by omega)
    simpa using this
  · intro h i hi
    by_cases e1 : i < l.length
    · simp only [e1, if_true]
      rw [show (l ++ [x]).getD i default = l.getD i default by simp [List.getD_eq_getElem?_getD, List.getElem?_append_left e1]]
      exact SV.le_refl _
    · obtain rfl : i = l.length := by omega
      simpa using h
theorem le_one (ex : Bool) (e : Nat → SV) : SV.le (.sl ex 1 k e) (encL enc k [x]) = SV.le (e 0) (enc x) := by
  apply propext
  simp only [encL, le_sl, List.length_singleton, true_and]
  constructor
  · intro h; exact h 0 (by omega)
  · intro h i hi
    obtain rfl : i = 0 := by omega
    exact h
end

/-! ### Contracts -/
open Classical in
/-- A contract that is told of typed values. -/
noncomputable def mkS {α : Type} (args : α → List SV) (I : α → Prop) (res : α → SV) : List SV → Spec :=
  fun l => ⟨∃ p, l = args p ∧ I p, if h : ∃ p, l = args p then res (Classical.choose h) else .dead⟩

theorem mkS_eq {α : Type} {args : α → List SV} {I : α → Prop} {res : α → SV} (hinj : ∀ p q, args p = args q → p = q) (p : α) : mkS args I res (args p) = ⟨I p, res p⟩ := by
  unfold mkS
  have h : ∃ q, args p = args q := ⟨p, rfl⟩
  have e := hinj _ _ (Classical.choose_spec h)
  congr 1
  · apply propext
    constructor
    · rintro ⟨q, h1, h2⟩
      rw [hinj _ _ h1]; exact h2
    · exact fun h => ⟨p, rfl, h⟩
  · rw [dif_pos h, ← e]

/-- The machine for a function of these callees. -/
def cfg (P : Program) (cs : List (FuncId × (List SV → Spec))) : Cfg := ⟨TI.of P, lookS cs, true, true, fun _ => false, fun _ => none⟩
theorem cfg_ti (P cs) : (cfg P cs).ti = TI.of P := rfl
theorem cfg_spec (P cs) : (cfg P cs).spec = lookS cs := rfl
theorem cfg_new (P cs) : (cfg P cs).pubNew = true := rfl
theorem cfg_make (P cs) : (cfg P cs).pubMake = true := rfl
theorem cfg_frz (P cs) (i : Nat) : (cfg P cs).frz i = false := rfl
theorem cfg_un (P cs) (i : Nat) : (cfg P cs).un i = none := rfl
theorem look_cons (g f : FuncId) (s : List SV → Spec) (r : List (FuncId × (List SV → Spec))) : lookS ((g, s) :: r) f = if f = g then s else lookS r f := rfl

theorem impl_mk {P : Program} {G : World → Prop} (hG : ∀ w w', G w → Below w.heap.size w w' → G w') {α : Type} {args : α → List SV} {I : α → Prop} {res : α → SV} {f : FuncId} {fn : Func} {code : Code} (cs : List (FuncId × (List SV → Spec))) (hmx : P.follows .mixedOrders = true) (hcs : Impls P G cs) (hinj : ∀ p q, args p = args q → p = q)
    (hf : P.funcs[f]? = some fn) (hb : fn.body = some code) (hname : fn.name ≠ "runtime.NumGoroutine") (hN : codeN (fun _ => none) fn.ntmps code = true) (hlen : ∀ p, (args p).length ≤ fn.ntmps)
    (h : ∀ p, I p → wp (cfg P cs) code (retK (cfg P cs) fn.results.toList fun r => SV.le r (res p)) (argSt (args p))) : Impl P G f (mkS args I res) := by
  refine impl_of_wp hG (c := cfg P cs) hmx rfl (impl_look hcs) hf hb hname hN ?_ ?_
  · rintro svs ⟨p, rfl, _⟩; exact hlen p
  · rintro svs ⟨p, rfl, hp⟩
    rw [mkS_eq hinj]
    exact h p hp

theorem retK_ret (c : Cfg) (rs : List ResultVar) (K : SV → Prop) (s : St) : retK c rs K .ret s = (sides (rs.map (resR c s)) ∧ K (retSV (rs.map fun r => slotP (resR c s r).s))) := rfl
theorem retK_normal (c : Cfg) (rs : List ResultVar) (K : SV → Prop) (s : St) : retK c rs K .normal s = (sides (rs.map (resR c s)) ∧ K (retSV (rs.map fun r => slotP (resR c s r).s))) := rfl
theorem resR_tmp (c : Cfg) (s : St) (t : Tmp) : resR c s (.tmp t) = finR c s.m (s.t t) := rfl
theorem resR_cell (c : Cfg) (s : St) (a t) : resR c s (.cell a t) = ⟨(evLoad c.ti t s.m (s.t a)).side ∧ (finR c s.m (evLoad c.ti t s.m (s.t a)).s).side, (finR c s.m (evLoad c.ti t s.m (s.t a)).s).s⟩ := rfl
theorem finR_p (c : Cfg) (m : Mem) (x : SV) : finR c m (.p x) = ⟨True, .p x⟩ := rfl
def finRow (c : Cfg) : Option Row → R
  | some r => match r.s with
    | .sl _ n e f => ⟨r.live = true ∧ e = (c.ti r.ty).size, .p (.sl false n e f)⟩
    | _ => no
  | none => no
theorem finR_ow (c : Cfg) (m : Mem) (k : Nat) : finR c m (.ow k) = finRow c m.rows[k]? := rfl
theorem finRow_encL {α : Type} [Inhabited α] (c : Cfg) (ty : TypeId) (enc : α → SV) (k : Nat) (l : List α) (pub live : Bool) : finRow c (some ⟨ty, encL enc k l, pub, live⟩) = ⟨live = true ∧ k = (c.ti ty).size, .p (encL enc k l)⟩ := rfl
theorem finRow_sl (c : Cfg) (ty : TypeId) (ex : Bool) (n e : Nat) (f : Nat → SV) (pub live : Bool) : finRow c (some ⟨ty, .sl ex n e f, pub, live⟩) = ⟨live = true ∧ e = (c.ti ty).size, .p (.sl false n e f)⟩ := rfl
theorem finRow_snoc (c : Cfg) (ty : TypeId) (k : Nat) (s x : SV) (pub live : Bool) : finRow c (some ⟨ty, SV.snoc k s x, pub, live⟩) = ⟨live = true ∧ k = (c.ti ty).size, .p (SV.snoc k s x)⟩ := rfl
theorem slotP_p (x : SV) : slotP (.p x) = x := rfl
theorem sides_nil : sides [] = True := rfl
theorem sides_cons (r : R) (l : List R) : sides (r :: l) = (r.side ∧ sides l) := rfl
theorem retSV_one (x : SV) : retSV [x] = x := rfl
theorem retSV_two (x y : SV) (l : List SV) : retSV (x :: y :: l) = .tup (x :: y :: l).length (list (x :: y :: l)) := rfl
theorem retSV_none : retSV [] = .tup 0 (list []) := rfl
theorem list_zero (x : SV) (l : List SV) : list (x :: l) 0 = x := rfl
theorem list_succ (x : SV) (l : List SV) (i : Nat) : list (x :: l) (i + 1) = list l i := rfl
theorem argSt_def (svs : List SV) : argSt svs = ⟨fun i => .p (list svs i), ⟨[], []⟩⟩ := rfl
theorem cond_false_r (b c : Bool) : (bif b then c else false) = (b && c) := by cases b <;> rfl
theorem cond_true_l (b c : Bool) : (bif b then true else c) = (b || c) := by cases b <;> rfl
theorem wrap_id (n : Int) (h : -9223372036854775808 ≤ n ∧ n < 9223372036854775808) : IntKind.i64.wrap n = n := by
  rw [IntKind.wrap_i64]; omega

/-! ### What is handed on to a loop's head -/
section
variable (m : Mem) (sb : List Nat) (sr : List (Option Nat)) (T : Nat → Slot)
theorem sle_dead (s : Slot) : Slot.le m sb sr s (.p .dead) = True := by cases s <;> rfl
theorem sle_p (x y : SV) : Slot.le m sb sr (.p x) (.p y) = SV.le x y := by
  cases y with
  | dead => rw [le_dead]; rfl
  | _ => cases x <;> first | rfl | (rename_i a; cases a <;> first | rfl | (rename_i a b c; cases a <;> cases b <;> cases c <;> rfl))
theorem sle_bx (k o k' o' : Nat) : Slot.le m sb sr (.bx k o) (.bx k' o') = (sb[k']? = some k ∧ o = o') := rfl
theorem sle_ow (k k' : Nat) : Slot.le m sb sr (.ow k) (.ow k') = (sr[k']? = some (some k)) := rfl
theorem sle_nil_ow (k' : Nat) : Slot.le m sb sr (.p (.v (.slice none 0 0))) (.ow k') = (sr[k']? = some none) := rfl
theorem sle_ow_p (k : Nat) (y : SV) : Slot.le m sb sr (.ow k) (.p y) = SV.le ((Slot.ow k).sv m) y := by
  cases y with
  | dead => rw [le_dead]; rfl
  | _ => rfl
theorem leL_nil : leL m sb sr T [] = True := rfl
theorem leL_cons (i : Nat) (s : Slot) (r : List (Nat × Slot)) : leL m sb sr T ((i, s) :: r) = (Slot.le m sb sr (T i) s ∧ leL m sb sr T r) := rfl
theorem leB_nil : leB m sb sr [] [] = True := rfl
def boxLe (m : Mem) (sb : List Nat) (sr : List (Option Nat)) (b' : Box) : Option Box → Prop
  | some b => b.n = b'.n ∧ allLt b.n (fun i => Slot.le m sb sr (b.f i) (b'.f i))
  | none => False
theorem leB_cons (k : Nat) (ks : List Nat) (b' : Box) (r : List Box) : leB m sb sr (k :: ks) (b' :: r) = (boxLe m sb sr b' m.boxes[k]? ∧ leB m sb sr ks r) := by
  rw [leB]; cases m.boxes[k]? <;> rfl
theorem boxLe_some (b b' : Box) : boxLe m sb sr b' (some b) = (b.n = b'.n ∧ allLt b.n (fun i => Slot.le m sb sr (b.f i) (b'.f i))) := rfl
theorem leR_nil : leR m [] [] = True := rfl
def rowLe (r' : Row) : Option Row → Prop
  | some r => leRow r r'
  | none => False
theorem leR_some (k : Nat) (ks : List (Option Nat)) (r' : Row) (r : List Row) : leR m (some k :: ks) (r' :: r) = (rowLe r' m.rows[k]? ∧ leR m ks r) := by
  rw [leR]; cases m.rows[k]? <;> rfl
theorem leR_none (ks : List (Option Nat)) (r' : Row) (r : List Row) : leR m (none :: ks) (r' :: r) = ((r'.s.isSl = true ∧ r'.s.len = 0) ∧ leR m ks r) := rfl
theorem rowLe_some (ty ty' : TypeId) (s s' : SV) (p p' l l' : Bool) : rowLe ⟨ty', s', p', l'⟩ (some ⟨ty, s, p, l⟩) = (ty' = ty ∧ (l' = true → l = true) ∧ p' = p ∧ s.isSl = true ∧ s'.isSl = true ∧ SV.le s.ro s'.ro) := rfl
theorem findB_nil (k : Nat) : findB T [] k = k := rfl
def bxNo (k : Nat) : Slot → Nat | .bx j _ => j | _ => k
theorem findB_bx (i k' o k : Nat) (r : List (Nat × Slot)) : findB T ((i, .bx k' o) :: r) k = if k' = k then bxNo k (T i) else findB T r k := rfl
theorem bxNo_bx (k j o : Nat) : bxNo k (.bx j o) = j := rfl
theorem findB_p (i k : Nat) (x : SV) (r : List (Nat × Slot)) : findB T ((i, .p x) :: r) k = findB T r k := rfl
theorem findB_ow (i k k' : Nat) (r : List (Nat × Slot)) : findB T ((i, .ow k') :: r) k = findB T r k := rfl
theorem findR_nil (k : Nat) : findR T [] k = some k := rfl
def owNo (k : Nat) : Slot → Option Nat | .ow j => some j | .p _ => none | _ => some k
theorem findR_ow (i k' k : Nat) (r : List (Nat × Slot)) : findR T ((i, .ow k') :: r) k = if k' = k then owNo k (T i) else findR T r k := rfl
theorem owNo_ow (k j : Nat) : owNo k (.ow j) = some j := rfl
theorem owNo_p (k : Nat) (x : SV) : owNo k (.p x) = none := rfl
theorem findR_p (i k : Nat) (x : SV) (r : List (Nat × Slot)) : findR T ((i, .p x) :: r) k = findR T r k := rfl
theorem findR_bx (i k k' o : Nat) (r : List (Nat × Slot)) : findR T ((i, .bx k' o) :: r) k = findR T r k := rfl
theorem upTo_zero {α : Type} (f : Nat → α) : upTo f 0 = [] := rfl
theorem upTo_succ {α : Type} (f : Nat → α) (n : Nat) : upTo f (n + 1) = upTo f n ++ [f n] := rfl
theorem le_def (s : St) (F : FSt) : St.le s F = (distinct (upTo (findB s.t F.l) F.m.boxes.length) = true ∧ distinct (somes (upTo (findR s.t F.l) F.m.rows.length)) = true ∧
  leB s.m (upTo (findB s.t F.l) F.m.boxes.length) (upTo (findR s.t F.l) F.m.rows.length) (upTo (findB s.t F.l) F.m.boxes.length) F.m.boxes ∧ leR s.m (upTo (findR s.t F.l) F.m.rows.length) F.m.rows ∧
  leL s.m (upTo (findB s.t F.l) F.m.boxes.length) (upTo (findR s.t F.l) F.m.rows.length) s.t F.l) := rfl
theorem toSt_def (F : FSt) : F.toSt = ⟨ofL F.l, F.m⟩ := rfl
theorem ofL_nil : ofL [] = T0 := rfl
theorem ofL_cons (i : Nat) (x : Slot) (r : List (Nat × Slot)) : ofL ((i, x) :: r) = upd (ofL r) i x := rfl
theorem distinct_nil : distinct [] = true := rfl
theorem distinct_cons (x : Nat) (r : List Nat) : distinct (x :: r) = (!r.contains x && distinct r) := rfl
theorem somes_nil : somes [] = [] := rfl
theorem somes_some (x : Nat) (r : List (Option Nat)) : somes (some x :: r) = x :: somes r := rfl
theorem somes_none (r : List (Option Nat)) : somes (none :: r) = somes r := rfl
/-- What a loop's proof gives. -/
theorem loop_intro' {c : Cfg} {x : Code} {Q : Exit → St → Prop} {s : St} {G : Type} (I : G → Prop) (fam : G → FSt) (μ : G → Nat) (g : G) (hI : I g) (hle : s.le (fam g)) (h : ∀ g : G, I g → wp c x (loopK ⟨G, I, fam, μ⟩ g Q) (fam g).toSt) : (∃ n, rounds (wp c x) Q n s) ∨ ∃ A : Ann, LoopVC A (wp c x) Q s :=
  .inr ⟨⟨G, I, fam, μ⟩, ⟨g, hI, hle⟩, h⟩
theorem loop_intro {c : Cfg} {x : Code} {Q : Exit → St → Prop} {s : St} (A : Ann) (g : A.G) (hI : A.I g) (hle : s.le (A.fam g)) (h : ∀ g, A.I g → wp c x (loopK A g Q) (A.fam g).toSt) : (∃ n, rounds (wp c x) Q n s) ∨ ∃ A : Ann, LoopVC A (wp c x) Q s :=
  .inr ⟨A, ⟨g, hI, hle⟩, h⟩
end

theorem toNat_cast (n : Nat) : ((n : Int)).toNat = n := by simp
theorem cast_nonneg (n : Nat) : ((0 : Int) ≤ (n : Int)) = True := by simp
theorem cast_lt (a b : Nat) : ((a : Int) < (b : Int)) = (a < b) := by simp
theorem cast_le (a b : Nat) : ((a : Int) ≤ (b : Int)) = (a ≤ b) := by simp
theorem vint_inj (k : IntKind) (a b : Int) : (Value.int k a = Value.int k b) = (a = b) := by simp
theorem vbool_inj (a b : Bool) : (Value.bool a = Value.bool b) = (a = b) := by simp
theorem drop_getD {α : Type} [Inhabited α] {l : List α} {i : Nat} (h : i < l.length) : l.drop i = l.getD i default :: l.drop (i + 1) := by
  rw [List.drop_eq_getElem_cons h]; simp [h]
theorem take_getD {α : Type} [Inhabited α] {l : List α} {i : Nat} (h : i < l.length) : l.take (i + 1) = l.take i ++ [l.getD i default] := by
  rw [List.take_succ]; simp [h]
theorem and_intro {a b : Prop} (ha : a) (hb : a → b) : a ∧ b := ⟨ha, hb ha⟩

section
variable {α : Type} [Inhabited α] (enc : α → SV) (k : Nat) (l l' : List α) (x : α)
theorem append_encL (c : Cfg) (t : TypeId) (d : Option Tmp) (T : Nat → Slot) (m : Mem) (s : Slot) : appendA c t d T m s (encL enc k l) = appendA c t d T m s (.sl false l.length k (fun i => enc (l.getD i default))) := rfl
theorem le_snoc_all : SV.le (SV.snoc k (encL enc k l) (.sl true l'.length k (fun i => enc (l'.getD i default)))) (encL enc k (l ++ l')) = True := by
  apply eq_true
  simp only [SV.snoc, encL, SV.len, SV.idx, le_sl, List.length_append, true_and]
  intro i hi
  by_cases e1 : i < l.length
  · simp only [e1, if_true]
    rw [show (l ++ l').getD i default = l.getD i default by simp [List.getD_eq_getElem?_getD, List.getElem?_append_left e1]]
    exact SV.le_refl _
  · simp only [e1, if_false]
    rw [show (l ++ l').getD i default = l'.getD (i - l.length) default by simp [List.getD_eq_getElem?_getD, List.getElem?_append_right (Nat.le_of_not_lt e1)]]
    exact SV.le_refl _
theorem le_snoc_empty (ex : Bool) (k' : Nat) (e : Nat → SV) : SV.le (SV.snoc k (.sl ex 0 k' e) (.sl true l'.length k (fun i => enc (l'.getD i default)))) (encL enc k l') = True := by
  apply eq_true
  simp only [SV.snoc, encL, SV.len, SV.idx, le_sl, Nat.zero_add, true_and]
  intro i _
  simp only [Nat.not_lt_zero, if_false, Nat.sub_zero]
  exact SV.le_refl _
theorem binT_encL (ti : TypeId → TI) (t : TypeId) (op : BinOp) (y : SV) : evBinT ti t op (encL enc k l) y = evBin (ti t).kind op (encL enc k l) y := rfl
theorem bin_encL_eql (kd : Nat) : evBin kd .eql (encL enc k l) (.v (.slice none 0 0)) = ⟨kd = 3 ∧ 0 < l.length, .p (.v (.bool false))⟩ := by simp [encL, evBin]
theorem bin_encL_neq (kd : Nat) : evBin kd .neq (encL enc k l) (.v (.slice none 0 0)) = ⟨kd = 3 ∧ 0 < l.length, .p (.v (.bool true))⟩ := by simp [encL, evBin]
theorem good_encL : (encL enc k l).good = true := rfl
theorem size_encL : (encL enc k l).size = 1 := rfl
theorem one_encL : (encL enc k l).one = true := rfl
theorem cell_encL (i : Nat) : (encL enc k l).cell i = encL enc k l := rfl
theorem at_encL (ti : TypeId → TI) (t : TypeId) (off : Nat) : SV.at ti t (encL enc k l) off = ⟨(ti t).isAgg = false ∧ off = 0, .p (encL enc k l)⟩ := rfl
end

/-! ### A contract for values that mean less -/
def lesL : List SV → List SV → Prop
  | [], [] => True
  | x :: l, y :: r => SV.le x y ∧ lesL l r
  | _, _ => False
theorem Reps.le {w : World} {fz : Nat → Nat → Prop} : ∀ {l r : List SV} {vs : List Value}, lesL l r → Reps w fz l vs → Reps w fz r vs
  | [], [], _, _, .nil => .nil
  | _ :: _, _ :: _, _, h, .cons h1 t => .cons (SV.le_sound h.1 h1) (Reps.le h.2 t)
  | [], _ :: _, _, h, _ => h.elim
  | _ :: _, [], _, h, _ => h.elim
theorem impl_le {P : Program} {G : World → Prop} {f : FuncId} {s s' : List SV → Spec} (h : Impl P G f s) (hl : ∀ svs, (s' svs).pre → ∃ r, lesL svs r ∧ (s r).pre ∧ SV.le (s r).res (s' svs).res) : Impl P G f s' := by
  intro w hw fz args svs hlt hr hp
  obtain ⟨r, h1, h2, h3⟩ := hl svs hp
  have := h w hw fz args r hlt (hr.le h1) h2
  unfold CallRes at this ⊢
  split at this
  · obtain ⟨fz', k1, k2⟩ := this
    exact ⟨fz', k1, SV.le_sound h3 k2⟩
  · refine this.mono ?_
    rintro e w' ⟨v, rfl, fz', k1, k2⟩
    exact ⟨v, rfl, fz', k1, SV.le_sound h3 k2⟩
  · exact this.elim
/-- One call. -/
noncomputable def one (args : List SV) (res : SV) : List SV → Spec := mkS (fun _ : Unit => args) (fun _ => True) (fun _ => res)
theorem one_eq (args : List SV) (res : SV) : one args res args = ⟨True, res⟩ := mkS_eq (args := fun _ : Unit => args) (fun _ _ _ => rfl) ()
theorem impl_one {P : Program} {G : World → Prop} {f : FuncId} {s : List SV → Spec} (h : Impl P G f s) {args r : List SV} {res : SV} (hl : lesL args r) (hp : (s r).pre) (hr : SV.le (s r).res res) : Impl P G f (one args res) :=
  impl_le h fun svs hs => by
    obtain ⟨_, rfl, _⟩ := hs
    refine ⟨r, hl, hp, ?_⟩
    rw [one_eq]
    exact hr
theorem getD_lit0 {α : Type} (x d : α) (l : List α) : (x :: l).getD 0 d = x := rfl
theorem getD_litS {α : Type} (x d : α) (l : List α) (i : Nat) : (x :: l).getD (i + 1) d = l.getD i d := rfl

/-! ### A walk in parts -/
def seqTail : Nat → Code → Code
  | 0, c => c
  | n + 1, .seq _ y => seqTail n y
  | _ + 1, c => c
def seqCut : Nat → Code → Code → Code
  | 0, _, t => t
  | n + 1, .seq x y, t => .seq x (seqCut n y t)
  | _ + 1, c, _ => c
theorem seqCut_eq : ∀ (n : Nat) (c : Code), seqCut n c (seqTail n c) = c
  | 0, _ => rfl
  | n + 1, .seq x y => by rw [seqTail, seqCut, seqCut_eq n y]
  | n + 1, .skip => rfl
  | n + 1, .region .. => rfl
  | n + 1, .cond .. => rfl
  | n + 1, .block .. => rfl
  | n + 1, .loop .. => rfl
  | n + 1, .rangeFunc .. => rfl
  | n + 1, .exit .. => rfl
  | n + 1, .scope .. => rfl
  | n + 1, .label .. => rfl
  | n + 1, .goto .. => rfl
  | n + 1, .ret => rfl
  | n + 1, .refuse .. => rfl
theorem seqCut_zero (x t : Code) : seqCut 0 x t = t := rfl
theorem seqCut_succ (n : Nat) (x y t : Code) : seqCut (n + 1) (.seq x y) t = .seq x (seqCut n y t) := rfl
theorem wp_cut {c : Cfg} {x : Code} {Q : Exit → St → Prop} {s : St} (n : Nat) (h : ∀ t, t = seqTail n x → wp c (seqCut n x t) Q s) : wp c x Q s := by
  have := h _ rfl
  rwa [seqCut_eq] at this
end Go.Am
