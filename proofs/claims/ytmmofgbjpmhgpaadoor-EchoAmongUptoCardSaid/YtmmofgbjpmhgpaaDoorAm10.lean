/- Regions that draw their order: the order of the text serves every order. -/
import Derived.Test.YtmmofgbjpmhgpaaDoorAm9
set_option linter.all false
set_option linter.unusedVariables false
set_option linter.unusedSimpArgs false
set_option linter.unnecessarySimpa false
namespace Go.Am
open Go Go.RowKit

section
variable {P : Program} {c : Cfg} {w0 w : World} {fz0 fz : Nat → Nat → Prop} {φ : Own} {m : Mem} {o : Oper} {a : Act} {T : Nat → Slot}

theorem sv_rows {m m' : Mem} (h : m'.rows = m.rows) (s : Slot) : s.sv m' = s.sv m := by cases s <;> simp [Slot.sv, h]
theorem norm_rows {m m' : Mem} (h : m'.rows = m.rows) (s : Slot) : s.norm m' = s.norm m := by cases s <;> simp [Slot.norm, h]

/-- More boxes make no difference to an operation that is carried out without them. -/
theorem ev_mono (c : Cfg) (op : Op) (ρ : Operand → Slot) {m : Mem} (l : List Box) (h : (ev c op ρ m).side) : ev c op ρ { m with boxes := m.boxes ++ l } = ev c op ρ m := by
  have hs : ∀ s : Slot, s.sv { m with boxes := m.boxes ++ l } = s.sv m := sv_rows rfl
  have hn : ∀ s : Slot, s.norm { m with boxes := m.boxes ++ l } = s.norm m := norm_rows rfl
  unfold ev at h ⊢
  split at h
  case h_10 t x =>
    unfold evLoad at h ⊢
    split at h
    · rfl
    · rename_i k off _
      dsimp only
      cases hb : m.boxes[k]? with
      | none => rw [hb] at h; exact h.elim
      | some b =>
        rw [List.getElem?_append_left (lt_of_getElem? hb), hb]
        simp only [hs]
    · rfl
    · exact h.elim
  all_goals (first | rfl | (simp only [hs, hn]; done) | (simp only [hs, hn]; rfl))

/-! ### What must have come up before -/
/-- Whatever has come up, so has all that it waits for. -/
def Closed (ops : Array Oper) (S : Nat → Bool) : Prop := ∀ j o, ops[j]? = some o → S j = true → ∀ i ∈ direct o, S i = true

theorem preds_spec {ops : Array Oper} {S : Nat → Bool} (hS : Closed ops S) : ∀ (l : List Oper) (acc : List (List Nat)), (∀ j, l[j]? = ops[acc.length + j]?) →
    (∀ j o, j < acc.length → ops[j]? = some o → (∀ i ∈ direct o, S i = true) → ∀ i ∈ acc.getD j [], S i = true) →
    ∀ j o, ops[j]? = some o → j < acc.length + l.length → (∀ i ∈ direct o, S i = true) → ∀ i ∈ (preds l acc).getD j [], S i = true
  | [], acc, _, h, j, o, ho, hj, hd => h j o (by simpa using hj) ho hd
  | o :: l, acc, hl, h, j, oj, ho, hj, hd => by
    have h0 : ops[acc.length]? = some o := by simpa using (hl 0).symm
    refine preds_spec hS l (acc ++ [direct o ++ (direct o).flatMap (fun i => acc.getD i [])]) (fun j => ?_) (fun j' o' hj' ho' hd' i hi => ?_) j oj ho (by simp at hj ⊢; omega) hd
    · have := hl (j + 1)
      simp only [List.getElem?_cons_succ] at this
      rw [this, List.length_append, List.length_singleton]
      congr 1; omega
    · simp only [List.length_append, List.length_singleton] at hj'
      by_cases hlt : j' < acc.length
      · have e : (acc ++ [direct o ++ (direct o).flatMap (fun i => acc.getD i [])]).getD j' [] = acc.getD j' [] := by
          simp [List.getD_eq_getElem?_getD, List.getElem?_append_left hlt]
        rw [e] at hi
        exact h j' o' hlt ho' hd' i hi
      · obtain rfl : j' = acc.length := by omega
        rw [h0] at ho'
        obtain rfl := Option.some.inj ho'
        have e : (acc ++ [direct o ++ (direct o).flatMap (fun i => acc.getD i [])]).getD acc.length [] = direct o ++ (direct o).flatMap (fun i => acc.getD i []) := by
          simp [List.getD_eq_getElem?_getD]
        rw [e] at hi
        rcases List.mem_append.1 hi with hi | hi
        · exact hd' i hi
        · obtain ⟨q, hq, hiq⟩ := List.mem_flatMap.1 hi
          by_cases hql : q < acc.length
          · have hqs : q < ops.size := by
              have := (Array.getElem?_eq_some_iff.1 h0).1; omega
            exact h q ops[q] hql (Array.getElem?_eq_getElem hqs) (hS q ops[q] (Array.getElem?_eq_getElem hqs) (hd' q hq)) i hiq
          · rw [List.getD_eq_getElem?_getD, List.getElem?_eq_none (by omega)] at hiq
            simp at hiq

def predsOf (ops : Array Oper) (j : Nat) : List Nat := (preds ops.toList []).getD j []
theorem predsOf_spec {ops : Array Oper} {S : Nat → Bool} (hS : Closed ops S) {j : Nat} {o : Oper} (ho : ops[j]? = some o) (hd : ∀ i ∈ direct o, S i = true) : ∀ i ∈ predsOf ops j, S i = true :=
  preds_spec hS ops.toList [] (by simp) (fun _ _ h => by simp at h) j o ho (by simpa using (Array.getElem?_eq_some_iff.1 ho).1) hd

structure DrawFacts (ops : Array Oper) : Prop where
  below : ∀ j o, ops[j]? = some o → ∀ i ∈ direct o, i < j
  pair : ∀ i j x y, i < j → ops[i]? = some x → ops[j]? = some y → i ∈ predsOf ops j ∨ (isBar x.op = false ∧ isBar y.op = false ∧ x.apart ops y = true)

theorem drawFacts {ops : Array Oper} (h : drawOK ops = true) : DrawFacts ops := by
  unfold drawOK at h
  rw [List.all_eq_true] at h
  have get : ∀ j o, ops[j]? = some o → ((direct o).all (· < j) && (match o.op with | .select .. => false | _ => true) && (List.range j).all fun i => match ops[i]? with
      | none => true
      | some x => pairOK ops (preds ops.toList []) i j x o) = true := fun j o ho => by
    have := h j (List.mem_range.2 (Array.getElem?_eq_some_iff.1 ho).1)
    rw [ho] at this
    exact this
  refine ⟨fun j o ho i hi => ?_, fun i j x y hij hx hy => ?_⟩
  · have := get j o ho
    simp only [Bool.and_eq_true] at this
    have := List.all_eq_true.1 this.1.1 i hi
    simpa using this
  · have := get j y hy
    simp only [Bool.and_eq_true] at this
    have := List.all_eq_true.1 this.2 i (List.mem_range.2 hij)
    rw [hx] at this
    simp only [pairOK, Bool.or_eq_true, Bool.and_eq_true, Bool.not_eq_true'] at this
    rcases this with h | h
    · exact .inl (by simpa [predsOf] using h)
    · exact .inr ⟨h.1.1, h.1.2, h.2⟩

/-! ### A piece of a region in which nothing is written -/
def dstAt (ops : Array Oper) (j : Nat) : Option Tmp := (ops[j]?).bind (·.dst)

/-- The slots behind those of the operations k, k + 1, .. that have come up. -/
def valS (ops : Array Oper) (V : Nat → Slot) (S : Nat → Bool) (T : Nat → Slot) (k : Nat) : Nat → Nat → Slot
  | 0, d => T d
  | n + 1, d => if S (k + n) = true ∧ dstAt ops (k + n) = some d then V (k + n) else valS ops V S T k n d
def all1 : Nat → Bool := fun _ => true

theorem valS_shift {ops : Array Oper} {V V' : Nat → Slot} {k : Nat} {T : Nat → Slot} (h : ∀ j, k < j → V j = V' j) : ∀ n, valS ops V all1 T k (n + 1) = valS ops V' all1 (putT T (dstAt ops k) (V k)) (k + 1) n
  | 0 => by
    funext d
    simp only [valS, all1, Nat.add_zero, true_and]
    rw [putT_at]
  | n + 1 => by
    funext d
    rw [valS, valS_shift h n]
    rw [valS, show k + (n + 1) = k + 1 + n by omega, h (k + 1 + n) (by omega)]

/-- How an operation fares in the order of the text. -/
def StepAt (c : Cfg) (ops : Array Oper) (o : Oper) (T : Nat → Slot) (m : Mem) (v : Slot) : Prop :=
  (o.guard = none ∧ (ev c o.op (val T) m).side ∧ v = (ev c o.op (val T) m).s) ∨
  ∃ j want d g, o.guard = some (j, want) ∧ gslot ops j = some d ∧ (T d).want want = some g ∧ okAll g T (opl o.op) ∧ ∃ s, v = .gd g s ∧ (g = true → (evG c o.op T m).side ∧ s = (evG c o.op T m).s)
def AllocAt (c : Cfg) (o : Oper) (m : Mem) (b : Nat) (v : Slot) : Prop :=
  ∃ t, o.guard = none ∧ o.op = .alloc t ∧ ((c.ti t).zero.good = true ∧ (c.ti t).zero.size = (c.ti t).size) ∧ v = .bx b 0 ∧ m.boxes[b]? = some ⟨(c.ti t).size, fun i => .p ((c.ti t).zero.cell i)⟩

structure Seg (c : Cfg) (ops : Array Oper) (k k1 : Nat) (T : Nat → Slot) (m : Mem) (V : Nat → Slot) (B : Nat → Option Nat) (mE : Mem) : Prop where
  le : k ≤ k1
  ext : ∃ l, mE = { m with boxes := m.boxes ++ l }
  step : ∀ j, k ≤ j → j < k1 → ∃ o, ops[j]? = some o ∧ isBar o.op = false ∧
    ((B j = none ∧ StepAt c ops o (valS ops V all1 T k (j - k)) mE (V j)) ∨ ∃ b, B j = some b ∧ m.boxes.length ≤ b ∧ AllocAt c o mE b (V j))
  inj : ∀ j j' b, k ≤ j → j < k1 → k ≤ j' → j' < k1 → B j = some b → B j' = some b → j = j'
  cover : ∀ q, m.boxes.length ≤ q → q < mE.boxes.length → ∃ j, k ≤ j ∧ j < k1 ∧ B j = some q

theorem act_alloc {op : Op} {d : Option Tmp} {A : A} (hb : isBar op = false) (h : act c op d T m = some A) : ∃ t, op = .alloc t ∧ A = ⟨(c.ti t).zero.good = true ∧ (c.ti t).zero.size = (c.ti t).size, allocK c t d T m⟩ := by
  unfold act at h
  split at h
  · exact ⟨_, rfl, (Option.some.inj h).symm⟩
  all_goals first | (cases hb; done) | (cases h; done) | skip

theorem evG_mono (c : Cfg) (op : Op) (T : Nat → Slot) {m : Mem} (l : List Box) (h : (evG c op T m).side) : evG c op T { m with boxes := m.boxes ++ l } = evG c op T m := ev_mono c op _ l h

theorem StepAt.mono {ops : Array Oper} {v : Slot} (l : List Box) (h : StepAt c ops o T m v) : StepAt c ops o T { m with boxes := m.boxes ++ l } v := by
  rcases h with ⟨h1, h2, h3⟩ | ⟨j, want, d, g, h1, h2, h3, h4, s, h5, h6⟩
  · exact .inl ⟨h1, by rw [ev_mono c _ _ l h2]; exact h2, by rw [ev_mono c _ _ l h2]; exact h3⟩
  · exact .inr ⟨j, want, d, g, h1, h2, h3, h4, s, h5, fun hg => by rw [evG_mono c _ _ l (h6 hg).1]; exact h6 hg⟩

theorem AllocAt.mono {v : Slot} {b : Nat} (l : List Box) (h : AllocAt c o m b v) : AllocAt c o { m with boxes := m.boxes ++ l } b v := by
  obtain ⟨t, h1, h2, h3, h4, h5⟩ := h
  exact ⟨t, h1, h2, h3, h4, by dsimp only; rw [List.getElem?_append_left (lt_of_getElem? h5)]; exact h5⟩

theorem mem_append_nil (m : Mem) : m = { m with boxes := m.boxes ++ [] } := by rw [List.append_nil]

/-- The piece that begins here, up to the next operation that writes. -/
theorem seg_of_runOps {ops : Array Oper} {K : St → Prop} : ∀ (l : List Oper) (k : Nat) (T : Nat → Slot) (m : Mem), (∀ j, l[j]? = ops[k + j]?) → runOps c ops K l T m →
    ∃ k1 V B mE, Seg c ops k k1 T m V B mE ∧ k1 ≤ k + l.length ∧
      ((k1 = k + l.length ∧ K ⟨valS ops V all1 T k (k1 - k), mE⟩) ∨ ∃ o l', ops[k1]? = some o ∧ isBar o.op = true ∧ (∀ j, (o :: l')[j]? = ops[k1 + j]?) ∧ k1 + (o :: l').length = k + l.length ∧ runOps c ops K (o :: l') (valS ops V all1 T k (k1 - k)) mE)
  | [], k, T, m, _, h => ⟨k, fun _ => .p .dead, fun _ => none, m, ⟨Nat.le_refl _, ⟨[], mem_append_nil m⟩, fun j h1 h2 => by omega, fun j j' b h1 h2 => by omega, fun q h1 h2 => by omega⟩, by simp, .inl ⟨by simp, by rw [Nat.sub_self]; exact h⟩⟩
  | o :: l, k, T, m, hl, h => by
    have h0 : ops[k]? = some o := by simpa using (hl 0).symm
    have hl' : ∀ j, l[j]? = ops[k + 1 + j]? := fun j => by have := hl (j + 1); simpa [Nat.add_assoc, Nat.add_comm 1 j] using this
    have hdst : dstAt ops k = o.dst := by simp [dstAt, h0]
    by_cases hb : isBar o.op = true
    · exact ⟨k, fun _ => .p .dead, fun _ => none, m, ⟨Nat.le_refl _, ⟨[], mem_append_nil m⟩, fun j h1 h2 => by omega, fun j j' b h1 h2 => by omega, fun q h1 h2 => by omega⟩, by simp, .inr ⟨o, l, h0, hb, hl, rfl, by rw [Nat.sub_self]; exact h⟩⟩
    · have hb' : isBar o.op = false := by simpa using hb
      -- one operation more at the head
      have cons : ∀ (v : Slot) (bo : Option Nat) (T' : Nat → Slot) (m' : Mem), T' = putT T o.dst v → (∃ l0, m' = { m with boxes := m.boxes ++ l0 } ∧ ((bo = none ∧ l0 = [] ∧ StepAt c ops o T m' v) ∨ (bo = some m.boxes.length ∧ l0.length = 1 ∧ AllocAt c o m' m.boxes.length v))) → runOps c ops K l T' m' →
          ∃ k1 V B mE, Seg c ops k k1 T m V B mE ∧ k1 ≤ k + (o :: l).length ∧
            ((k1 = k + (o :: l).length ∧ K ⟨valS ops V all1 T k (k1 - k), mE⟩) ∨ ∃ o' l', ops[k1]? = some o' ∧ isBar o'.op = true ∧ (∀ j, (o' :: l')[j]? = ops[k1 + j]?) ∧ k1 + (o' :: l').length = k + (o :: l).length ∧ runOps c ops K (o' :: l') (valS ops V all1 T k (k1 - k)) mE) := by
        rintro v bo T' m' rfl ⟨l0, rfl, hst⟩ hr
        obtain ⟨k1, V, B, mE, hseg, hk1, hend⟩ := seg_of_runOps l (k + 1) _ _ hl' hr
        obtain ⟨hle, ⟨l1, rfl⟩, hstep, hinj, hcov⟩ := hseg
        have hV : ∀ n, valS ops (fun j => if j = k then v else V j) all1 T k (n + 1) = valS ops V all1 (putT T o.dst v) (k + 1) n := fun n => by
          rw [valS_shift (V' := V) (fun j hj => by rw [if_neg (by omega)]), hdst, if_pos rfl]
        have hVk : valS ops (fun j => if j = k then v else V j) all1 T k (k1 - k) = valS ops V all1 (putT T o.dst v) (k + 1) (k1 - (k + 1)) := by
          rw [show k1 - k = (k1 - (k + 1)) + 1 by omega]; exact hV _
        refine ⟨k1, fun j => if j = k then v else V j, fun j => if j = k then bo else B j, { m with boxes := m.boxes ++ l0 ++ l1 }, ⟨by omega, ⟨l0 ++ l1, by rw [List.append_assoc]⟩, fun j h1 h2 => ?_, fun j j' b h1 h2 h3 h4 e1 e2 => ?_, fun q h1 h2 => ?_⟩, by simp; omega, ?_⟩
        · by_cases hj : j = k
          · subst hj
            refine ⟨o, h0, hb', ?_⟩
            simp only [if_true, Nat.sub_self]
            rcases hst with ⟨g1, _, g2⟩ | ⟨g1, _, g2⟩
            · exact .inl ⟨g1, g2.mono l1⟩
            · exact .inr ⟨_, g1, Nat.le_refl _, g2.mono l1⟩
          · obtain ⟨oj, g1, g2, g3⟩ := hstep j (by omega) h2
            refine ⟨oj, g1, g2, ?_⟩
            simp only [hj, if_false]
            rw [show j - k = (j - (k + 1)) + 1 by omega, hV]
            rcases g3 with g3 | ⟨b, g3, g4, g5⟩
            · exact .inl g3
            · exact .inr ⟨b, g3, by simp at g4; omega, g5⟩
        · have hnew : ∀ q b, k ≤ q → q < k1 → q ≠ k → B q = some b → m.boxes.length + l0.length ≤ b := fun q b q1 q2 q3 q4 => by
            obtain ⟨oq, _, _, g3⟩ := hstep q (by omega) q2
            rcases g3 with ⟨g3, _⟩ | ⟨b', g3, g4, _⟩
            · rw [q4] at g3; cases g3
            · rw [q4] at g3
              obtain rfl := Option.some.inj g3
              simpa using g4
          by_cases hj : j = k <;> by_cases hj' : j' = k
          · omega
          · subst hj
            simp only [if_true, hj', if_false] at e1 e2
            rcases hst with ⟨g1, _, _⟩ | ⟨g1, g1', _⟩
            · rw [g1] at e1; cases e1
            · rw [g1] at e1
              have := hnew j' b h3 h4 hj' e2
              have e : m.boxes.length = b := Option.some.inj e1
              omega
          · subst hj'
            simp only [if_true, hj, if_false] at e1 e2
            rcases hst with ⟨g1, _, _⟩ | ⟨g1, g1', _⟩
            · rw [g1] at e2; cases e2
            · rw [g1] at e2
              have := hnew j b h1 h2 hj e1
              have e : m.boxes.length = b := Option.some.inj e2
              omega
          · simp only [hj, hj', if_false] at e1 e2
            exact hinj j j' b (by omega) h2 (by omega) h4 e1 e2
        · by_cases hq : m.boxes.length + l0.length ≤ q
          · obtain ⟨j, g1, g2, g3⟩ := hcov q (by simpa using hq) h2
            exact ⟨j, by omega, g2, by rw [if_neg (by omega)]; exact g3⟩
          · rcases hst with ⟨g1, g1', _⟩ | ⟨g1, g1', _⟩
            · rw [g1'] at hq; simp at hq; omega
            · exact ⟨k, Nat.le_refl _, by omega, by rw [if_pos rfl, g1]; congr 1; omega⟩
        · rw [hVk]
          rcases hend with ⟨g1, g2⟩ | ⟨o', l', g1, g2, g3, g4, g5⟩
          · exact .inl ⟨by simp; omega, g2⟩
          · exact .inr ⟨o', l', g1, g2, g3, by simp at g4 ⊢; omega, g5⟩
      unfold runOps at h
      split at h
      · rename_i hg
        split at h
        · rename_i A hA
          obtain ⟨t, ht, rfl⟩ := act_alloc hb' hA
          dsimp only at h
          exact cons (.bx m.boxes.length 0) (some m.boxes.length) _ _ rfl ⟨[⟨(c.ti t).size, fun i => .p ((c.ti t).zero.cell i)⟩], rfl, .inr ⟨rfl, rfl, t, hg, ht, h.1, rfl, by simp⟩⟩ h.2
        · exact cons _ none _ m rfl ⟨[], mem_append_nil m, .inl ⟨rfl, rfl, .inl ⟨hg, h.1, rfl⟩⟩⟩ h.2
      · rename_i j want hg
        split at h
        · exact h.elim
        · rename_i d hj
          split at h
          · exact h.elim
          · rename_i g hw
            exact cons _ none _ m rfl ⟨[], mem_append_nil m, .inl ⟨rfl, rfl, .inr ⟨j, want, d, g, hg, hj, hw, h.1, _, rfl, fun hg' => ⟨h.2.2.1 hg', rfl⟩⟩⟩⟩ h.2.2.2

theorem valS_agree {ops : Array Oper} {V : Nat → Slot} {S : Nat → Bool} {k i d : Nat} : ∀ (n : Nat), (∀ j, k ≤ j → j < k + n → j < i → dstAt ops j = some d → S j = true) → (∀ j, i ≤ j → j < k + n → dstAt ops j = some d → S j = false) → k ≤ i →
    valS ops V S T k n d = valS ops V all1 T k (min n (i - k)) d
  | 0, _, _, _ => by simp [valS]
  | n + 1, h1, h2, hk => by
    have ih := valS_agree (V := V) n (fun j a b c e => h1 j a (by omega) c e) (fun j a b e => h2 j a (by omega) e) hk
    by_cases hi : k + n < i
    · rw [show min (n + 1) (i - k) = n + 1 by omega, valS, valS, ih, show min n (i - k) = n by omega]
      by_cases hd : dstAt ops (k + n) = some d
      · rw [if_pos ⟨h1 (k + n) (by omega) (by omega) hi hd, hd⟩, if_pos ⟨rfl, hd⟩]
      · rw [if_neg (fun h => hd h.2), if_neg (fun h => hd h.2)]
    · rw [show min (n + 1) (i - k) = min n (i - k) by omega, ← ih, valS, if_neg]
      rintro ⟨e1, e2⟩
      rw [h2 (k + n) (by omega) (by omega) e2] at e1
      cases e1

theorem valS_set {ops : Array Oper} {V : Nat → Slot} {S : Nat → Bool} {k i : Nat} (hi : k ≤ i) (hS : S i = false) : ∀ (n : Nat), (∀ j d, i < j → j < k + n → dstAt ops i = some d → dstAt ops j = some d → S j = false) →
    valS ops V (fun j => S j || j == i) T k n = if i < k + n then putT (valS ops V S T k n) (dstAt ops i) (V i) else valS ops V S T k n
  | 0, _ => by rw [if_neg (by omega)]; rfl
  | n + 1, h => by
    have ih := valS_set (V := V) hi hS n (fun j d a b c e => h j d a (by omega) c e)
    funext d
    rw [valS, ih]
    by_cases e1 : k + n = i
    · subst e1
      have c0 : ¬ k + n < k + n := Nat.lt_irrefl _
      have c1 : k + n < k + (n + 1) := by omega
      simp only [c0, c1, if_true, if_false]
      rw [putT_at, valS]
      simp [hS]
    · have e3 : (k + n == i) = false := by simp; omega
      by_cases e2 : i < k + n
      · have c1 : i < k + (n + 1) := by omega
        simp only [e2, c1, if_true, e3, Bool.or_false]
        rw [putT_at, putT_at, valS]
        by_cases e4 : dstAt ops i = some d
        · simp only [e4, if_true]
          by_cases e5 : dstAt ops (k + n) = some d
          · rw [h (k + n) d e2 (by omega) e4 e5]; simp
          · simp [e5]
        · simp [e4]
      · have c2 : ¬ i < k + (n + 1) := by omega
        simp only [e2, c2, if_false, e3, Bool.or_false]
        rw [valS]

theorem valS_congr {ops : Array Oper} {V : Nat → Slot} {S S' : Nat → Bool} {k : Nat} : ∀ (n : Nat), (∀ j, k ≤ j → j < k + n → S j = S' j) → valS ops V S T k n = valS ops V S' T k n
  | 0, _ => rfl
  | n + 1, h => by
    funext d
    rw [valS, valS, valS_congr n (fun j a b => h j a (by omega)), h (k + n) (by omega) (by omega)]

theorem count_set {p p' : Nat → Bool} {i : Nat} : ∀ (n : Nat), p i = true → p' i = false → (∀ j, j ≠ i → p' j = p j) → (List.range n).countP p = (List.range n).countP p' + if i < n then 1 else 0
  | 0, _, _, _ => by simp
  | n + 1, h1, h2, h3 => by
    rw [List.range_succ, List.countP_append, List.countP_append, count_set n h1 h2 h3]
    simp only [List.countP_singleton]
    by_cases hn : n = i
    · subst hn
      simp [h1, h2]
    · have e : p' n = p n := h3 n hn
      rw [e]
      by_cases hi : i < n
      · have hi' : i < n + 1 := by omega
        simp only [hi, hi', if_true]; omega
      · have hi' : ¬ i < n + 1 := by omega
        simp only [hi, hi', if_false]; omega

/-- One operation, in the order of the text. -/
theorem step_sound (hc : c.ti = TI.of P) (hs : Know P w0 c) {ops : Array Oper} {N : Nat} (hN : ∀ (i : Nat) (o : Oper) (d : Tmp), ops[i]? = some o → o.dst = some d → d < N) {K : St → Prop} {Q : Exit → Act → World → Prop} {k : Nat} {l : List Oper}
    (h0 : ops[k]? = some o) (hn : Nxt P w0 fz0 N T m a w) (h : runOps c ops K (o :: l) T m) : wpOp P ops Q k (fun a' w' => ∃ T' m', Nxt P w0 fz0 N T' m' a' w' ∧ runOps c ops K l T' m') a w := by
  obtain ⟨fz, φ, hrs, hfull, hdf, hsz⟩ := hn
  have hd : ∀ d, o.dst = some d → d < a.tmps.size := fun d hd => by rw [hsz]; exact hN k o d h0 hd
  have nxt : ∀ {T' m' a' w' fz' φ'}, RS P w0 fz0 w' fz' φ' T' m' a' → a'.defers = a.defers → a'.tmps.size = a.tmps.size → (∀ k, k < m'.boxes.length → φ'.bok k) → Nxt P w0 fz0 N T' m' a' w' :=
    fun h1 h2 h3 h4 => ⟨_, _, h1, h4, h2.trans hdf, h3.trans hsz⟩
  unfold wpOp
  simp only [h0]
  unfold runOps at h
  split at h
  · rename_i hg
    rw [wanted_none hg, if_pos rfl]
    refine .inl ?_
    split at h
    · rename_i A hA
      exact act_sound hc hrs hd hA h.1 fun a' w' fz' φ' h1 h2 h3 h4 => ⟨_, _, nxt h1 h2 h3 (h4.all hfull), h.2⟩
    · exact ev_sound hc hs hrs.mem (fun x _ => slotRep_val hrs.slots x) h.1 fun v w' fz' h1 h2 => ⟨_, _, nxt ((hrs.ext h1).put hd h2) defers_put size_put hfull, h.2⟩
  · rename_i j want hg
    split at h
    · exact h.elim
    · rename_i d hj
      split at h
      · exact h.elim
      · rename_i g hw
        rw [wanted_some hg hj (hrs.slots d) hw]
        obtain ⟨h1, _, h3, h4⟩ := h
        cases g
        · rw [if_neg (by simp)]
          exact ⟨_, _, nxt (hrs.put hd (s := .gd false _) ⟨fun h => (by cases h), fun _ => rfl⟩) defers_put size_put hfull, h4⟩
        · rw [if_pos rfl]
          exact .inl (ev_sound hc hs hrs.mem (strip_ops hrs.slots h1) (h3 rfl) fun v w' fz' g1 g2 => ⟨_, _, nxt ((hrs.ext g1).put hd (s := .gd true _) ⟨fun _ => g2, fun h => (by cases h)⟩) defers_put size_put hfull, h4⟩)
end
end Go.Am
