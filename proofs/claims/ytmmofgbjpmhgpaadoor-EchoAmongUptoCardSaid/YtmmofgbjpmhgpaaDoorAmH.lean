/- Regions that draw their order, in which a read may come before a write or behind it. -/
import Derived.Test.YtmmofgbjpmhgpaaDoorAm11
set_option linter.all false
set_option linter.unusedVariables false
set_option linter.unusedSimpArgs false
set_option linter.unnecessarySimpa false
namespace Go.Am
open Go Go.RowKit

section
variable {P : Program} {c : Cfg} {w0 w : World} {fz0 fz : Nat → Nat → Prop} {φ : Own} {m : Mem} {o : Oper} {a : Act} {T : Nat → Slot}

/-! ### What an operation looks at -/
theorem sv_pure {m m' : Mem} : ∀ {s : Slot}, pureS s = true → s.sv m = s.sv m'
  | .p _, _ => rfl
  | .bx _ _, _ => rfl
  | .gd _ _, _ => rfl
  | .ow _, h => by cases h
  | .rp _ _ _, h => by cases h
theorem norm_pure {m m' : Mem} : ∀ {s : Slot}, pureS s = true → s.norm m = s.norm m'
  | .p _, _ => rfl
  | .bx _ _, _ => rfl
  | .gd _ _, _ => rfl
  | .ow _, h => by cases h
  | .rp _ _ _, h => by cases h
theorem norm_cases (s : Slot) (m : Mem) (h : pureS s = true) : s.norm m = s := by cases s <;> first | rfl | cases h
theorem strip_pure : ∀ {s : Slot}, pureS s = true → pureS s.strip = true
  | .p _, _ => rfl
  | .bx _ _, _ => rfl
  | .gd _ s, h => strip_pure (s := s) h
  | .ow _, h => by cases h
  | .rp _ _ _, h => by cases h

theorem evIdx_pure {ti : TypeId → TI} {t : TypeId} {m m' : Mem} {s : Slot} {i : SV} (h : pureS s = true) : evIdx ti t m s i = evIdx ti t m' s i := by
  cases i with
  | v x => cases x <;> first | rfl | (cases s with
      | p y => cases y <;> rfl
      | ow k => cases h
      | _ => rfl)
  | _ => rfl
theorem evLen_pure {kd : Nat} {m m' : Mem} {s : Slot} (h : pureS s = true) : evLen kd m s = evLen kd m' s := by
  cases s with
  | p y => cases y with
    | v x => cases x <;> rfl
    | _ => rfl
  | ow k => cases h
  | _ => rfl
/-- An operation gives the same if the boxes are the same and it looks at no row. -/
theorem ev_rows {m m' : Mem} (hb : m'.boxes = m.boxes) (op : Op) (ρ : Operand → Slot) (h : ∀ x ∈ opl op, pureS (ρ x) = true) (hl : ∀ t x, op = .load t x → (∃ k off, ρ x = .bx k off) → (c.ti t).isAgg = false) : ev c op ρ m' = ev c op ρ m := by
  have hs : ∀ x ∈ opl op, (ρ x).sv m' = (ρ x).sv m := fun x hx => sv_pure (h x hx)
  have hn : ∀ x ∈ opl op, (ρ x).norm m' = (ρ x).norm m := fun x hx => norm_pure (h x hx)
  unfold ev
  split <;> simp only [opl, List.mem_cons, List.not_mem_nil, or_false, forall_eq_or_imp, forall_eq] at h hs hn
  case h_10 t x =>
    unfold evLoad
    split
    · rfl
    · rename_i k off e
      rw [hb]
      have := hl t x rfl ⟨k, off, e⟩
      simp [this]
    · rename_i e; rw [e] at h; cases h
    · rfl
  case h_6 t x i =>
    rw [hn.1, hs.2, norm_cases _ m h.1]
    exact evIdx_pure h.1
  case h_12 t l => rw [map_congr_mem l fun p hp => by rw [hs p.2 (List.mem_map.2 ⟨p, hp, rfl⟩)]]
  case h_13 t n l => rw [map_congr_mem l fun p hp => by rw [hs p.2 (List.mem_map.2 ⟨p, hp, rfl⟩)]]
  case h_14 t x lo hi =>
    obtain ⟨h1, h2⟩ := hs
    rw [h1]
    cases lo <;> cases hi <;> simp_all
  case h_15 x t =>
    rw [hn, norm_cases _ m h]
    exact evLen_pure h
  case h_16 x l _ =>
    obtain ⟨h1, h2⟩ := hs
    rw [h1, map_congr_mem l fun y hy => by rw [h2 y hy]]
  all_goals (first | rfl | simp_all)

/-- An operation gives the same if only a box is another into which it does not look. -/
theorem ev_boxes {m m' : Mem} (hr : m'.rows = m.rows) (op : Op) (ρ : Operand → Slot) (h : ∀ t x k off, op = .load t x → ρ x = .bx k off → m'.boxes[k]? = m.boxes[k]?) : ev c op ρ m' = ev c op ρ m := by
  have hs : ∀ s : Slot, s.sv m' = s.sv m := sv_rows hr
  have hn : ∀ s : Slot, s.norm m' = s.norm m := norm_rows hr
  unfold ev
  split
  case h_10 t x =>
    unfold evLoad
    split
    · rfl
    · rename_i k off e
      rw [h t x k off rfl e]
      simp only [hs]
    · rw [hr]
    · rfl
  all_goals (first | rfl | (simp only [hs, hn]; done) | (simp only [hs, hn]; first | rfl | (unfold evIdx; rw [hr]) | (unfold evLen; rw [hr])))

theorem setAt_append {α : Type} : ∀ (l r : List α) (k : Nat) (x : α), k < l.length → setAt (l ++ r) k x = setAt l k x ++ r
  | [], _, _, _, h => by simp at h
  | _ :: _, _, 0, _, _ => rfl
  | y :: l, r, k + 1, x, h => by simp [setAt, setAt_append l r k x (by simpa using h)]

/-- A write, at slots that agree, with more boxes. -/
theorem act_at {op : Op} {d : Option Tmp} {A : A} {T' : Nat → Slot} (h : act c op d T m = some A) (hs : A.side) (hb : isBar op = true) (hx : isBox op = false) (hT : ∀ x ∈ op.operands.toList, val T' x = val T x) (l : List Box) :
    ∃ V A', A.s.t = putT T d V ∧ act c op d T' { m with boxes := m.boxes ++ l } = some A' ∧ A'.side ∧ A'.s.t = putT T' d V ∧ A'.s.m = { A.s.m with boxes := A.s.m.boxes ++ l } ∧ A.s.m.boxes.length = m.boxes.length ∧
      (match barBox op T with | some k => A.s.m.rows = m.rows ∧ (∃ b, A.s.m.boxes = setAt m.boxes k b) | none => A.s.m.boxes = m.boxes) := by
  have hsv : ∀ s : Slot, s.sv { m with boxes := m.boxes ++ l } = s.sv m := sv_rows rfl
  unfold act at h
  split at h <;> first | (cases hb; done) | (cases hx; done) | skip
  · rename_i t ax x
    obtain rfl := Option.some.inj h
    have e1 : val T' ax = val T ax := hT ax (by simp [Op.operands])
    have e2 : val T' x = val T x := hT x (by simp [Op.operands])
    simp only [act, e1, e2]
    unfold storeA at hs ⊢
    split at hs
    · rename_i k off hax
      cases hbk : m.boxes[k]? with
      | none => rw [hbk] at hs; exact hs.elim
      | some b =>
        rw [hbk] at hs
        dsimp only at hs ⊢
        have hlt := lt_of_getElem? hbk
        have hput : b.put c t off { m with boxes := m.boxes ++ l } (val T x) = b.put c t off m (val T x) := by simp only [Box.put, hsv]
        have hbs : boxS c t { m with boxes := m.boxes ++ l } (val T x) = boxS c t m (val T x) := by simp only [boxS, hsv]
        refine ⟨.p .dead, _, ?_, rfl, ?_, ?_, ?_, ?_, ?_⟩
        · rfl
        · rw [List.getElem?_append_left hlt, hbk]; dsimp only; rw [hbs]; exact hs
        · rw [List.getElem?_append_left hlt, hbk]
        · rw [List.getElem?_append_left hlt, hbk]; dsimp only; rw [hput, setAt_append _ _ _ _ hlt]
        · exact setAt_length _ _ _
        · simp only [barBox, hax]; exact ⟨trivial, _, rfl⟩
    · rename_i k i off hax
      cases hbk : m.rows[k]? with
      | none => rw [hbk] at hs; exact hs.elim
      | some r =>
        rw [hbk] at hs
        dsimp only at hs ⊢
        simp only [hbk, hsv]
        split at hs
        · rename_i hag
          repeat rw [if_pos hag]
          exact ⟨.p .dead, _, rfl, rfl, hs, rfl, rfl, rfl, by simp only [barBox, hax]⟩
        · rename_i hag
          repeat rw [if_neg hag]
          exact ⟨.p .dead, _, rfl, rfl, hs, rfl, rfl, rfl, by simp only [barBox, hax]⟩
    · exact hs.elim
  · rename_i t lx kx
    obtain rfl := Option.some.inj h
    have e1 : val T' lx = val T lx := hT lx (by simp [Op.operands])
    have e2 : val T' kx = val T kx := hT kx (by simp [Op.operands])
    simp only [act, e1, e2, hsv]
    split at hs
    · exact hs.elim
    · rename_i h3
      repeat rw [if_neg h3]
      unfold makeA at hs ⊢
      split at hs
      · rename_i k1 n k2 cap f1 f2
        exact ⟨.ow m.rows.length, _, rfl, rfl, hs, rfl, rfl, rfl, rfl⟩
      · exact hs.elim
  · rename_i s x t u
    obtain rfl := Option.some.inj h
    have e1 : val T' s = val T s := hT s (by simp [Op.operands, Call.operands])
    have e2 : val T' x = val T x := hT x (by simp [Op.operands, Call.operands])
    simp only [act, e1, e2, hsv]
    split at hs
    · rename_i h3
      repeat rw [if_pos h3]
      unfold appendA at hs ⊢
      split at hs
      · rename_i q n2 k2 g2 f1
        split at hs
        · rename_i f2
          exact ⟨.ow m.rows.length, _, rfl, rfl, hs, rfl, rfl, rfl, rfl⟩
        · rename_i n k e f2
          split at hs
          · rename_i hn
            repeat rw [if_pos hn]
            exact ⟨.ow m.rows.length, _, rfl, rfl, hs, rfl, rfl, rfl, rfl⟩
          · rename_i hn
            repeat rw [if_neg hn]
            exact ⟨_, _, rfl, rfl, hs, rfl, rfl, rfl, rfl⟩
        · rename_i k f2
          cases hr : m.rows[k]? with
          | none => rw [hr] at hs; exact hs.elim
          | some r =>
            rw [hr] at hs
            exact ⟨.ow m.rows.length, _, rfl, rfl, hs, rfl, rfl, rfl, rfl⟩
        · exact hs.elim
      · exact hs.elim
    · exact hs.elim
  · cases h

theorem act_putT {op : Op} {d : Option Tmp} {A : A} (h : act c op d T m = some A) (hs : A.side) : ∃ s, A.s.t = putT T d s := by
  unfold act at h
  split at h
  · obtain rfl := Option.some.inj h; exact ⟨_, rfl⟩
  · obtain rfl := Option.some.inj h; exact ⟨_, rfl⟩
  · obtain rfl := Option.some.inj h
    unfold storeA at hs ⊢
    split at hs
    · split at hs
      · exact ⟨_, rfl⟩
      · exact hs.elim
    · split at hs
      · split <;> exact ⟨_, rfl⟩
      · exact hs.elim
    · exact hs.elim
  · obtain rfl := Option.some.inj h
    split at hs
    · exact hs.elim
    · rename_i h3
      rw [if_neg h3]
      unfold makeA at hs ⊢
      split at hs
      · exact ⟨_, rfl⟩
      · exact hs.elim
  · obtain rfl := Option.some.inj h
    split at hs
    · rename_i h3
      rw [if_pos h3]
      unfold appendA at hs ⊢
      split at hs
      · split at hs
        · exact ⟨_, rfl⟩
        · split <;> exact ⟨_, rfl⟩
        · split at hs
          · exact ⟨_, rfl⟩
          · exact hs.elim
        · exact hs.elim
      · exact hs.elim
    · exact hs.elim
  · cases h

theorem act_bar {op : Op} {d : Option Tmp} {ρ : Operand → Slot} (hb : isBar op = true) (hA : act c op d T m = none) (hs : (ev c op ρ m).side) : False := by
  unfold ev at hs
  split at hs <;> first | exact hs | (cases hb; done) | (simp [isBar] at hb; done)
/-! ### The run in the order of the text -/
structure HardFacts (ops : Array Oper) (U : List (Nat × Nat)) : Prop where
  below : ∀ (j : Nat) (o : Oper), ops[j]? = some o → ∀ i ∈ direct o, i < j
  nobox : ∀ (j : Nat) (o : Oper), ops[j]? = some o → isBox o.op = false
  nog : ∀ (j : Nat) (o : Oper), ops[j]? = some o → isBar o.op = true → o.guard = none
  pair : ∀ (i j : Nat) (x y : Oper), i < j → ops[i]? = some x → ops[j]? = some y → i ∈ predsOf ops j ∨ (x.apart ops y = true ∧ ((isBar x.op = false ∧ isBar y.op = false) ∨ (isBar x.op = true ∧ isBar y.op = false ∧ (j, i) ∈ U) ∨ (isBar x.op = false ∧ isBar y.op = true ∧ (i, j) ∈ U)))

theorem hardFacts {ops : Array Oper} {U : List (Nat × Nat)} (h : hardOK ops U = true) : HardFacts ops U := by
  unfold hardOK at h
  rw [List.all_eq_true] at h
  have get : ∀ j o, ops[j]? = some o → ((direct o).all (· < j) && (match o.op with | .select .. => false | _ => true) && !isBox o.op && (!isBar o.op || o.guard.isNone) && (List.range j).all fun i => match ops[i]? with
      | none => true
      | some x => ((preds ops.toList []).getD j []).contains i || (x.apart ops o && (if isBar x.op then !isBar o.op && U.contains (j, i) else !isBar o.op || U.contains (i, j)))) = true := fun j o ho => by
    have := h j (List.mem_range.2 (Array.getElem?_eq_some_iff.1 ho).1)
    rw [ho] at this
    exact this
  refine ⟨fun j o ho i hi => ?_, fun j o ho => ?_, fun j o ho hb => ?_, fun i j x y hij hx hy => ?_⟩
  · have := get j o ho
    simp only [Bool.and_eq_true] at this
    have := List.all_eq_true.1 this.1.1.1.1 i hi
    simpa using this
  · have := get j o ho
    simp only [Bool.and_eq_true] at this
    simpa using this.1.1.2
  · have := get j o ho
    simp only [Bool.and_eq_true] at this
    simpa [hb] using this.1.2
  · have := get j y hy
    simp only [Bool.and_eq_true] at this
    have := List.all_eq_true.1 this.2 i (List.mem_range.2 hij)
    rw [hx] at this
    simp only [Bool.or_eq_true, Bool.and_eq_true] at this
    rcases this with h | ⟨h1, h2⟩
    · exact .inl (by simpa [predsOf] using h)
    · refine .inr ⟨h1, ?_⟩
      split at h2
      · rename_i hb
        simp only [Bool.and_eq_true, Bool.not_eq_true', List.contains_iff_mem] at h2
        exact .inr (.inl ⟨hb, h2.1, h2.2⟩)
      · rename_i hb
        have hb' : isBar x.op = false := by simpa using hb
        simp only [Bool.or_eq_true, Bool.not_eq_true', List.contains_iff_mem] at h2
        by_cases hy' : isBar y.op = true
        · exact .inr (.inr ⟨hb', hy', h2.resolve_left (by simp [hy'])⟩)
        · exact .inl ⟨hb', by simpa using hy'⟩

/-- How the operation 'j' fares. -/
structure HStep (c : Cfg) (ops : Array Oper) (U : List (Nat × Nat)) (Tt : Nat → Nat → Slot) (Mt : Nat → Mem) (V : Nat → Slot) (j : Nat) (o : Oper) : Prop where
  at_ : ops[j]? = some o
  next : Tt (j + 1) = putT (Tt j) o.dst (V j)
  kind : (isBar o.op = false ∧ StepAt c ops o (Tt j) (Mt j) (V j) ∧ Mt (j + 1) = Mt j ∧ (∀ t, o.op ≠ .alloc t)) ∨
    (∃ t, o.guard = none ∧ o.op = .alloc t ∧ ((c.ti t).zero.good = true ∧ (c.ti t).zero.size = (c.ti t).size) ∧ V j = .bx (Mt j).boxes.length 0 ∧ Mt (j + 1) = { Mt j with boxes := (Mt j).boxes ++ [⟨(c.ti t).size, fun i => .p ((c.ti t).zero.cell i)⟩] }) ∨
    (isBar o.op = true ∧ o.guard = none ∧ ∃ A, act c o.op o.dst (Tt j) (Mt j) = some A ∧ A.side ∧ A.s = ⟨Tt (j + 1), Mt (j + 1)⟩)
  late : isBar o.op = true → ∀ q x, q < j → (q, j) ∈ U → ops[q]? = some x → indep c x.op (Tt q) (V q) o.op (Tt j) = true
  early : isBar o.op = false → ∀ q x, q < j → (j, q) ∈ U → ops[q]? = some x → indep c o.op (Tt j) (V j) x.op (Tt q) = true

theorem chkU_spec {ops : Array Oper} {i : Nat} {hT : Nat → Nat → Slot} {hV : Nat → Slot} {v : Slot} : ∀ (U : List (Nat × Nat)), chkU c ops U i hT hV T v →
    (∀ q, q < i → (q, i) ∈ U → indep c (opAt ops q) (hT q) (hV q) (opAt ops i) T = true) ∧ ∀ j, j < i → (i, j) ∈ U → indep c (opAt ops i) T v (opAt ops j) (hT j) = true
  | [], _ => ⟨fun _ _ h => (by cases h), fun _ _ h => (by cases h)⟩
  | (q, j) :: r, h => by
    obtain ⟨h1, h2⟩ := h
    obtain ⟨g1, g2⟩ := chkU_spec r h2
    refine ⟨fun q' hq hm => ?_, fun j' hj hm => ?_⟩
    · rcases List.mem_cons.1 hm with e | hm
      · simp only [Prod.mk.injEq] at e
        obtain ⟨rfl, rfl⟩ := e
        rw [if_pos rfl, if_pos hq] at h1
        exact h1
      · exact g1 q' hq hm
    · rcases List.mem_cons.1 hm with e | hm
      · simp only [Prod.mk.injEq] at e
        obtain ⟨rfl, rfl⟩ := e
        rw [if_neg (by omega), if_pos rfl, if_pos hj] at h1
        exact h1
      · exact g2 j' hj hm

theorem opAt_eq {ops : Array Oper} {i : Nat} (h : ops[i]? = some o) : opAt ops i = o.op := by simp [opAt, h]

/-- What the run in the order of the text leaves. -/
theorem trace {ops : Array Oper} {U : List (Nat × Nat)} (hf : HardFacts ops U) {K : St → Prop} : ∀ (l : List Oper) (i : Nat) (hT : Nat → Nat → Slot) (hV : Nat → Slot) (T : Nat → Slot) (m : Mem), (∀ j, l[j]? = ops[i + j]?) → runH c ops U K l i hT hV T m →
    ∃ Tt Mt V, (∀ j, j < i → Tt j = hT j ∧ V j = hV j) ∧ Tt i = T ∧ Mt i = m ∧ (∀ j o, i ≤ j → ops[j]? = some o → HStep c ops U Tt Mt V j o) ∧ K ⟨Tt (i + l.length), Mt (i + l.length)⟩
  | [], i, hT, hV, T, m, hl, h => ⟨fun j => if j < i then hT j else T, fun _ => m, hV, fun j hj => ⟨by simp [hj], rfl⟩, by simp, rfl, fun j o hj ho => by
      have := hl (j - i)
      rw [show i + (j - i) = j by omega, ho] at this
      simp at this, by simpa [runH] using h⟩
  | o :: l, i, hT, hV, T, m, hl, h => by
    have h0 : ops[i]? = some o := by simpa using (hl 0).symm
    have hl' : ∀ j, l[j]? = ops[i + 1 + j]? := fun j => by have := hl (j + 1); simpa [Nat.add_assoc, Nat.add_comm 1 j] using this
    have cons : ∀ (v : Slot) (T' : Nat → Slot) (m' : Mem), T' = putT T o.dst v → chkU c ops U i hT hV T v →
        ((isBar o.op = false ∧ StepAt c ops o T m v ∧ m' = m ∧ (∀ t, o.op ≠ .alloc t)) ∨
         (∃ t, o.guard = none ∧ o.op = .alloc t ∧ ((c.ti t).zero.good = true ∧ (c.ti t).zero.size = (c.ti t).size) ∧ v = .bx m.boxes.length 0 ∧ m' = { m with boxes := m.boxes ++ [⟨(c.ti t).size, fun i => .p ((c.ti t).zero.cell i)⟩] })) →
        runH c ops U K l (i + 1) (upd hT i T) (upd hV i v) T' m' →
        ∃ Tt Mt V, (∀ j, j < i → Tt j = hT j ∧ V j = hV j) ∧ Tt i = T ∧ Mt i = m ∧ (∀ j o, i ≤ j → ops[j]? = some o → HStep c ops U Tt Mt V j o) ∧ K ⟨Tt (i + (o :: l).length), Mt (i + (o :: l).length)⟩ := by
      intro v T' m' hT' hchk hst hr
      obtain ⟨Tt, Mt, V, g1, g2, g3, g4, g5⟩ := trace hf l (i + 1) _ _ _ _ hl' hr
      have eT : Tt i = T := by rw [(g1 i (by omega)).1]; simp [upd]
      have eV : V i = v := by rw [(g1 i (by omega)).2]; simp [upd]
      have old : ∀ j, j < i → Tt j = hT j ∧ V j = hV j := fun j hj => by
        have := g1 j (by omega)
        simpa [upd, show ¬ j = i by omega] using this
      refine ⟨Tt, fun j => if j = i then m else Mt j, V, old, eT, by simp, fun j oj hj hoj => ?_, ?_⟩
      · by_cases hji : j = i
        · subst hji
          rw [h0] at hoj
          obtain rfl := Option.some.inj hoj
          obtain ⟨c1, c2⟩ := chkU_spec U hchk
          have nb : isBar o.op = false := by
            rcases hst with h | ⟨t, _, h, _⟩
            · exact h.1
            · rw [h]; rfl
          refine ⟨h0, by rw [g2, eT, eV, hT'], ?_, fun hb => (by rw [nb] at hb; cases hb), fun _ q x hq hm hx => ?_⟩
          · have e1 : ¬ j + 1 = j := by omega
            simp only [if_true, e1, if_false, eT, eV, g3]
            rcases hst with h | h
            · exact .inl h
            · exact .inr (.inl h)
          · have := c2 q hq hm
            rw [opAt_eq h0, opAt_eq hx] at this
            rw [eT, eV, (old q hq).1]; exact this
        · have := g4 j oj (by omega) hoj
          refine ⟨hoj, this.next, ?_, this.late, this.early⟩
          have e2 : ¬ j + 1 = i := by omega
          simp only [hji, e2, if_false]
          exact this.kind
      · have e : ¬ i + (o :: l).length = i := by simp
        simp only [e, if_false]
        rw [show i + (o :: l).length = i + 1 + l.length by simp; omega]
        exact g5
    unfold runH at h
    split at h
    · rename_i hg
      split at h
      · rename_i A hA
        obtain ⟨hs, hchk, hr⟩ := h
        by_cases hb : isBar o.op = true
        · obtain ⟨Tt, Mt, V, g1, g2, g3, g4, g5⟩ := trace hf l (i + 1) _ _ _ _ hl' hr
          obtain ⟨v, hv⟩ := act_putT hA hs
          have eT : Tt i = T := by rw [(g1 i (by omega)).1]; simp [upd]
          have old : ∀ j, j < i → Tt j = hT j ∧ V j = hV j := fun j hj => by
            have := g1 j (by omega)
            simpa [upd, show ¬ j = i by omega] using this
          obtain ⟨c1, c2⟩ := chkU_spec U hchk
          refine ⟨Tt, fun j => if j = i then m else Mt j, fun j => if j = i then v else V j, fun j hj => (by simpa [show ¬ j = i by omega] using old j hj), eT, by simp, fun j oj hj hoj => ?_, ?_⟩
          · by_cases hji : j = i
            · subst hji
              rw [h0] at hoj
              obtain rfl := Option.some.inj hoj
              have e1 : ¬ j + 1 = j := by omega
              refine ⟨h0, by simp only [if_true]; rw [g2, eT, hv], .inr (.inr ⟨hb, hg, A, ?_, hs, ?_⟩), fun _ q x hq hm hx => ?_, fun hnb => (by rw [hb] at hnb; cases hnb)⟩
              · simp only [if_true, eT]; exact hA
              · simp only [e1, if_false, g2, g3]
              · have := c1 q hq hm
                rw [opAt_eq h0, opAt_eq hx] at this
                have e2 : ¬ q = j := by omega
                simp only [e2, if_false, eT, (old q hq).1, (old q hq).2]
                exact this
            · have := g4 j oj (by omega) hoj
              have e2 : ¬ j + 1 = i := by omega
              refine ⟨hoj, by simp only [hji, if_false]; exact this.next, ?_, fun hb' q x hq hm hx => ?_, fun hb' q x hq hm hx => ?_⟩
              · simp only [hji, e2, if_false]; exact this.kind
              · by_cases hqi : q = i
                · subst hqi
                  have hnb : isBar x.op = false ∨ isBar x.op = true := by cases isBar x.op <;> simp
                  -- the pair (a write, a write) is never asked of
                  simp only [if_true]
                  have := this.late hb' q x hq hm hx
                  rw [h0] at hx
                  obtain rfl := Option.some.inj hx
                  unfold indep at this ⊢
                  split
                  · rename_i k hk
                    rw [hk] at this
                    dsimp only at this
                    unfold opBox at this ⊢
                    cases hop : o.op <;> rw [hop] at hb this <;> first | (cases hb; done) | exact this | rfl
                  · rename_i hk
                    rw [hk] at this
                    exact this
                · simp only [hqi, if_false]; exact this.late hb' q x hq hm hx
              · simp only [hji, if_false]; exact this.early hb' q x hq hm hx
          · have e : ¬ i + (o :: l).length = i := by simp
            simp only [e, if_false]
            rw [show i + (o :: l).length = i + 1 + l.length by simp; omega]
            exact g5
        · have hb' : isBar o.op = false := by simpa using hb
          obtain ⟨t, ht, rfl⟩ := act_alloc hb' hA
          exact cons (.bx m.boxes.length 0) _ _ rfl hchk (.inr ⟨t, hg, ht, hs, rfl, rfl⟩) hr
      · rename_i hA
        by_cases hb : isBar o.op = true
        · exact (act_bar hb hA h.1).elim
        · have hb' : isBar o.op = false := by simpa using hb
          refine cons _ _ m rfl h.2.1 (.inl ⟨hb', .inl ⟨hg, h.1, rfl⟩, rfl, fun t ht => ?_⟩) h.2.2
          rw [ht] at hA
          cases hA
    · rename_i j want hg
      split at h
      · exact h.elim
      · rename_i d hj
        split at h
        · exact h.elim
        · rename_i g hw
          obtain ⟨h1, h2, h3, h4, h5⟩ := h
          have hA : act c o.op o.dst T m = none := by simpa using h2
          have hb' : isBar o.op = false := by
            cases hb : isBar o.op with
            | false => rfl
            | true => rw [hf.nog i o h0 hb] at hg; cases hg
          refine cons _ _ m rfl h4 (.inl ⟨hb', .inr ⟨j, want, d, g, hg, hj, hw, h1, _, rfl, fun hg' => ⟨h3 hg', rfl⟩⟩, rfl, fun t ht => ?_⟩) h5
          rw [ht] at hA
          cases hA

/-! ### Every order -/
def Zl (c : Cfg) : List Oper → List Box
  | [] => []
  | o :: r => match o.op with
    | .alloc t => ⟨(c.ti t).size, fun i => .p ((c.ti t).zero.cell i)⟩ :: Zl c r
    | _ => Zl c r
def memF (c : Cfg) (ops : Array Oper) (Mt : Nat → Mem) (j : Nat) : Mem := { Mt j with boxes := (Mt j).boxes ++ Zl c (ops.toList.drop j) }

theorem drop_at {ops : Array Oper} {j : Nat} (h : ops[j]? = some o) : ops.toList.drop j = o :: ops.toList.drop (j + 1) := by
  have hlt : j < ops.toList.length := by simpa using (Array.getElem?_eq_some_iff.1 h).1
  rw [List.drop_eq_getElem_cons hlt]
  congr 1
  have : ops.toList[j]? = some o := by simpa using h
  rw [List.getElem?_eq_getElem hlt] at this
  exact Option.some.inj this

theorem Zl_at {ops : Array Oper} {j : Nat} (h : ops[j]? = some o) : Zl c (ops.toList.drop j) = match o.op with
    | .alloc t => ⟨(c.ti t).size, fun i => .p ((c.ti t).zero.cell i)⟩ :: Zl c (ops.toList.drop (j + 1))
    | _ => Zl c (ops.toList.drop (j + 1)) := by
  rw [drop_at h]; rfl
theorem Zl_no {ops : Array Oper} {j : Nat} (h : ops[j]? = some o) (hn : ∀ t, o.op ≠ .alloc t) : Zl c (ops.toList.drop j) = Zl c (ops.toList.drop (j + 1)) := by
  rw [Zl_at h]
  split
  · rename_i t e; exact absurd e (hn t)
  · rfl
theorem bar_no {op : Op} (h : isBar op = true) : ∀ t, op ≠ .alloc t := by
  rintro t rfl; cases h

section
variable {ops : Array Oper} {U : List (Nat × Nat)} {Tt : Nat → Nat → Slot} {Mt : Nat → Mem} {V : Nat → Slot}

theorem memF_quiet {j : Nat} (h : HStep c ops U Tt Mt V j o) (hb : isBar o.op = false) : memF c ops Mt (j + 1) = memF c ops Mt j := by
  rcases h.kind with ⟨_, _, h2, h3⟩ | ⟨t, _, h2, _, _, h3⟩ | ⟨h1, _⟩
  · unfold memF; rw [Zl_no h.at_ h3, h2]
  · unfold memF; rw [Zl_at h.at_, h2, h3]; simp
  · rw [hb] at h1; cases h1

/-- What a write does to the whole memory. -/
theorem memF_bar {j : Nat} (hf : HardFacts ops U) (h : HStep c ops U Tt Mt V j o) (hb : isBar o.op = true) :
    (memF c ops Mt (j + 1)).boxes.length = (memF c ops Mt j).boxes.length ∧ (Mt (j + 1)).boxes.length = (Mt j).boxes.length ∧
    match barBox o.op (Tt j) with
    | some k => (memF c ops Mt (j + 1)).rows = (memF c ops Mt j).rows ∧ ∀ q, q ≠ k → (memF c ops Mt (j + 1)).boxes[q]? = (memF c ops Mt j).boxes[q]?
    | none => (memF c ops Mt (j + 1)).boxes = (memF c ops Mt j).boxes := by
  rcases h.kind with ⟨h1, _⟩ | ⟨t, _, h2, _⟩ | ⟨_, _, A, h1, h2, h3⟩
  · rw [hb] at h1; cases h1
  · rw [h2] at hb; cases hb
  · obtain ⟨_, _, _, _, _, _, _, e1, e2⟩ := act_at h1 h2 hb (hf.nobox j o h.at_) (fun _ _ => rfl) []
    rw [h3] at e1 e2
    dsimp only at e1 e2
    have ez := Zl_no (c := c) h.at_ (bar_no hb)
    refine ⟨by simp [memF, ez, e1], e1, ?_⟩
    split
    · rename_i k hk
      rw [hk] at e2
      obtain ⟨e2, b, e3⟩ := e2
      refine ⟨e2, fun q hq => ?_⟩
      unfold memF
      dsimp only
      rw [ez, e3]
      by_cases hql : q < (Mt j).boxes.length
      · rw [List.getElem?_append_left (by rw [setAt_length]; exact hql), List.getElem?_append_left hql, setAt_get, if_neg (fun h => hq h.1)]
      · rw [List.getElem?_append_right (by rw [setAt_length]; omega), List.getElem?_append_right (by omega), setAt_length]
    · rename_i hk
      rw [hk] at e2
      unfold memF
      dsimp only at e2 ⊢
      rw [ez, e2]

theorem stripH_bx {s : Slot} {k off : Nat} (h : s = .bx k off) : s.strip = .bx k off := by rw [h]; rfl

theorem indep_ev {x : Op} {Ti Tj : Nat → Slot} {vi : Slot} {oj : Op} {m m' : Mem} (h : indep c x Ti vi oj Tj = true)
    (hr : match barBox oj Tj with | some k => m'.rows = m.rows ∧ ∀ q, q ≠ k → m'.boxes[q]? = m.boxes[q]? | none => m'.boxes = m.boxes) : ev c x (val Ti) m' = ev c x (val Ti) m ∧ evG c x Ti m' = evG c x Ti m := by
  unfold indep at h
  split at h
  · rename_i k hk
    rw [hk] at hr
    have hne : ∀ q, opBox x Ti vi = some q → q ≠ k := fun q hq e => by
      rw [hq, e] at h; simp at h
    refine ⟨ev_boxes hr.1 _ _ fun t y q off e1 e2 => hr.2 q (hne q ?_), ev_boxes hr.1 _ _ fun t y q off e1 e2 => hr.2 q (hne q ?_)⟩
    · rw [e1]; simp only [opBox]; rw [stripH_bx e2]
    · subst e1
      simp only [isPick, Bool.false_eq_true, if_false] at e2
      simp only [opBox, e2]
  · rename_i hk
    rw [hk] at hr
    dsimp only at hr
    have go : (∀ y ∈ opl x, pureS (val Ti y) = true) → (∀ t y, x = .load t y → False) → ev c x (val Ti) m' = ev c x (val Ti) m ∧ evG c x Ti m' = evG c x Ti m := fun h1 h2 =>
      ⟨ev_rows hr _ _ h1 (fun t y e _ => (h2 t y e).elim), ev_rows hr _ _ (fun y hy => by
        split
        · exact h1 y hy
        · exact strip_pure (h1 y hy)) (fun t y e _ => (h2 t y e).elim)⟩
    cases x <;> first
      | exact ⟨rfl, rfl⟩
      | (refine go (fun y hy => ?_) (fun t y e => by cases e); simp only [rowFree, List.all_eq_true] at h; exact h y hy)
      | skip
    rename_i t y
    simp only [rowFree] at h
    simp only [ev, evG, isPick, Bool.false_eq_true, if_false]
    split at h
    · rename_i k off e
      have hag : (c.ti t).isAgg = false := by simpa using h
      refine ⟨?_, by rw [e]; simp [evLoad, hr, hag]⟩
      unfold evLoad
      split <;> first | rfl | (simp [hr, hag]; done) | skip
      rename_i e2
      rw [e2] at e; cases e
    · rename_i v e
      refine ⟨?_, by rw [e]; cases v <;> rfl⟩
      unfold evLoad
      split <;> first | rfl | skip
      · rename_i e2; rw [e2] at e; cases e
      · rename_i e2; rw [e2] at e; cases e
    · cases h

theorem StepAt.same {x : Oper} {Ti : Nat → Slot} {vi : Slot} {m m' : Mem} (h1 : ev c x.op (val Ti) m' = ev c x.op (val Ti) m) (h2 : evG c x.op Ti m' = evG c x.op Ti m) : StepAt c ops x Ti m' vi ↔ StepAt c ops x Ti m vi := by
  unfold StepAt
  rw [h1, h2]

theorem chain_iff {p : Nat → Prop} {a b : Nat} (hab : a ≤ b) (h : ∀ t, a ≤ t → t < b → (p t ↔ p (t + 1))) : p a ↔ p b := by
  induction b with
  | zero => obtain rfl : a = 0 := by omega
            exact Iff.rfl
  | succ b ih =>
    by_cases e : a = b + 1
    · subst e; exact Iff.rfl
    · exact (ih (by omega) fun t h1 h2 => h t h1 (by omega)).trans (h b (by omega) (by omega))

theorem len_mono (hf : HardFacts ops U) (hst : ∀ j o, ops[j]? = some o → HStep c ops U Tt Mt V j o) {i j : Nat} (hij : i ≤ j) (hj : j ≤ ops.size) : (Mt i).boxes.length ≤ (Mt j).boxes.length := by
  induction j with
  | zero => obtain rfl : i = 0 := by omega
            exact Nat.le_refl _
  | succ j ih =>
    by_cases e : i = j + 1
    · subst e; exact Nat.le_refl _
    · have h1 := ih (by omega) (by omega)
      have hs := hst j ops[j] (Array.getElem?_eq_getElem (by omega))
      rcases hs.kind with ⟨_, _, h2, _⟩ | ⟨t, _, _, _, _, h2⟩ | ⟨hb, _⟩
      · rw [h2]; exact h1
      · rw [h2]; simp; omega
      · rw [(memF_bar hf hs hb).2.1]; exact h1

theorem Tt_valS (hst : ∀ j o, ops[j]? = some o → HStep c ops U Tt Mt V j o) : ∀ j, j ≤ ops.size → Tt j = valS ops V all1 (Tt 0) 0 j
  | 0, _ => rfl
  | j + 1, hj => by
    have h0 : ops[j]? = some ops[j] := Array.getElem?_eq_getElem (by omega)
    have hs := hst j _ h0
    rw [hs.next, Tt_valS hst j (by omega)]
    funext d
    rw [valS, putT_at]
    have hd : dstAt ops j = ops[j].dst := by simp [dstAt, h0]
    simp only [Nat.zero_add, all1, true_and, hd]

theorem box_cover (hf : HardFacts ops U) (hst : ∀ j o, ops[j]? = some o → HStep c ops U Tt Mt V j o) : ∀ n, n ≤ ops.size → ∀ k, (Mt 0).boxes.length ≤ k → k < (Mt n).boxes.length → ∃ j o, j < n ∧ ops[j]? = some o ∧ (∃ t, o.op = .alloc t) ∧ V j = .bx k 0
  | 0, _, k, h1, h2 => by omega
  | n + 1, hn, k, h1, h2 => by
    have h0 : ops[n]? = some ops[n] := Array.getElem?_eq_getElem (by omega)
    have hs := hst n _ h0
    have old : k < (Mt n).boxes.length → ∃ j o, j < n + 1 ∧ ops[j]? = some o ∧ (∃ t, o.op = .alloc t) ∧ V j = .bx k 0 := fun hk => by
      obtain ⟨j, o, g1, g2⟩ := box_cover hf hst n (by omega) k h1 hk
      exact ⟨j, o, by omega, g2⟩
    rcases hs.kind with ⟨_, _, e, _⟩ | ⟨t, _, e1, _, e2, e⟩ | ⟨hb, _⟩
    · rw [e] at h2; exact old h2
    · by_cases hk : k < (Mt n).boxes.length
      · exact old hk
      · rw [e] at h2
        simp only [List.length_append, List.length_singleton] at h2
        exact ⟨n, _, by omega, h0, ⟨t, e1⟩, by rw [e2]; congr 1; omega⟩
    · rw [(memF_bar hf hs hb).2.1] at h2; exact old h2

/-- Where such a region stands. -/
structure InvH (P : Program) (w0 : World) (fz0 : Nat → Nat → Prop) (c : Cfg) (ops : Array Oper) (Tt : Nat → Nat → Slot) (Mt : Nat → Mem) (V : Nat → Slot) (N : Nat) (listed : Array Bool) (a : Act) (w : World) (q : Nat) (fz : Nat → Nat → Prop) (φ : Own) : Prop where
  size : listed.size = ops.size
  closed : Closed ops fun j => listed.getD j false
  qlt : ∀ j o, ops[j]? = some o → isBar o.op = true → listed.getD j false = true → j < q
  qge : ∀ j o, ops[j]? = some o → isBar o.op = true → j < q → listed.getD j false = true
  qle : q ≤ ops.size
  rs : RS P w0 fz0 w fz φ (valS ops V (fun j => listed.getD j false) (Tt 0) 0 ops.size) (memF c ops Mt q) a
  bok : ∀ k, φ.bok k ↔ k < (Mt 0).boxes.length ∨ ∃ j o, ops[j]? = some o ∧ listed.getD j false = true ∧ (∃ t, o.op = .alloc t) ∧ V j = .bx k 0
  df : a.defers = []
  sz : a.tmps.size = N

theorem hard_go (hc : c.ti = TI.of P) (hs : Know P w0 c) (hf : HardFacts ops U) (hst : ∀ j o, ops[j]? = some o → HStep c ops U Tt Mt V j o) {N : Nat} (hN : ∀ (i : Nat) (o : Oper) (d : Tmp), ops[i]? = some o → o.dst = some d → d < N) {Q : Exit → Act → World → Prop}
    (hK : ∀ a w, Nxt P w0 fz0 N (Tt ops.size) (Mt ops.size) a w → Q .normal a w) :
    ∀ (fuel : Nat) (listed : Array Bool) (a : Act) (w : World) (q : Nat) (fz : Nat → Nat → Prop) (φ : Own), InvH P w0 fz0 c ops Tt Mt V N listed a w q fz φ → left ops listed = fuel → wpAny P .any ops Q fuel listed a w := by
  have done : ∀ (listed : Array Bool) (a : Act) (w : World) (q : Nat) (fz : Nat → Nat → Prop) (φ : Own), InvH P w0 fz0 c ops Tt Mt V N listed a w q fz φ → (∀ j, j < ops.size → listed.getD j false = true) → Q .normal a w := by
    intro listed a w q fz φ h hall
    refine hK _ _ ⟨fz, φ, ?_, fun k hk => ?_, h.df, h.sz⟩
    · have e1 : memF c ops Mt q = Mt ops.size := by
        have : memF c ops Mt q = memF c ops Mt ops.size := by
          have := (chain_iff (p := fun t => memF c ops Mt q = memF c ops Mt t) h.qle (fun t h1 h2 => by
            have h0 : ops[t]? = some ops[t] := Array.getElem?_eq_getElem (by omega)
            cases hb : isBar ops[t].op with
            | false => rw [memF_quiet (hst t _ h0) hb]
            | true => have := h.qlt t _ h0 hb (hall t (by omega)); omega)).1 rfl
          exact this
        rw [this]
        unfold memF
        rw [List.drop_eq_nil_of_le (by simp)]
        simp [Zl]
      have e2 : valS ops V (fun j => listed.getD j false) (Tt 0) 0 ops.size = Tt ops.size := by
        rw [Tt_valS hst ops.size (Nat.le_refl _)]
        exact valS_congr _ fun j _ hj => hall j (by omega)
      have := h.rs
      rwa [e1, e2] at this
    · rw [h.bok]
      by_cases hk0 : k < (Mt 0).boxes.length
      · exact .inl hk0
      · obtain ⟨j, o, g1, g2, g3, g4⟩ := box_cover hf hst ops.size (Nat.le_refl _) k (by omega) hk
        exact .inr ⟨j, o, g2, hall j g1, g3, g4⟩
  intro fuel
  induction fuel with
  | zero =>
    intro listed a w q fz φ h hfu
    refine ⟨?_, done _ _ _ _ _ _ h (left_zero hfu)⟩
    rw [List.eq_nil_iff_forall_not_mem]
    intro i hi
    obtain ⟨h1, o, ho, _⟩ := mem_ready.1 hi
    have hlt := (Array.getElem?_eq_some_iff.1 ho).1
    rw [getD_dflt (by rw [h.size]; exact hlt), left_zero hfu i hlt] at h1
    cases h1
  | succ fuel ih =>
    intro listed a w q fz φ h hfu
    refine ⟨fun hr => done _ _ _ _ _ _ h (fun j hj => ?_), fun i hi => ?_⟩
    · -- all have come up
      induction j using Nat.strongRecOn with
      | _ j ihj =>
        cases hl : listed.getD j false with
        | true => rfl
        | false =>
          have : j ∈ Region.ready .any ops listed := by
            rw [mem_ready]
            refine ⟨by rw [getD_dflt (by rw [h.size]; exact hj)]; exact hl, ops[j], Array.getElem?_eq_getElem hj, fun e he hb => ?_⟩
            have hd : e.on ∈ direct ops[j] := List.mem_filterMap.2 ⟨e, Array.mem_toList_iff.2 he, by rw [if_pos hb]⟩
            have := hf.below j _ (Array.getElem?_eq_getElem hj) _ hd
            exact ihj _ this (by omega)
          rw [hr] at this
          cases this
    obtain ⟨h1, o, ho, hpre⟩ := mem_ready.1 hi
    have hlt := (Array.getElem?_eq_some_iff.1 ho).1
    rw [getD_dflt (by rw [h.size]; exact hlt)] at h1
    have hdir : ∀ p ∈ direct o, listed.getD p false = true := fun p hp => by
      obtain ⟨e, he, hep⟩ := List.mem_filterMap.1 hp
      split at hep
      · rename_i hb
        obtain rfl := Option.some.inj hep
        exact hpre e (Array.mem_toList_iff.1 he) hb
      · cases hep
    have hpo := predsOf_spec h.closed ho hdir
    have hS' : ∀ j, (listed.setIfInBounds i true).getD j false = (listed.getD j false || j == i) := fun j => getD_set (by rw [h.size]; exact hlt)
    have hcl' : Closed ops fun j => (listed.setIfInBounds i true).getD j false := by
      intro j oj hoj hj p hp
      simp only [hS', Bool.or_eq_true, beq_iff_eq] at hj ⊢
      rcases hj with hj | rfl
      · exact .inl (h.closed j oj hoj hj p hp)
      · rw [ho] at hoj
        obtain rfl := Option.some.inj hoj
        exact .inl (hdir p hp)
    have hleft := left_set h.size hlt h1
    have noti : ∀ j oj, ops[j]? = some oj → listed.getD j false = true → i ∉ predsOf ops j := fun j oj hoj hj hp => by
      have := predsOf_spec h.closed hoj (h.closed j oj hoj hj) i hp
      rw [h1] at this; cases this
    have agree : ∀ d ∈ o.looksAt ops, Tt i d = valS ops V (fun j => listed.getD j false) (Tt 0) 0 ops.size d := by
      intro d hd
      rw [valS_agree (i := i) ops.size (fun j g1 g2 g3 g4 => ?_) (fun j g1 g2 g4 => ?_) (Nat.zero_le _), show min ops.size (i - 0) = i by omega, Tt_valS hst i (by omega)]
      · have hoj : ops[j]? = some ops[j] := Array.getElem?_eq_getElem (by omega)
        rcases hf.pair j i _ o g3 hoj ho with hp | ⟨hap, _⟩
        · exact hpo j hp
        · have hdst : ops[j].dst = some d := by simpa [dstAt, hoj] using g4
          exact absurd hd ((Oper.apart_spec hap).1 d hdst)
      · by_cases hji : j = i
        · subst hji; exact h1
        · have hoj : ops[j]? = some ops[j] := Array.getElem?_eq_getElem (by omega)
          cases hlj : listed.getD j false with
          | false => rfl
          | true =>
            rcases hf.pair i j o _ (by omega) ho hoj with hp | ⟨hap, _⟩
            · exact absurd hp (noti j _ hoj hlj)
            · have hdst : ops[j].dst = some d := by simpa [dstAt, hoj] using g4
              exact absurd hd ((Oper.apart_spec hap).2.2 d hdst)
    have hset : valS ops V (fun j => (listed.setIfInBounds i true).getD j false) (Tt 0) 0 ops.size = putT (valS ops V (fun j => listed.getD j false) (Tt 0) 0 ops.size) o.dst (V i) := by
      have e : (fun j => (listed.setIfInBounds i true).getD j false) = fun j => ((fun j => listed.getD j false) j || j == i) := funext hS'
      rw [e, valS_set (i := i) (Nat.zero_le _) h1 ops.size (fun j d g1 g2 g3 g4 => ?_), if_pos (by omega)]
      · simp [dstAt, ho]
      · have hoj : ops[j]? = some ops[j] := Array.getElem?_eq_getElem (by omega)
        cases hlj : listed.getD j false with
        | false => rfl
        | true =>
          rcases hf.pair i j o _ (by omega) ho hoj with hp | ⟨hap, _⟩
          · exact absurd hp (noti j _ hoj hlj)
          · have hd1 : o.dst = some d := by simpa [dstAt, ho] using g3
            have hd2 : ops[j].dst = some d := by simpa [dstAt, hoj] using g4
            exact absurd hd2 ((Oper.apart_spec hap).2.1 d hd1)
    have hd : ∀ d, o.dst = some d → d < a.tmps.size := fun d hd => by rw [h.sz]; exact hN i o d ho hd
    have hsi := hst i o ho
    have hq : q ≤ ops.size := h.qle
    -- what a quiet operation meets does not hang on the writes whose order is open
    have trans : isBar o.op = false → ∀ (p : Mem → Prop), (∀ t ot, ops[t]? = some ot → isBar ot.op = true → indep c o.op (Tt i) (V i) ot.op (Tt t) = true → (p (memF c ops Mt t) ↔ p (memF c ops Mt (t + 1)))) → p (memF c ops Mt i) → p (memF c ops Mt q) := by
      intro hnb p hp hpi
      by_cases hqi : q ≤ i
      · refine (chain_iff (p := fun t => p (memF c ops Mt t)) hqi fun t g1 g2 => ?_).2 hpi
        have hot : ops[t]? = some ops[t] := Array.getElem?_eq_getElem (by omega)
        cases hb : isBar ops[t].op with
        | false => rw [memF_quiet (hst t _ hot) hb]
        | true =>
          refine hp t _ hot hb ?_
          rcases hf.pair t i _ o g2 hot ho with hpr | ⟨_, ⟨e, _⟩ | ⟨_, _, hm⟩ | ⟨e, _⟩⟩
          · have := h.qlt t _ hot hb (hpo t hpr); omega
          · rw [hb] at e; cases e
          · exact hsi.early hnb t _ g2 hm hot
          · rw [hb] at e; cases e
      · refine (chain_iff (p := fun t => p (memF c ops Mt t)) (Nat.le_of_lt (Nat.lt_of_not_le hqi)) fun t g1 g2 => ?_).1 hpi
        have hot : ops[t]? = some ops[t] := Array.getElem?_eq_getElem (by omega)
        cases hb : isBar ops[t].op with
        | false => rw [memF_quiet (hst t _ hot) hb]
        | true =>
          refine hp t _ hot hb ?_
          have hlt' := h.qge t _ hot hb g2
          have hit : i < t := by
            rcases Nat.lt_or_ge i t with h' | h'
            · exact h'
            · obtain rfl : t = i := by omega
              rw [h1] at hlt'; cases hlt'
          rcases hf.pair i t o _ hit ho hot with hpr | ⟨_, ⟨_, e⟩ | ⟨e, _⟩ | ⟨_, _, hm⟩⟩
          · exact absurd hpr (noti t _ hot hlt')
          · rw [hb] at e; cases e
          · rw [hnb] at e; cases e
          · exact (hst t _ hot).late hb i o hit hm ho
    unfold wpOp
    simp only [ho]
    rcases hsi.kind with ⟨hnb, hstep, _, hna⟩ | ⟨t, hg, hop, hz, hV, _⟩ | ⟨hb, hg, A, hA, hside, hAs⟩
    · have hstep' : StepAt c ops o (Tt i) (memF c ops Mt q) (V i) := by
        refine trans hnb (fun m => StepAt c ops o (Tt i) m (V i)) (fun t ot hot hb hind => ?_) (hstep.mono _)
        have := indep_ev hind (memF_bar hf (hst t ot hot) hb).2.2
        exact (StepAt.same this.1 this.2).symm
      have next : ∀ (a' : Act) (w' : World) (fz' : Nat → Nat → Prop), RS P w0 fz0 w' fz' φ (putT (valS ops V (fun j => listed.getD j false) (Tt 0) 0 ops.size) o.dst (V i)) (memF c ops Mt q) a' → a'.defers = a.defers → a'.tmps.size = a.tmps.size →
          wpAny P .any ops Q fuel (listed.setIfInBounds i true) a' w' := by
        intro a' w' fz' g1 g3 g4
        refine ih _ _ _ q fz' φ ⟨by simpa using h.size, hcl', fun j oj hoj hbj hj => ?_, fun j oj hoj hbj hj => ?_, hq, by rw [hset]; exact g1, fun k => ?_, g3.trans h.df, g4.trans h.sz⟩ (by omega)
        · rw [hS'] at hj
          simp only [Bool.or_eq_true, beq_iff_eq] at hj
          rcases hj with hj | rfl
          · exact h.qlt j oj hoj hbj hj
          · rw [ho] at hoj; obtain rfl := Option.some.inj hoj; rw [hnb] at hbj; cases hbj
        · rw [hS', h.qge j oj hoj hbj hj]; rfl
        · rw [h.bok]
          constructor
          · rintro (hk | ⟨j, oj, e1, e2, e3⟩)
            · exact .inl hk
            · exact .inr ⟨j, oj, e1, by rw [hS', e2]; rfl, e3⟩
          · rintro (hk | ⟨j, oj, e1, e2, e3, e4⟩)
            · exact .inl hk
            · rw [hS'] at e2
              simp only [Bool.or_eq_true, beq_iff_eq] at e2
              rcases e2 with e2 | rfl
              · exact .inr ⟨j, oj, e1, e2, e3, e4⟩
              · rw [ho] at e1; obtain rfl := Option.some.inj e1
                obtain ⟨t, e3⟩ := e3
                exact absurd e3 (hna t)
      rcases hstep'.congr agree with ⟨e1, e2, e3⟩ | ⟨j, want, d, g, e1, e2, e3, e4, s, e5, e6⟩
      · rw [wanted_none e1, if_pos rfl]
        refine .inl (ev_sound hc hs h.rs.mem (fun x _ => slotRep_val h.rs.slots x) e2 fun v w' fz' g1 g2 => ?_)
        exact next _ _ _ ((h.rs.ext g1).put hd (by rw [e3]; exact g2)) defers_put size_put
      · rw [wanted_some e1 e2 (h.rs.slots d) e3]
        cases g
        · rw [if_neg (by simp)]
          exact next _ _ _ (h.rs.put hd (by rw [e5]; exact ⟨fun h => (by cases h), fun _ => rfl⟩)) defers_put size_put
        · rw [if_pos rfl]
          refine .inl (ev_sound hc hs h.rs.mem (strip_ops h.rs.slots e4) (e6 rfl).1 fun v w' fz' g1 g2 => ?_)
          exact next _ _ _ ((h.rs.ext g1).put hd (by rw [e5, (e6 rfl).2]; exact ⟨fun _ => g2, fun h => (by cases h)⟩)) defers_put size_put
    · rw [wanted_none hg, if_pos rfl]
      refine .inl ?_
      have hnb : isBar o.op = false := by rw [hop]; rfl
      have hbox : (memF c ops Mt q).boxes[(Mt i).boxes.length]? = some ⟨(c.ti t).size, fun i => .p ((c.ti t).zero.cell i)⟩ := by
        refine trans hnb (fun m => m.boxes[(Mt i).boxes.length]? = some ⟨(c.ti t).size, fun i => .p ((c.ti t).zero.cell i)⟩) (fun t' ot hot hb hind => ?_) ?_
        · have hm := (memF_bar hf (hst t' ot hot) hb).2.2
          unfold indep at hind
          split at hind
          · rename_i k hk
            rw [hk] at hm
            have hne : (Mt i).boxes.length ≠ k := fun e => by
              rw [hop, hV] at hind
              simp [opBox, e] at hind
            rw [hm.2 _ hne]
          · rename_i hk
            rw [hk] at hm
            dsimp only at hm ⊢
            rw [hm]
        · unfold memF
          rw [Zl_at ho, hop]
          simp
      have e3' := hz
      rw [hc] at e3'
      obtain ⟨i', z, hi', hz', rz, zs, zc⟩ := zero_sound (P := P) (w := w) (fz := fz) e3'.1 e3'.2
      refine wp_value (x := Instr.alloc t true (.tuple #[])) (v := .pointer (some ⟨w.heap.size, 0, none⟩)) (w' := w.alloc (.cells z.cells t)) (by simp [execOp, hop]) (by simp [Instr.alloc, zeroValue, typeInfo, hi', hz', newVar, newRow]) ?_
      refine ih _ _ _ q fz (φ.addBox (Mt i).boxes.length w.heap.size) ⟨by simpa using h.size, hcl', fun j oj hoj hbj hj => ?_, fun j oj hoj hbj hj => ?_, hq, ?_, fun k => ?_, defers_put.trans h.df, size_put.trans h.sz⟩ (by omega)
      · rw [hS'] at hj
        simp only [Bool.or_eq_true, beq_iff_eq] at hj
        rcases hj with hj | rfl
        · exact h.qlt j oj hoj hbj hj
        · rw [ho] at hoj; obtain rfl := Option.some.inj hoj; rw [hnb] at hbj; cases hbj
      · rw [hS', h.qge j oj hoj hbj hj]; rfl
      · rw [hset, hV]
        refine h.rs.addBox (bx := ⟨(c.ti t).size, fun i => .p ((c.ti t).zero.cell i)⟩) hd (fun hbk => ?_) hbox (by rw [hc]; exact zs) (fun j hj => ?_)
        · rcases (h.bok _).1 hbk with hk | ⟨j, oj, e1, e2, ⟨t', e3⟩, e4⟩
          · have := len_mono hf hst (Nat.zero_le i) (by omega); omega
          · have hne : j ≠ i := fun e => by rw [e] at e2; rw [h1] at e2; cases e2
            have hjs := hst j oj e1
            rcases hjs.kind with ⟨_, _, _, hn⟩ | ⟨t2, _, _, _, e5, e6⟩ | ⟨hb, _⟩
            · exact absurd e3 (hn t')
            · rw [e4] at e5
              have el : (Mt i).boxes.length = (Mt j).boxes.length := by injection e5
              have hjl := (Array.getElem?_eq_some_iff.1 e1).1
              rcases Nat.lt_or_ge j i with hji | hji
              · have := len_mono hf hst (show j + 1 ≤ i by omega) (by omega)
                rw [e6] at this
                simp only [List.length_append, List.length_singleton] at this
                omega
              · have := len_mono hf hst (show i + 1 ≤ j by omega) (by omega)
                have hnx := hsi.kind
                rcases hnx with ⟨_, _, _, hn⟩ | ⟨_, _, _, _, _, e7⟩ | ⟨hb, _⟩
                · exact absurd hop (hn t)
                · rw [e7] at this
                  simp only [List.length_append, List.length_singleton] at this
                  omega
                · rw [hnb] at hb; cases hb
            · rw [e3] at hb; cases hb
        · rw [hc] at hj ⊢
          exact zc.2 j hj
      · simp only [Own.addBox]
        rw [h.bok]
        constructor
        · rintro ((hk | ⟨j, oj, e1, e2, e3⟩) | rfl)
          · exact .inl hk
          · exact .inr ⟨j, oj, e1, by rw [hS', e2]; rfl, e3⟩
          · exact .inr ⟨i, o, ho, by rw [hS']; simp, ⟨t, hop⟩, hV⟩
        · rintro (hk | ⟨j, oj, e1, e2, e3, e4⟩)
          · exact .inl (.inl hk)
          · rw [hS'] at e2
            simp only [Bool.or_eq_true, beq_iff_eq] at e2
            rcases e2 with e2 | rfl
            · exact .inl (.inr ⟨j, oj, e1, e2, e3, e4⟩)
            · rw [hV] at e4
              injection e4 with e4
              exact .inr e4.symm
    · rw [wanted_none hg, if_pos rfl]
      refine .inl ?_
      have hqi : q ≤ i := by
        rcases Nat.lt_or_ge i q with h' | h'
        · have := h.qge i o ho hb h'
          rw [h1] at this; cases this
        · exact h'
      have hbars : ∀ t ot, ops[t]? = some ot → isBar ot.op = true → t < i → listed.getD t false = true := fun t ot hot hbt hti => by
        rcases hf.pair t i ot o hti hot ho with hp | ⟨_, ⟨e, _⟩ | ⟨_, e, _⟩ | ⟨e, _⟩⟩
        · exact hpo t hp
        · rw [hbt] at e; cases e
        · rw [hb] at e; cases e
        · rw [hbt] at e; cases e
      have eF : memF c ops Mt q = memF c ops Mt i := by
        refine (chain_iff (p := fun t => memF c ops Mt q = memF c ops Mt t) hqi fun t g1 g2 => ?_).1 rfl
        have hot : ops[t]? = some ops[t] := Array.getElem?_eq_getElem (by omega)
        cases hbt : isBar ops[t].op with
        | false => rw [memF_quiet (hst t _ hot) hbt]
        | true => have := h.qlt t _ hot hbt (hbars t _ hot hbt g2); omega
      have hrs := h.rs
      rw [eF] at hrs
      obtain ⟨v, A', f1, f2, f3, f4, f5, f6, f7⟩ := act_at hA hside hb (hf.nobox i o ho) (T' := valS ops V (fun j => listed.getD j false) (Tt 0) 0 ops.size) (fun x hx => by
        cases x with
        | tmp d => exact (agree d (List.mem_append_left _ (List.mem_filterMap.2 ⟨.tmp d, hx, rfl⟩))).symm
        | _ => rfl) (Zl c (ops.toList.drop i))
      refine act_sound hc hrs hd f2 f3 fun a' w' fz' φ' k1 k2 k3 k4 => ?_
      rw [hAs] at f1 f5 f6
      dsimp only at f1 f5 f6
      have eT : A'.s.t = putT (valS ops V (fun j => listed.getD j false) (Tt 0) 0 ops.size) o.dst (V i) := by
        rw [f4]
        rw [hsi.next] at f1
        cases hdst : o.dst with
        | none => rfl
        | some d =>
          rw [hdst] at f1
          have := congrFun f1 d
          simp only [putT, upd, if_true] at this
          rw [this]
      have eM : A'.s.m = memF c ops Mt (i + 1) := by
        rw [f5]
        unfold memF
        rw [← Zl_no ho (bar_no hb)]
      rw [eT, eM] at k1
      rw [eM] at k4
      refine ih _ _ _ (i + 1) fz' φ' ⟨by simpa using h.size, hcl', fun j oj hoj hbj hj => ?_, fun j oj hoj hbj hj => ?_, by omega, by rw [hset]; exact k1, fun k => ?_, k2.trans h.df, k3.trans h.sz⟩ (by omega)
      · rw [hS'] at hj
        simp only [Bool.or_eq_true, beq_iff_eq] at hj
        rcases hj with hj | rfl
        · have := h.qlt j oj hoj hbj hj; omega
        · omega
      · rw [hS']
        by_cases e : j = i
        · simp [e]
        · rw [hbars j oj hoj hbj (by omega)]; rfl
      · rw [k4 k, (memF_bar hf hsi hb).1, h.bok]
        constructor
        · rintro ((hk | ⟨j, oj, e1, e2, e3⟩) | hk)
          · exact .inl hk
          · exact .inr ⟨j, oj, e1, by rw [hS', e2]; rfl, e3⟩
          · omega
        · rintro (hk | ⟨j, oj, e1, e2, e3, e4⟩)
          · exact .inl (.inl hk)
          · rw [hS'] at e2
            simp only [Bool.or_eq_true, beq_iff_eq] at e2
            rcases e2 with e2 | rfl
            · exact .inl (.inr ⟨j, oj, e1, e2, e3, e4⟩)
            · rw [ho] at e1; obtain rfl := Option.some.inj e1
              obtain ⟨t, e3⟩ := e3
              exact absurd e3 (bar_no hb t)

/-- Such a region does what the order of the text does. -/
theorem hard_sound (hm : P.follows .mixedOrders = true) (hc : c.ti = TI.of P) (hs : Know P w0 c) {id : Nat} (hf : hardOK ops U = true) {N : Nat} (hN : ∀ (i : Nat) (o : Oper) (d : Tmp), ops[i]? = some o → o.dst = some d → d < N) {K : St → Prop} {Q : Exit → Act → World → Prop} {T : Nat → Slot} {m : Mem}
    (hK : ∀ T m a w, K ⟨T, m⟩ → Nxt P w0 fz0 N T m a w → Q .normal a w) (hn : Nxt P w0 fz0 N T m a w) (h : runH c ops U K ops.toList 0 (fun _ => T0) T0 T m) : (Code.region id ops true).wp P Q a w := by
  have hf := hardFacts hf
  obtain ⟨Tt, Mt, V, _, e1, e2, hst, hk⟩ := trace hf ops.toList 0 _ _ _ _ (fun j => by simp) h
  have hst' : ∀ j o, ops[j]? = some o → HStep c ops U Tt Mt V j o := fun j o ho => hst j o (Nat.zero_le _) ho
  have hsize : 0 + ops.toList.length = ops.size := by simp
  rw [hsize] at hk
  refine wp_region_any hm ?_
  obtain ⟨fz, φ, hrs, h1, h2, h3⟩ := hn
  have hn' : RS P w0 fz0 { w with drawn := w.drawn + 1 } fz φ T m a := hrs.ext ⟨⟨rfl, rfl, rfl, Nat.le_refl _, fun _ _ => rfl⟩, fun _ _ h => h, fun _ _ h => .inl h, hrs.mem.lt⟩
  have hno : ∀ j, (Array.replicate ops.size false).getD j false = false := fun j => by simp [Array.getElem?_replicate]; split <;> rfl
  have hv : valS ops V (fun j => (Array.replicate ops.size false).getD j false) (Tt 0) 0 ops.size = Tt 0 := by
    have : ∀ n, valS ops V (fun j => (Array.replicate ops.size false).getD j false) (Tt 0) 0 n = Tt 0 := fun n => by
      induction n with
      | zero => rfl
      | succ n ih =>
        funext d
        rw [valS, ih, if_neg]
        rintro ⟨e, _⟩
        rw [hno] at e
        cases e
    exact this _
  refine hard_go hc hs hf hst' hN (fun a w hn => hK _ _ _ _ hk hn) _ _ _ _ 0 fz φ ⟨by simp, fun j o _ hj => (by have e := hno j; dsimp only at hj; rw [e] at hj; cases hj), fun j o _ _ hj => (by rw [hno] at hj; cases hj), fun j o _ _ hj => by omega, Nat.zero_le _, ?_, fun k => ?_, h2, h3⟩ ?_
  · rw [hv, e1]
    have : memF c ops Mt 0 = { m with boxes := m.boxes ++ Zl c ops.toList } := by unfold memF; rw [e2]; rfl
    rw [this]
    exact ⟨hn'.mem.moreBoxes _, hn'.slots⟩
  · rw [e2]
    constructor
    · intro hb; exact .inl (hrs.mem.nb k hb)
    · rintro (hb | ⟨j, o, _, hj, _⟩)
      · exact h1 k hb
      · rw [hno] at hj; cases hj
  · unfold left
    rw [List.countP_eq_length.2 (fun j _ => by rw [hno j]; rfl), List.length_range]
end
end
end Go.Am
