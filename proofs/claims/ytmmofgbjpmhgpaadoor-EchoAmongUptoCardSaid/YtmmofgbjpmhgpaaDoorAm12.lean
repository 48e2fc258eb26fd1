/- Code is sound. -/
import Derived.Test.YtmmofgbjpmhgpaaDoorAmH
set_option linter.all false
set_option linter.unusedVariables false
set_option linter.unusedSimpArgs false
set_option linter.unnecessarySimpa false
namespace Go.Am
open Go Go.RowKit

section
variable {P : Program} {c : Cfg} {w0 w : World} {fz0 fz : Nat → Nat → Prop} {φ : Own} {m : Mem} {o : Oper} {a : Act} {T : Nat → Slot}

theorem allLt_of {n : Nat} {p : Nat → Prop} : allLt n p → ∀ i, i < n → p i := by
  induction n with
  | zero => intro _ i hi; omega
  | succ n ih =>
    intro h i hi
    by_cases e : i = n
    · subst e; exact h.2
    · exact ih h.1 i (by omega)

theorem SV.le_sound : ∀ {x y : SV}, SV.le x y → ∀ {v : Value}, Rep w fz x v → Rep w fz y v := by
  intro x y
  induction y generalizing x with
  | dead => intros; trivial
  | v b =>
    intro h v hv
    cases x with
    | v a =>
      have h' : a = b := by
        cases a <;> exact h
      subst h'; exact hv
    | _ => exact h.elim
  | agg n' g ih =>
    intro h v hv
    cases x with
    | agg n f =>
      obtain ⟨rfl, h⟩ := h
      obtain ⟨cs, rfl, hs, hc⟩ := hv
      exact ⟨cs, rfl, hs, fun i hi => by
        obtain ⟨u, h1, h2, h3⟩ := hc i hi
        exact ⟨u, h1, h2, ih i (allLt_of h i hi) h3⟩⟩
    | v a => exact absurd h (by cases a <;> simp [SV.le])
    | _ => exact h.elim
  | tup n' g ih =>
    intro h v hv
    cases x with
    | tup n f =>
      obtain ⟨rfl, h⟩ := h
      obtain ⟨cs, rfl, hs, hc⟩ := hv
      exact ⟨cs, rfl, hs, fun i hi => by
        obtain ⟨u, h1, h3⟩ := hc i hi
        exact ⟨u, h1, ih i (allLt_of h i hi) h3⟩⟩
    | v a => exact absurd h (by cases a <;> simp [SV.le])
    | _ => exact h.elim
  | sl ex' n' k' e' ih =>
    intro h v hv
    have key : (∃ ex n k e, x = .sl ex n k e ∧ (ex' = true → ex = true) ∧ n = n' ∧ k = k' ∧ ∀ i, i < n → SV.le (e i) (e' i)) ∨ (x = .v (.slice none 0 0) ∧ ex' = false ∧ n' = 0) := by
      unfold SV.le at h
      split at h
      all_goals first | (cases h; done) | skip
      · rename_i e; cases e
      · rename_i e; cases e
      · rename_i e; cases e; exact .inr ⟨rfl, rfl, h⟩
      · rename_i e; cases e
      · rename_i e; cases e
      · rename_i e; cases e; exact .inl ⟨_, _, _, _, rfl, h⟩
      · rename_i e; cases e
    rcases key with ⟨ex, n, k, e, rfl, h1, rfl, rfl, hle⟩ | ⟨rfl, rfl, rfl⟩
    · obtain ⟨a, cp, rfl, hn, hex, hc⟩ := hv
      refine ⟨a, cp, rfl, hn, fun he => hex (h1 he), fun h0 => ?_⟩
      obtain ⟨b, off, ha, hc⟩ := hc h0
      refine ⟨b, off, ha, fun i hi => ?_⟩
      obtain ⟨ev, g1, g2, g3⟩ := hc i hi
      exact ⟨ev, ih i (hle i hi) g1, g2, g3⟩
    · have hv' : v = .slice none 0 0 := hv
      exact ⟨none, 0, hv', Nat.le_refl _, fun h => (by cases h), fun h => absurd h (Nat.lt_irrefl _)⟩
  | rd e' off' ih =>
    intro h v hv
    cases x with
    | rd e off =>
      obtain ⟨rfl, h⟩ := h
      obtain ⟨b, o, ev, rfl, h1, h2⟩ := hv
      exact ⟨b, o, ev, rfl, ih h h1, h2⟩
    | v a => exact absurd h (by cases a <;> simp [SV.le])
    | _ => exact h.elim

theorem upTo_get {α : Type} {f : Nat → α} : ∀ {n i : Nat}, i < n → (upTo f n)[i]? = some (f i)
  | n + 1, i, h => by
    have hl : ∀ n, (upTo f n).length = n := fun n => by induction n with
      | zero => rfl
      | succ n ih => simp [upTo, ih]
    rw [upTo]
    by_cases e : i = n
    · subst e
      rw [List.getElem?_append_right (by rw [hl]; exact Nat.le_refl _), hl]; simp
    · rw [List.getElem?_append_left (by rw [hl]; omega)]
      exact upTo_get (by omega)
theorem upTo_length {α : Type} {f : Nat → α} : ∀ {n : Nat}, (upTo f n).length = n
  | 0 => rfl
  | n + 1 => by simp [upTo, upTo_length (n := n)]

theorem leB_get {sb : List Nat} {sr : List (Option Nat)} : ∀ {ks : List Nat} {bs : List Box} {i k : Nat} {b' : Box}, leB m sb sr ks bs → ks[i]? = some k → bs[i]? = some b' →
    ∃ b, m.boxes[k]? = some b ∧ b.n = b'.n ∧ ∀ i, i < b.n → Slot.le m sb sr (b.f i) (b'.f i)
  | k :: ks, b' :: bs, 0, _, _, h, hk, hb => by
    simp only [List.getElem?_cons_zero, Option.some.injEq] at hk hb
    subst hk; subst hb
    have h := h.1
    cases e : m.boxes[k]? with
    | none => rw [e] at h; exact h.elim
    | some b => rw [e] at h; exact ⟨b, rfl, h.1, allLt_of h.2⟩
  | k :: ks, b' :: bs, i + 1, _, _, h, hk, hb => leB_get h.2 (by simpa using hk) (by simpa using hb)
  | [], _, _, _, _, _, hk, _ => by simp at hk
  | _ :: _, [], _, _, _, _, _, hb => by simp at hb

theorem leR_get : ∀ {ks : List (Option Nat)} {bs : List Row} {i : Nat} {k : Option Nat} {r' : Row}, leR m ks bs → ks[i]? = some k → bs[i]? = some r' →
    (∃ k0 r0, k = some k0 ∧ m.rows[k0]? = some r0 ∧ leRow r0 r') ∨ (k = none ∧ r'.s.isSl = true ∧ r'.s.len = 0)
  | some k0 :: ks, r' :: bs, 0, _, _, h, hk, hb => by
    simp only [List.getElem?_cons_zero, Option.some.injEq] at hk hb
    subst hk; subst hb
    have h := h.1
    cases e : m.rows[k0]? with
    | none => rw [e] at h; exact h.elim
    | some b => rw [e] at h; exact .inl ⟨k0, b, rfl, e, h⟩
  | none :: ks, r' :: bs, 0, _, _, h, hk, hb => by
    simp only [List.getElem?_cons_zero, Option.some.injEq] at hk hb
    subst hk; subst hb
    exact .inr ⟨rfl, h.1⟩
  | some _ :: ks, b' :: bs, i + 1, _, _, h, hk, hb => leR_get h.2 (by simpa using hk) (by simpa using hb)
  | none :: ks, b' :: bs, i + 1, _, _, h, hk, hb => leR_get h.2 (by simpa using hk) (by simpa using hb)
  | [], _, _, _, _, _, hk, _ => by simp at hk
  | _ :: _, [], _, _, _, _, _, hb => by simp at hb

theorem distinct_inj : ∀ {l : List Nat} {i j x : Nat}, distinct l = true → l[i]? = some x → l[j]? = some x → i = j
  | [], _, _, _, _, h, _ => by simp at h
  | y :: l, 0, 0, _, _, _, _ => rfl
  | y :: l, 0, j + 1, x, h, h1, h2 => by
    simp only [distinct, Bool.and_eq_true, Bool.not_eq_true'] at h
    simp only [List.getElem?_cons_zero, Option.some.injEq, List.getElem?_cons_succ] at h1 h2
    subst h1
    have := List.mem_of_getElem? h2
    simp_all
  | y :: l, i + 1, 0, x, h, h1, h2 => by
    simp only [distinct, Bool.and_eq_true, Bool.not_eq_true'] at h
    simp only [List.getElem?_cons_zero, Option.some.injEq, List.getElem?_cons_succ] at h1 h2
    subst h2
    have := List.mem_of_getElem? h1
    simp_all
  | y :: l, i + 1, j + 1, x, h, h1, h2 => by
    simp only [distinct, Bool.and_eq_true] at h
    exact congrArg (· + 1) (distinct_inj (i := i) (j := j) (x := x) h.2 (by simpa using h1) (by simpa using h2))

theorem somes_mem : ∀ {l : List (Option Nat)} {i x : Nat}, l[i]? = some (some x) → x ∈ somes l
  | some y :: l, 0, x, h => by simp only [List.getElem?_cons_zero, Option.some.injEq] at h; subst h; simp [somes]
  | none :: l, 0, x, h => by simp at h
  | some y :: l, i + 1, x, h => by simp only [somes]; exact List.mem_cons_of_mem _ (somes_mem (by simpa using h))
  | none :: l, i + 1, x, h => by simp only [somes]; exact somes_mem (by simpa using h)
  | [], _, _, h => by simp at h

theorem somes_inj : ∀ {l : List (Option Nat)} {i j x : Nat}, distinct (somes l) = true → l[i]? = some (some x) → l[j]? = some (some x) → i = j
  | [], _, _, _, _, h, _ => by simp at h
  | _ :: l, 0, 0, _, _, _, _ => rfl
  | none :: l, 0, j + 1, x, h, h1, h2 => by simp at h1
  | none :: l, i + 1, 0, x, h, h1, h2 => by simp at h2
  | some y :: l, 0, j + 1, x, h, h1, h2 => by
    simp only [somes, distinct, Bool.and_eq_true, Bool.not_eq_true'] at h
    simp only [List.getElem?_cons_zero, Option.some.injEq, List.getElem?_cons_succ] at h1 h2
    subst h1
    have := somes_mem h2
    simp_all
  | some y :: l, i + 1, 0, x, h, h1, h2 => by
    simp only [somes, distinct, Bool.and_eq_true, Bool.not_eq_true'] at h
    simp only [List.getElem?_cons_zero, Option.some.injEq, List.getElem?_cons_succ] at h1 h2
    subst h2
    have := somes_mem h1
    simp_all
  | none :: l, i + 1, j + 1, x, h, h1, h2 => congrArg (· + 1) (somes_inj (i := i) (j := j) (x := x) (by simpa [somes] using h) (by simpa using h1) (by simpa using h2))
  | some y :: l, i + 1, j + 1, x, h, h1, h2 => by
    simp only [somes, distinct, Bool.and_eq_true] at h
    exact congrArg (· + 1) (somes_inj (i := i) (j := j) (x := x) h.2 (by simpa using h1) (by simpa using h2))

/-- The own memory, as the written-out state counts it. -/
def Own.sub (P : Program) (φ : Own) (sb : List Nat) (sr : List (Option Nat)) (m' : Mem) : Own where
  box k := φ.box (sb.getD k 0)
  row k := match sr[k]? with | some (some k0) => φ.row k0 | _ => .slice none 0 0
  esz k := match sr[k]? with | some (some k0) => φ.esz k0 | _ => match m'.rows[k]? with | some r => (TI.of P r.ty).size | none => 0
  bok k := k < m'.boxes.length
  nr := m'.rows.length

theorem Slot.le_sound {sb : List Nat} {sr : List (Option Nat)} {m' : Mem} (hm : RM P w0 fz0 w fz φ m) (hsb : sb.length = m'.boxes.length) (hsr : sr.length = m'.rows.length) {s s' : Slot} (h : Slot.le m sb sr s s') {v : Value} (hv : SlotRep w fz φ s v) : SlotRep w fz (φ.sub P sb sr m') s' v := by
  unfold Slot.le at h
  split at h
  all_goals first | (cases h; done) | skip
  · trivial
  · have hv' : v = .slice none 0 0 := hv
    have hk := (List.getElem?_eq_some_iff.1 h).1
    refine ⟨by simp only [Own.sub]; omega, ?_⟩
    simp only [Own.sub, h]
    exact hv'
  · obtain ⟨h1, rfl⟩ := h
    have hk := (List.getElem?_eq_some_iff.1 h1).1
    refine ⟨by simp only [Own.sub]; omega, ?_⟩
    simp only [Own.sub, List.getD_eq_getElem?_getD, h1]
    exact hv.2
  · have hk := (List.getElem?_eq_some_iff.1 h).1
    refine ⟨by simp only [Own.sub]; omega, ?_⟩
    simp only [Own.sub, h]
    exact hv.2
  · exact SV.le_sound h (hv.sv hm)

theorem Holds.le {n k : Nat} {e e' : Nat → SV} {cur : Array Value} (h : Holds w fz n k e cur) (hle : ∀ i, i < n → SV.le (e i) (e' i)) : Holds w fz n k e' cur := fun i hi => by
  obtain ⟨ev, h1, h2⟩ := h i hi
  exact ⟨ev, SV.le_sound (hle i hi) h1, h2⟩

theorem leRow_sound {r r' : Row} {B : Nat} {y : Value} (h : leRow r r') (hr : RowOK P B w fz r y) : RowOK P B w fz r' y := by
  obtain ⟨h1, h2, h3, h4, h5, h6⟩ := h
  obtain ⟨g1, g2, g3⟩ := hr
  refine ⟨fun hl => ?_, fun hp => SV.le_sound h6 (g2 (h3 ▸ hp)), g3⟩
  obtain ⟨s, hs⟩ : ∃ s, r.s = s := ⟨_, rfl⟩
  obtain ⟨s', hs'⟩ : ∃ s', r'.s = s' := ⟨_, rfl⟩
  have hlen : r'.s.len = r.s.len ∧ ∀ i, i < r.s.len → SV.le (r.s.idx i) (r'.s.idx i) := by
    rw [hs] at h4 h6 ⊢
    rw [hs'] at h5 h6 ⊢
    cases s <;> simp only [SV.isSl, Bool.false_eq_true] at h4
    cases s' <;> simp only [SV.isSl, Bool.false_eq_true] at h5
    simp only [SV.ro, SV.le] at h6
    obtain ⟨_, rfl, _, h⟩ := h6
    exact ⟨rfl, h⟩
  rcases (g1 (h2 hl)).shape with ⟨e1, e2⟩ | ⟨b, c, cur, e1, e2, e3, e4, e5, e6, e7, e8, e9, e10⟩
  · exact ⟨.inl ⟨e1, by rw [hlen.1]; exact e2⟩⟩
  · refine ⟨.inr ⟨b, c, cur, ?_⟩⟩
    rw [hlen.1, h1, h3]
    exact ⟨e1, e2, e3, e4, e5, e6, e7.le hlen.2, e8, e9, e10⟩

theorem leL_get {sb : List Nat} {sr : List (Option Nat)} (h0 : ∀ i, T i = T i) : ∀ {l : List (Nat × Slot)}, leL m sb sr T l → ∀ i, ofL l i = .p .dead ∨ Slot.le m sb sr (T i) (ofL l i)
  | [], _, i => .inl rfl
  | (j, s) :: r, h, i => by
    simp only [ofL, upd]
    split
    · rename_i e; subst e; exact .inr h.1
    · exact leL_get h0 h.2 i

theorem le_sound {F : FSt} {N : Nat} (hn : Nxt P w0 fz0 N T m a w) (h : St.le ⟨T, m⟩ F) : Nxt P w0 fz0 N F.toSt.t F.toSt.m a w := by
  obtain ⟨fz, φ, hrs, hfull, hdf, hsz⟩ := hn
  obtain ⟨h1, h2, h3, h4, h5⟩ := h
  dsimp only at h1 h2 h3 h4 h5
  generalize hsb : upTo (findB T F.l) F.m.boxes.length = sb at h1 h2 h3 h4 h5
  generalize hsr : upTo (findR T F.l) F.m.rows.length = sr at h1 h2 h3 h4 h5
  have lb : sb.length = F.m.boxes.length := by rw [← hsb, upTo_length]
  have lr : sr.length = F.m.rows.length := by rw [← hsr, upTo_length]
  have hm := hrs.mem
  have gb : ∀ k, k < F.m.boxes.length → ∃ k0 b, sb[k]? = some k0 ∧ (φ.sub P sb sr F.m).box k = φ.box k0 ∧ m.boxes[k0]? = some b ∧ φ.bok k0 ∧ b.n = (F.m.boxes[k]?.getD ⟨0, T0⟩).n ∧ ∀ i, i < b.n → Slot.le m sb sr (b.f i) ((F.m.boxes[k]?.getD ⟨0, T0⟩).f i) := fun k hk => by
    have e1 : sb[k]? = some sb[k] := List.getElem?_eq_getElem (by omega)
    have e2 : F.m.boxes[k]? = some F.m.boxes[k] := List.getElem?_eq_getElem hk
    obtain ⟨b, g1, g2, g3⟩ := leB_get h3 e1 e2
    exact ⟨sb[k], b, e1, by simp [Own.sub, List.getD_eq_getElem?_getD, e1], g1, hfull _ (lt_of_getElem? g1), by rw [e2]; exact g2, by rw [e2]; exact g3⟩
  have gr : ∀ k r', F.m.rows[k]? = some r' → (∃ k0 r0, sr[k]? = some (some k0) ∧ m.rows[k0]? = some r0 ∧ leRow r0 r' ∧ (φ.sub P sb sr F.m).row k = φ.row k0 ∧ (φ.sub P sb sr F.m).esz k = φ.esz k0) ∨
      (r'.s.isSl = true ∧ r'.s.len = 0 ∧ (φ.sub P sb sr F.m).row k = .slice none 0 0 ∧ (φ.sub P sb sr F.m).esz k = (TI.of P r'.ty).size) := fun k r' hk => by
    have hlt : k < sr.length := by have := lt_of_getElem? hk; omega
    have e1 : sr[k]? = some sr[k] := List.getElem?_eq_getElem hlt
    rcases leR_get h4 e1 hk with ⟨k0, r0, g1, g2, g3⟩ | ⟨g1, g2, g3⟩
    · rw [g1] at e1
      exact .inl ⟨k0, r0, e1, g2, g3, by simp [Own.sub, e1], by simp [Own.sub, e1]⟩
    · rw [g1] at e1
      exact .inr ⟨g2, g3, by simp [Own.sub, e1], by simp [Own.sub, e1, hk]⟩
  refine ⟨fz, φ.sub P sb sr F.m, ⟨{ more0 := hm.more0, only0 := hm.only0, below := hm.below, lt := hm.lt, box := ?_, row := ?_, esz := ?_, nb := fun k h => h, nr := rfl, dbb := ?_, dbr := ?_, drr := ?_ }, fun i => ?_⟩, fun k hk => hk, hdf, hsz⟩
  · intro k bx hk hbx
    obtain ⟨k0, b, g1, g2, g3, g4, g5, g6⟩ := gb k hk
    have hbx' : F.m.boxes[k]? = some bx := hbx
    rw [hbx'] at g5 g6
    obtain ⟨q1, ⟨cs, Ty, q2, q3, q4⟩, q5⟩ := hm.box k0 b g4 g3
    rw [g2]
    refine ⟨q1, ⟨cs, Ty, q2, q3.trans g5, fun i hi => ?_⟩, q5⟩
    obtain ⟨u, p1, p2, p3⟩ := q4 i (by rw [g5]; exact hi)
    exact ⟨u, p1, p2, Slot.le_sound hm lb lr (g6 i (by rw [g5]; exact hi)) p3⟩
  · intro k r' hk
    rcases gr k r' hk with ⟨k0, r0, g1, g2, g3, g4, g5⟩ | ⟨g1, g2, g3, g4⟩
    · rw [g4]
      exact leRow_sound g3 (hm.row k0 r0 g2)
    · rw [g3]
      refine ⟨fun _ => ⟨.inl ⟨rfl, g2⟩⟩, fun _ => ?_, none, 0, 0, rfl⟩
      cases hs : r'.s <;> rw [hs] at g1 g2 <;> simp only [SV.isSl, Bool.false_eq_true] at g1
      simp only [SV.len] at g2
      subst g2
      exact ⟨none, 0, rfl, Nat.le_refl _, fun h => (by cases h), fun h => absurd h (Nat.lt_irrefl _)⟩
  · intro k r' hk
    rcases gr k r' hk with ⟨k0, r0, g1, g2, g3, g4, g5⟩ | ⟨g1, g2, g3, g4⟩
    · rw [g5, hm.esz k0 r0 g2, g3.1]
    · exact g4
  · intro k k' hk hk' he
    obtain ⟨k0, b, g1, g2, g3, g4, _⟩ := gb k hk
    obtain ⟨k0', b', g1', g2', g3', g4', _⟩ := gb k' hk'
    rw [g2, g2'] at he
    obtain rfl := hm.dbb k0 k0' g4 g4' he
    exact distinct_inj h1 g1 g1'
  · intro k k' r' hk hr hl
    obtain ⟨k0, b, g1, g2, g3, g4, _⟩ := gb k hk
    rw [g2]
    rcases gr k' r' hr with ⟨q0, r0, p1, p2, p3, p4, p5⟩ | ⟨p1, p2, p3, p4⟩
    · rw [p4]
      exact hm.dbr k0 q0 r0 g4 p2 (p3.2.1 hl)
    · rw [p3]; simp [Value.ownBlock]
  · intro k k' r r' b hr hr' hl hl' hb hb'
    rcases gr k r hr with ⟨q0, r0, p1, p2, p3, p4, p5⟩ | ⟨p1, p2, p3, p4⟩
    · rcases gr k' r' hr' with ⟨q0', r0', p1', p2', p3', p4', p5'⟩ | ⟨p1', p2', p3', p4'⟩
      · rw [p4] at hb
        rw [p4'] at hb'
        obtain rfl := hm.drr q0 q0' r0 r0' b p2 p2' (p3.2.1 hl) (p3'.2.1 hl') hb hb'
        exact somes_inj h2 p1 p1'
      · rw [p3'] at hb'; simp [Value.ownBlock] at hb'
    · rw [p3] at hb; simp [Value.ownBlock] at hb
  · rcases leL_get (fun _ => rfl) h5 i with e | e
    · show SlotRep _ _ _ (ofL F.l i) _
      rw [e]; trivial
    · exact Slot.le_sound hm lb lr e (hrs.slots i)

/-! ### Boxes that are written no more -/
def Own.noBox (φ : Own) : Own := { φ with bok := fun _ => False }
def frzF (φ : Own) (fz : Nat → Nat → Prop) : Nat → Nat → Prop := fun b o => fz b o ∨ ∃ k, φ.bok k ∧ φ.box k = b
theorem RM.freeze (hm : RM P w0 fz0 w fz φ m) (hfull : ∀ k, φ.bok k → k < m.boxes.length) : RM P w0 fz0 w (frzF φ fz) φ.noBox ⟨[], m.rows⟩ := by
  have get : ∀ k, φ.bok k → ∃ bx, m.boxes[k]? = some bx ∧ BoxOK w0.heap.size w fz φ (φ.box k) bx := fun k hk =>
    ⟨m.boxes[k]'(hfull k hk), List.getElem?_eq_getElem _, hm.box k _ hk (List.getElem?_eq_getElem _)⟩
  have mono : ∀ b o, fz b o → frzF φ fz b o ∧ w.cell? ⟨b, o, none⟩ = w.cell? ⟨b, o, none⟩ := fun _ _ h => ⟨.inl h, rfl⟩
  refine { more0 := fun b o h => .inl (hm.more0 b o h), only0 := fun b o h => ?_, below := hm.below, lt := fun b o h => ?_, box := fun _ _ h => h.elim, row := fun k r hk => ?_, esz := hm.esz, nb := fun _ h => h.elim, nr := hm.nr, dbb := fun _ _ h => h.elim, dbr := fun _ _ _ h => h.elim, drr := hm.drr }
  · rcases h with h | ⟨k, hk, rfl⟩
    · exact hm.only0 b o h
    · obtain ⟨_, _, h, _⟩ := get k hk; exact .inr h
  · rcases h with h | ⟨k, hk, rfl⟩
    · exact hm.lt b o h
    · obtain ⟨_, _, h⟩ := get k hk; exact h.lt
  · obtain ⟨g1, g2, g3⟩ := hm.row k r hk
    refine ⟨fun hl => ?_, fun hp => Rep.mono mono _ _ (g2 hp), g3⟩
    rcases (g1 hl).shape with h | ⟨b, c, cur, hy, hB, hh, hs, hn, hmx, hc, f1, f2, f3⟩
    · exact ⟨.inl h⟩
    · have hne : ¬ ∃ k, φ.bok k ∧ φ.box k = b := by
        rintro ⟨j, hj, e⟩
        exact hm.dbr j k r hj hk hl (by rw [e]; show (φ.row k).ownBlock = _; rw [hy]; rfl)
      refine ⟨.inr ⟨b, c, cur, hy, hB, hh, hs, hn, hmx, holds_mono mono hc, fun j h1 h2 h3 => ?_, fun hp j hj => .inl (f2 hp j hj), fun hp j h3 => ?_⟩⟩
      · exact h3.elim (f1 j h1 h2) hne
      · exact h3.elim (f3 hp j) hne
theorem SlotRep.freeze (hm : RM P w0 fz0 w fz φ m) : ∀ {s : Slot} {v : Value}, SlotRep w fz φ s v → SlotRep w (frzF φ fz) φ.noBox (s.frz m) v
  | .p x, v, h => Rep.mono (fun _ _ h => ⟨.inl h, rfl⟩) x v h
  | .ow _, _, h => h
  | .rp _ _ _, _, h => h
  | .gd c s, v, h => ⟨fun hc => (h.1 hc).freeze hm, h.2⟩
  | .bx k off, v, h => by
    obtain ⟨hk, rfl⟩ := h
    simp only [Slot.frz]
    cases hb : m.boxes[k]? with
    | none => trivial
    | some bx =>
      obtain ⟨g1, ⟨cs, Ty, g2, g3, g4⟩, g5⟩ := hm.box k bx hk hb
      refine ⟨φ.box k, off, .agg cs, rfl, ⟨cs, rfl, g3, fun i hi => ?_⟩, fun j h1 h2 => ?_⟩
      · obtain ⟨u, k1, k2, k3⟩ := g4 i hi
        exact ⟨u, k1, k2, Rep.mono (fun _ _ h => ⟨.inl h, rfl⟩) _ _ (k3.sv hm)⟩
      · have h2' : j < cs.size := h2
        obtain ⟨u, k1, k2, k3⟩ := g4 j (by omega)
        refine ⟨u, k1, k2, ?_, .inr ⟨k, hk, rfl⟩⟩
        rw [show off + (j - off) = j by omega]
        simp [World.cell?, g2, k1]
theorem Nxt.freeze {N : Nat} (h : Nxt P w0 fz0 N T m a w) : Nxt P w0 fz0 N (St.freeze ⟨T, m⟩).t (St.freeze ⟨T, m⟩).m a w := by
  obtain ⟨fz, φ, hrs, hfull, hdf, hsz⟩ := h
  exact ⟨_, _, ⟨hrs.mem.freeze hrs.mem.nb, fun i => (hrs.slots i).freeze hrs.mem⟩, fun k hk => by simp [St.freeze] at hk, hdf, hsz⟩
theorem Nxt.frzIf {N : Nat} (h : Nxt P w0 fz0 N T m a w) (b : Bool) : Nxt P w0 fz0 N (St.frzIf ⟨T, m⟩ b).t (St.frzIf ⟨T, m⟩ b).m a w := by
  cases b
  · exact h
  · exact h.freeze

/-! ### Code -/
def regN (un : Option (List (Nat × Nat))) (ops : Array Oper) (draw : Bool) : Bool :=
  match un with
  | none => !draw || drawOK ops
  | some U => draw && hardOK ops U
def codeN (un : Nat → Option (List (Nat × Nat))) (N : Nat) : Code → Bool
  | .region id ops draw => (ops.all fun o => match o.dst with | some d => decide (d < N) | none => true) && regN (un id) ops draw
  | .seq x y => codeN un N x && codeN un N y
  | .cond _ x y => codeN un N x && codeN un N y
  | .block _ x => codeN un N x
  | .loop x => codeN un N x
  | _ => true

theorem wp_sound (hmx : P.follows .mixedOrders = true) (hc : c.ti = TI.of P) (hs : Know P w0 c) {N : Nat} : ∀ (code : Code) (Qa : Exit → St → Prop) (Q : Exit → Act → World → Prop) (T : Nat → Slot) (m : Mem) (a : Act) (w : World), codeN c.un N code = true →
    (∀ e T m a w, Qa e ⟨T, m⟩ → Nxt P w0 fz0 N T m a w → Q e a w) → Nxt P w0 fz0 N T m a w → wp c code Qa ⟨T, m⟩ → code.wp P Q a w := by
  intro code
  induction code with
  | skip => intro Qa Q T m a w _ hQ hn h; exact wp_skip (hQ _ _ _ _ _ h hn)
  | label l => intro Qa Q T m a w _ hQ hn h; exact wp_label (hQ _ _ _ _ _ h hn)
  | exit id => intro Qa Q T m a w _ hQ hn h; exact wp_exit (hQ _ _ _ _ _ h hn)
  | ret => intro Qa Q T m a w _ hQ hn h; exact wp_ret (hQ _ _ _ _ _ h hn)
  | region id ops draw =>
    intro Qa Q T m a w hN hQ hn h
    have hN' : ∀ (i : Nat) (o : Oper) (d : Tmp), ops[i]? = some o → o.dst = some d → d < N := fun i o d ho hd => by
      simp only [codeN, Bool.and_eq_true, Array.all_eq_true_iff_forall_mem] at hN
      have := hN.1 o (Array.mem_of_getElem? ho)
      rw [hd] at this
      simpa using this
    have hn := hn.frzIf (c.frz id)
    have hR : regN (c.un id) ops draw = true := by
      simp only [codeN, Bool.and_eq_true] at hN
      exact hN.2
    simp only [wp] at h
    cases hu : c.un id with
    | none =>
      rw [hu] at h hR
      cases draw
      · exact region_sound hc hs hN' (fun T m a w hk hn => hQ _ _ _ _ _ hk hn) hn h
      · exact draw_sound hmx hc hs (by simpa [regN] using hR) hN' (fun T m a w hk hn => hQ _ _ _ _ _ hk hn) hn h
    | some U =>
      rw [hu] at h hR
      simp only [regN, Bool.and_eq_true] at hR
      obtain ⟨rfl, hR⟩ := hR
      exact hard_sound hmx hc hs hR hN' (fun T m a w hk hn => hQ _ _ _ _ _ hk hn) hn h
  | seq x y ihx ihy =>
    intro Qa Q T m a w hN hQ hn h
    simp only [codeN, Bool.and_eq_true] at hN
    refine Go.wp_seq (ihx _ _ T m a w hN.1 (fun e T m a w he hn' => ?_) hn h)
    cases e with
    | normal => exact ihy _ _ T m a w hN.2 hQ hn' he
    | _ => exact hQ _ _ _ _ _ he hn'
  | cond x y z ihy ihz =>
    intro Qa Q T m a w hN hQ hn h
    simp only [codeN, Bool.and_eq_true] at hN
    simp only [wp] at h
    unfold cnd at h
    split at h
    · rename_i t hx
      obtain ⟨fz, φ, hrs, _⟩ := id hn
      have := slotRep_val hrs.slots x
      rw [hx] at this
      exact Go.wp_cond_split this (fun ht => ihy _ _ T m a w hN.1 hQ hn (h.1 ht)) (fun ht => ihz _ _ T m a w hN.2 hQ hn (h.2 ht))
    · exact h.elim
  | block id x ih =>
    intro Qa Q T m a w hN hQ hn h
    refine Go.wp_block (ih _ _ T m a w hN (fun e T m a w he hn' => ?_) hn h)
    cases e with
    | exit id' =>
      simp only [blkK] at he
      simp only [Exit.inBlock]
      split at he
      · rename_i e; rw [if_pos e]; exact hQ _ _ _ _ _ he hn'
      · rename_i e; rw [if_neg e]; exact hQ _ _ _ _ _ he hn'
    | _ => exact hQ _ _ _ _ _ he hn'
  | loop x ih =>
    intro Qa Q T m a w hN hQ hn h
    rcases h with ⟨n, h⟩ | ⟨A, ⟨g0, hg0, hle⟩, h⟩
    · refine Go.wp_loop_rounds n ?_
      induction n generalizing T m a w with
      | zero => exact h.elim
      | succ n ihn =>
        refine ih _ _ T m a w hN (fun e T m a w he hn' => ?_) hn h
        cases e with
        | normal => exact ihn _ _ _ _ hn' he
        | _ => exact hQ _ _ _ _ _ he hn'
    refine Go.wp_loop_ghost (fun n a w => ∃ g, A.I g ∧ A.μ g = n ∧ Nxt P w0 fz0 N (A.fam g).toSt.t (A.fam g).toSt.m a w) (A.μ g0) ⟨g0, hg0, rfl, le_sound hn hle⟩ ?_
    rintro n a w ⟨g, hg, rfl, hn'⟩
    refine ih _ _ _ _ a w hN (fun e T m a w he hn'' => ?_) hn' (h g hg)
    cases e with
    | normal =>
      obtain ⟨g', h1, h2, h3⟩ := he
      exact ⟨_, h2, g', h1, rfl, le_sound hn'' h3⟩
    | _ => exact hQ _ _ _ _ _ he hn''
  | _ => intro Qa Q T m a w _ _ _ h; exact h.elim
end
end Go.Am
