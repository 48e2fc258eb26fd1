/- Closed runs are sound. -/
import Derived.Test.YtmmofgbjpmhgpaaDoorAm17
set_option linter.all false
set_option linter.unusedVariables false
set_option linter.unusedSimpArgs false
set_option linter.unnecessarySimpa false
namespace Go.Am
open Go Go.RowKit

section
variable {α : Type}
theorem forceNat_eq (n : Nat) (k : Nat → α) : forceNat n k = k n := by cases n <;> rfl
theorem forceInt_eq (n : Int) (k : Int → α) : forceInt n k = k n := by cases n <;> simp [forceInt, forceNat_eq]
theorem forceBool_eq (n : Bool) (k : Bool → α) : forceBool n k = k n := by cases n <;> rfl
theorem forceBytes_eq : ∀ (l : List UInt8) (k : List UInt8 → α), forceBytes l k = k l
  | [], k => rfl
  | x :: r, k => by simp [forceBytes, forceNat_eq, forceBytes_eq r]
theorem forceV_eq (v : Value) (k : Value → α) : forceV v k = k v := by
  unfold forceV
  split <;> simp [forceInt_eq, forceBool_eq, forceBytes_eq, forceNat_eq]
/-- What is handed on is less than what came in. -/
def Forces {β : Type} (R : β → β → Prop) (g : β → (β → Option α) → Option α) : Prop := ∀ x k r, g x k = some r → ∃ y, R x y ∧ k y = some r
theorem forceUp_spec {β : Type} {R : β → β → Prop} {g : β → (β → Option α) → Option α} (hg : Forces R g) : ∀ (n : Nat) (f : Nat → β) (k : List β → Option α) (r : α), forceUp g n f k = some r →
    ∃ l : List β, l.length = n ∧ (∀ (i : Nat) (y : β), l[i]? = some y → R (f i) y) ∧ k l = some r
  | 0, f, k, r, h => ⟨[], rfl, fun i y hy => by simp at hy, h⟩
  | n + 1, f, k, r, h => by
    obtain ⟨y, h1, h2⟩ := hg _ _ _ h
    obtain ⟨l, h3, h4, h5⟩ := forceUp_spec hg n _ _ _ h2
    refine ⟨y :: l, by simp [h3], fun i z hz => ?_, h5⟩
    cases i with
    | zero => simp only [List.getElem?_cons_zero, Option.some.injEq] at hz; subst hz; exact h1
    | succ i => exact h4 i z (by simpa using hz)
theorem forceList_spec {β : Type} {R : β → β → Prop} {g : β → (β → Option α) → Option α} (hg : Forces R g) : ∀ (l : List β) (k : List β → Option α) (r : α), forceList g l k = some r →
    ∃ l' : List β, l'.length = l.length ∧ (∀ (i : Nat) (y : β), l'[i]? = some y → ∃ x : β, l[i]? = some x ∧ R x y) ∧ k l' = some r
  | [], k, r, h => ⟨[], rfl, fun i y hy => by simp at hy, h⟩
  | x :: l, k, r, h => by
    obtain ⟨y, h1, h2⟩ := hg _ _ _ h
    obtain ⟨l', h3, h4, h5⟩ := forceList_spec hg l _ _ h2
    refine ⟨y :: l', by simp [h3], fun i z hz => ?_, h5⟩
    cases i with
    | zero => simp only [List.getElem?_cons_zero, Option.some.injEq] at hz; subst hz; exact ⟨x, rfl, h1⟩
    | succ i => exact h4 i z (by simpa using hz)
theorem list_at {l : List SV} {i : Nat} (h : i < l.length) : l[i]? = some (list l i) := by
  rw [List.getElem?_eq_getElem h, list_get l i l[i] (List.getElem?_eq_getElem h)]
theorem forceSV_spec : ∀ d, Forces (α := α) SV.le (forceSV d)
  | 0, s, k, r, h => ⟨s, SV.le_refl s, h⟩
  | d + 1, s, k, r, h => by
    have up : ∀ (n : Nat) (f : Nat → SV) (k' : List SV → Option α), forceUp (forceSV d) n f k' = some r → ∃ l, (∀ i, i < n → SV.le (f i) (list l i)) ∧ k' l = some r := fun n f k' h' => by
      obtain ⟨l, h1, h2, h3⟩ := forceUp_spec (forceSV_spec d) n f k' r h'
      exact ⟨l, fun i hi => h2 i _ (list_at (by omega)), h3⟩
    cases s with
    | dead => exact ⟨_, SV.le_refl _, h⟩
    | v x => simp only [forceSV, forceV_eq] at h; exact ⟨_, SV.le_refl _, h⟩
    | agg n f =>
      simp only [forceSV, forceNat_eq] at h
      obtain ⟨l, h1, h2⟩ := up _ _ _ h
      exact ⟨.agg n (list l), ⟨rfl, allLt_of' fun i hi => h1 i hi⟩, h2⟩
    | tup n f =>
      simp only [forceSV, forceNat_eq] at h
      obtain ⟨l, h1, h2⟩ := up _ _ _ h
      exact ⟨.tup n (list l), ⟨rfl, allLt_of' fun i hi => h1 i hi⟩, h2⟩
    | sl ex n e f =>
      simp only [forceSV, forceNat_eq, forceBool_eq] at h
      obtain ⟨l, h1, h2⟩ := up _ _ _ h
      refine ⟨.sl ex n e (list l), ?_, h2⟩
      cases ex <;> exact ⟨fun h => h, rfl, rfl, h1⟩
    | rd e o =>
      simp only [forceSV, forceNat_eq] at h
      obtain ⟨e', h1, h2⟩ := forceSV_spec d _ _ _ h
      exact ⟨.rd e' o, ⟨rfl, h1⟩, by simpa [forceNat_eq] using h2⟩
/-- A slot that is told less of. -/
def SW (s s' : Slot) : Prop := ∀ (w : World) (fz : Nat → Nat → Prop) (φ : Own) (v : Value), SlotRep w fz φ s v → SlotRep w fz φ s' v
theorem SW.refl (s : Slot) : SW s s := fun _ _ _ _ h => h
theorem SW.dead (s : Slot) : SW s (.p .dead) := fun _ _ _ _ _ => trivial
theorem forceS_spec : Forces (α := α) SW forceS
  | .p x, k, r, h => by
    obtain ⟨y, h1, h2⟩ := forceSV_spec 5 _ _ _ h
    exact ⟨.p y, fun w fz φ v hv => SV.le_sound h1 hv, h2⟩
  | .bx a b, k, r, h => ⟨_, SW.refl _, by simpa [forceS, forceNat_eq] using h⟩
  | .ow a, k, r, h => ⟨_, SW.refl _, by simpa [forceS, forceNat_eq] using h⟩
  | .rp a b c, k, r, h => ⟨_, SW.refl _, by simpa [forceS, forceNat_eq] using h⟩
  | .gd true s, k, r, h => by
    obtain ⟨y, h1, h2⟩ := forceS_spec s _ _ h
    exact ⟨.gd true y, fun w fz φ v hv => ⟨fun _ => h1 w fz φ v (hv.1 rfl), fun h => (by cases h)⟩, h2⟩
  | .gd false s, k, r, h => ⟨_, SW.refl _, h⟩
theorem slist_dead : ∀ {l : List Slot} {i : Nat}, l.length ≤ i → slist l i = .p .dead
  | [], _, _ => rfl
  | _ :: _, 0, h => by simp at h
  | _ :: r, i + 1, h => slist_dead (l := r) (by simpa using h)
theorem slist_at : ∀ {l : List Slot} {i : Nat}, i < l.length → l[i]? = some (slist l i)
  | x :: l, 0, _ => rfl
  | x :: l, i + 1, h => by simpa [slist] using slist_at (l := l) (i := i) (by simpa using h)
def BW (b b' : Box) : Prop := b'.n = b.n ∧ ∀ i, i < b.n → SW (b.f i) (b'.f i)
theorem forceBox_spec : Forces (α := α) BW forceBox := fun b k r h => by
  simp only [forceBox, forceNat_eq] at h
  obtain ⟨l, h1, h2, h3⟩ := forceUp_spec forceS_spec _ _ _ _ h
  exact ⟨⟨b.n, slist l⟩, ⟨rfl, fun i hi => h2 i _ (slist_at (by omega))⟩, h3⟩
def RW (r r' : Row) : Prop := r' = r ∨ leRow r r'
theorem forceRow_spec : Forces (α := α) RW forceRow := fun r k x h => by
  unfold forceRow at h
  split at h
  · rename_i ex n e f hs
    simp only [forceNat_eq] at h
    obtain ⟨l, h1, h2, h3⟩ := forceUp_spec (forceSV_spec 5) _ _ _ _ h
    refine ⟨⟨r.ty, .sl ex n e (list l), r.pub, r.live⟩, .inr ⟨rfl, fun h => h, rfl, by rw [hs]; rfl, rfl, ?_⟩, h3⟩
    rw [hs]
    simp only [SV.ro]
    rw [le_sl]
    exact ⟨rfl, rfl, fun i hi => h2 i _ (list_at (by omega))⟩
  · exact ⟨_, .inl rfl, h⟩
def MW (m m' : Mem) : Prop := m'.boxes.length = m.boxes.length ∧ m'.rows.length = m.rows.length ∧ (∀ (k : Nat) (b' : Box), m'.boxes[k]? = some b' → ∃ b : Box, m.boxes[k]? = some b ∧ BW b b') ∧ ∀ (k : Nat) (r' : Row), m'.rows[k]? = some r' → ∃ r : Row, m.rows[k]? = some r ∧ RW r r'
theorem forceM_spec : Forces (α := α) MW forceM := fun m k r h => by
  obtain ⟨b, h1, h2, h3⟩ := forceList_spec forceBox_spec _ _ _ h
  obtain ⟨rs, h4, h5, h6⟩ := forceList_spec forceRow_spec _ _ _ h3
  exact ⟨_, ⟨h1, h4, h2, h5⟩, h6⟩
theorem forceMIf_spec (b : Bool) : Forces (α := α) MW (forceMIf b) := fun m k r h => by
  cases b
  · exact ⟨m, ⟨rfl, rfl, fun _ b h => ⟨b, h, rfl, fun _ _ => SW.refl _⟩, fun _ r h => ⟨r, h, .inl rfl⟩⟩, h⟩
  · exact forceM_spec m k r h
theorem lsetK_spec : ∀ (l : List Slot) (d : Nat) (x : Slot) (k : List Slot → Option α), ∃ l', lsetK l d x k = k l' ∧ l'.length = l.length ∧ ∀ i, slist l' i = if i = d ∧ d < l.length then x else slist l i
  | [], d, x, k => ⟨[], rfl, rfl, fun i => by simp⟩
  | y :: l, 0, x, k => ⟨x :: l, rfl, rfl, fun i => by cases i <;> simp [slist]⟩
  | y :: l, d + 1, x, k => by
    obtain ⟨l', h1, h2, h3⟩ := lsetK_spec l d x (fun r => k (y :: r))
    refine ⟨y :: l', h1, by simp [h2], fun i => ?_⟩
    cases i with
    | zero => simp [slist]
    | succ i => simpa [slist] using h3 i
theorem wrBack_spec {T : Nat → Slot} : ∀ (ds : List Tmp) (l : List Slot) (k : List Slot → Option α) (r : α), wrBack T ds l k = some r → (∀ i, i ∉ ds → SW (T i) (slist l i)) → ∃ l', (∀ i, SW (T i) (slist l' i)) ∧ k l' = some r
  | [], l, k, r, h, hT => ⟨l, fun i => hT i (by simp), h⟩
  | d :: ds, l, k, r, h, hT => by
    obtain ⟨s, h1, h2⟩ := forceS_spec _ _ _ h
    obtain ⟨l', e1, e0, e2⟩ := lsetK_spec l d s (fun l => wrBack T ds l k)
    rw [e1] at h2
    refine wrBack_spec ds l' k r h2 fun i hi => ?_
    rw [e2]
    by_cases hd : i = d
    · subst hd
      by_cases hl : i < l.length
      · rw [if_pos ⟨rfl, hl⟩]; exact h1
      · have hl' : l.length ≤ i := Nat.le_of_not_lt hl
        rw [if_neg (fun h => hl h.2), slist_dead hl']; exact SW.dead _
    · rw [if_neg (fun h => hd h.1)]
      exact hT i (by simp [hd, hi])
end

section
variable {P : Program} {c : Cfg} {w0 w : World} {fz0 fz : Nat → Nat → Prop} {φ : Own} {m m' : Mem} {o : Oper} {a : Act} {T : Nat → Slot}
theorem RM.weak (hm : RM P w0 fz0 w fz φ m) (h : MW m m') : RM P w0 fz0 w fz φ m' := by
  obtain ⟨h1, h2, h3, h4⟩ := h
  have hr : ∀ k r', m'.rows[k]? = some r' → ∃ r, m.rows[k]? = some r ∧ r'.ty = r.ty ∧ (r'.live = true → r.live = true) ∧ (∀ y, RowOK P w0.heap.size w fz r y → RowOK P w0.heap.size w fz r' y) := fun k r' hk => by
    obtain ⟨r, e1, rfl | e2⟩ := h4 k r' hk
    · exact ⟨_, e1, rfl, fun h => h, fun y h => h⟩
    · exact ⟨r, e1, e2.1, e2.2.1, fun y h => leRow_sound e2 h⟩
  refine { hm with box := fun k bx hb hk => ?_, row := fun k r hk => ?_, esz := fun k r hk => ?_, nb := fun k hb => by rw [h1]; exact hm.nb k hb, nr := by rw [h2]; exact hm.nr, dbr := fun k k' r hb hk hl => ?_, drr := fun k k' r r' b e1 e2 l1 l2 => ?_ }
  · obtain ⟨b, e1, e2, e3⟩ := h3 k bx hk
    obtain ⟨g1, ⟨cs, Ty, g2, g3, g4⟩, g5⟩ := hm.box k b hb e1
    refine ⟨g1, ⟨cs, Ty, g2, by rw [e2]; exact g3, fun i hi => ?_⟩, g5⟩
    rw [e2] at hi
    obtain ⟨u, k1, k2, k3⟩ := g4 i hi
    exact ⟨u, k1, k2, e3 i hi _ _ _ _ k3⟩
  · obtain ⟨r0, e1, _, _, e4⟩ := hr k r hk
    exact e4 _ (hm.row k r0 e1)
  · obtain ⟨r0, e1, e2, _⟩ := hr k r hk
    rw [e2]; exact hm.esz k r0 e1
  · obtain ⟨r0, e1, _, e3, _⟩ := hr k' r hk
    exact hm.dbr k k' r0 hb e1 (e3 hl)
  · obtain ⟨r0, f1, _, f3, _⟩ := hr k r e1
    obtain ⟨r1, f1', _, f3', _⟩ := hr k' r' e2
    exact hm.drr k k' r0 r1 b f1 f1' (f3 l1) (f3' l2)
theorem Nxt.weak {N : Nat} {T' : Nat → Slot} (h : Nxt P w0 fz0 N T m a w) (hT : ∀ i, SW (T i) (T' i)) (hm : MW m m') : Nxt P w0 fz0 N T' m' a w := by
  obtain ⟨fz, φ, hrs, hfull, hdf, hsz⟩ := h
  exact ⟨fz, φ, ⟨hrs.mem.weak hm, fun i => hT i _ _ _ _ (hrs.slots i)⟩, fun k hk => hfull k (hm.1 ▸ hk), hdf, hsz⟩
theorem MW.refl (m : Mem) : MW m m := ⟨rfl, rfl, fun _ b h => ⟨b, h, rfl, fun _ _ => SW.refl _⟩, fun _ r h => ⟨r, h, .inl rfl⟩⟩

theorem dsts_cons {o : Oper} {r : List Oper} {i : Nat} (h : i ∉ dsts (o :: r)) : i ∉ dsts r ∧ o.dst ≠ some i := by
  unfold dsts at h
  cases hd : o.dst with
  | none => rw [hd] at h; exact ⟨h, by simp⟩
  | some d =>
    rw [hd] at h
    dsimp only at h
    split at h
    · rename_i hc
      refine ⟨h, fun e => h ?_⟩
      obtain rfl := Option.some.inj e
      simpa using hc
    · simp only [List.mem_cons, not_or] at h
      exact ⟨h.2, fun e => h.1 (Option.some.inj e).symm⟩

theorem runX_sound [∀ f l, Decidable (c.spec f l).pre] {ops : Array Oper} : ∀ (l : List Oper) (T : Nat → Slot) (m : Mem) (T' : Nat → Slot) (m' : Mem), runX c ops l T m = some (T', m') →
    (∀ K : St → Prop, K ⟨T', m'⟩ → runOps c ops K l T m) ∧ ∀ i, i ∉ dsts l → T' i = T i
  | [], T, m, T', m', h => by
    simp only [runX, Option.some.injEq, Prod.mk.injEq] at h
    obtain ⟨rfl, rfl⟩ := h
    exact ⟨fun K h => h, fun _ _ => rfl⟩
  | o :: r, T, m, T', m', h => by
    unfold runX at h
    unfold runOps
    split at h
    · rename_i hg
      rw [hg]
      dsimp only
      split at h
      · rename_i A hA
        split at h
        · rename_i hs
          rw [hA] at hs ⊢
          obtain ⟨h1, h2⟩ := runX_sound r _ _ _ _ h
          obtain ⟨s, e⟩ := act_putT hA hs
          refine ⟨fun K hK => ⟨hs, h1 K hK⟩, fun i hi => ?_⟩
          obtain ⟨i1, i2⟩ := dsts_cons hi
          rw [h2 i i1, e, putT_at, if_neg i2]
        · cases h
      · rename_i hA
        split at h
        · rename_i hs
          rw [hA]
          obtain ⟨h1, h2⟩ := runX_sound r _ _ _ _ h
          refine ⟨fun K hK => ⟨hs, h1 K hK⟩, fun i hi => ?_⟩
          obtain ⟨i1, i2⟩ := dsts_cons hi
          rw [h2 i i1, putT_at, if_neg i2]
        · cases h
    · rename_i j want hg
      rw [hg]
      dsimp only
      split at h
      · cases h
      · rename_i d hd
        split at h
        · cases h
        · rename_i g hw
          split at h
          · rename_i hs
            rw [hd]
            dsimp only
            rw [hw]
            dsimp only
            obtain ⟨h1, h2⟩ := runX_sound r _ _ _ _ h
            refine ⟨fun K hK => ⟨hs.1, hs.2.1, hs.2.2, h1 K hK⟩, fun i hi => ?_⟩
            obtain ⟨i1, i2⟩ := dsts_cons hi
            rw [h2 i i1, putT_at, if_neg i2]
          · cases h

theorem chkB_spec {ops : Array Oper} : ∀ {U : List (Nat × Nat)} {i : Nat} {hT : Nat → Nat → Slot} {hV T : Nat → Slot} {v : Slot}, chkB c ops U i hT hV T v = true → chkU c ops U i hT hV T v
  | [], _, _, _, _, _, _ => trivial
  | (q, j) :: r, i, hT, hV, T, v, h => by
    simp only [chkB, Bool.and_eq_true] at h
    refine ⟨?_, chkB_spec h.2⟩
    have h1 := h.1
    split
    · rename_i e
      rw [if_pos (by simp [e])] at h1
      split
      · rename_i e2; rw [if_pos (by simpa using e2)] at h1; exact h1
      · trivial
    · rename_i e
      rw [if_neg (by simp [e])] at h1
      split
      · rename_i e3
        rw [if_pos (by simp [e3])] at h1
        split
        · rename_i e2; rw [if_pos (by simpa using e2)] at h1; exact h1
        · trivial
      · trivial
theorem runHX_sound [∀ f l, Decidable (c.spec f l).pre] {ops : Array Oper} {U : List (Nat × Nat)} : ∀ (l : List Oper) (i : Nat) (hT : Nat → Nat → Slot) (hV T : Nat → Slot) (m : Mem) (T' : Nat → Slot) (m' : Mem), runHX c ops U l i hT hV T m = some (T', m') →
    (∀ K : St → Prop, K ⟨T', m'⟩ → runH c ops U K l i hT hV T m) ∧ ∀ i, i ∉ dsts l → T' i = T i
  | [], i, hT, hV, T, m, T', m', h => by
    simp only [runHX, Option.some.injEq, Prod.mk.injEq] at h
    obtain ⟨rfl, rfl⟩ := h
    exact ⟨fun K h => h, fun _ _ => rfl⟩
  | o :: r, i, hT, hV, T, m, T', m', h => by
    unfold runHX at h
    unfold runH
    split at h
    · rename_i hg
      rw [hg]
      dsimp only
      split at h
      · rename_i A hA
        split at h
        · rename_i hs
          obtain ⟨hs, hc⟩ := hs
          rw [hA] at hs ⊢
          obtain ⟨h1, h2⟩ := runHX_sound r _ _ _ _ _ _ _ h
          obtain ⟨s, e⟩ := act_putT hA hs
          refine ⟨fun K hK => ⟨hs, chkB_spec hc, h1 K hK⟩, fun i hi => ?_⟩
          obtain ⟨i1, i2⟩ := dsts_cons hi
          rw [h2 i i1, e, putT_at, if_neg i2]
        · cases h
      · rename_i hA
        split at h
        · rename_i hs
          obtain ⟨hs, hc⟩ := hs
          rw [hA]
          obtain ⟨h1, h2⟩ := runHX_sound r _ _ _ _ _ _ _ h
          refine ⟨fun K hK => ⟨hs, chkB_spec hc, h1 K hK⟩, fun i hi => ?_⟩
          obtain ⟨i1, i2⟩ := dsts_cons hi
          rw [h2 i i1, putT_at, if_neg i2]
        · cases h
    · rename_i j want hg
      rw [hg]
      dsimp only
      split at h
      · cases h
      · rename_i d hd
        split at h
        · cases h
        · rename_i g hw
          split at h
          · rename_i hs
            rw [hd]
            dsimp only
            rw [hw]
            dsimp only
            obtain ⟨h1, h2⟩ := runHX_sound r _ _ _ _ _ _ _ h
            refine ⟨fun K hK => ⟨hs.1, hs.2.1, hs.2.2.1, chkB_spec hs.2.2.2, h1 K hK⟩, fun i hi => ?_⟩
            obtain ⟨i1, i2⟩ := dsts_cons hi
            rw [h2 i i1, putT_at, if_neg i2]
          · cases h
/-- A region's run. -/
def runR (c : Cfg) (ops : Array Oper) (K : St → Prop) (T : Nat → Slot) (m : Mem) : Option (List (Nat × Nat)) → Prop
  | none => runOps c ops K ops.toList T m
  | some U => runH c ops U K ops.toList 0 (fun _ => T0) T0 T m
theorem runRX_sound [∀ f l, Decidable (c.spec f l).pre] {ops : Array Oper} {un : Option (List (Nat × Nat))} {T : Nat → Slot} {m : Mem} {T' : Nat → Slot} {m' : Mem} (h : runRX c ops T m un = some (T', m')) :
    (∀ K : St → Prop, K ⟨T', m'⟩ → runR c ops K T m un) ∧ ∀ i, i ∉ dsts ops.toList → T' i = T i := by
  cases un with
  | none => exact runX_sound _ _ _ _ _ h
  | some U => exact runHX_sound _ _ _ _ _ _ _ _ h

theorem slist_map (f : Slot → Slot) (h0 : f (.p .dead) = .p .dead) : ∀ (l : List Slot) (i : Nat), slist (l.map f) i = f (slist l i)
  | [], i => h0.symm
  | _ :: _, 0 => rfl
  | _ :: r, i + 1 => slist_map f h0 r i

theorem xcode_sound [∀ f l, Decidable (c.spec f l).pre] (hmx : P.follows .mixedOrders = true) (hc : c.ti = TI.of P) (hs : Know P w0 c) {N F : Nat} : ∀ (code : Code) (l : List Slot) (m : Mem) (a : Act) (w : World) (e : Exit) (l' : List Slot) (m' : Mem),
    codeN c.un N code = true → xcode c F code l m = some (e, l', m') → Nxt P w0 fz0 N (slist l) m a w → code.wp P (fun e' a' w' => e' = e ∧ Nxt P w0 fz0 N (slist l') m' a' w') a w := by
  intro code
  induction code with
  | skip =>
    intro l m a w e l' m' _ h hn
    simp only [xcode, Option.some.injEq, Prod.mk.injEq] at h
    obtain ⟨rfl, rfl, rfl⟩ := h
    exact wp_skip ⟨rfl, hn⟩
  | label k =>
    intro l m a w e l' m' _ h hn
    simp only [xcode, Option.some.injEq, Prod.mk.injEq] at h
    obtain ⟨rfl, rfl, rfl⟩ := h
    exact wp_label ⟨rfl, hn⟩
  | exit id =>
    intro l m a w e l' m' _ h hn
    simp only [xcode, Option.some.injEq, Prod.mk.injEq] at h
    obtain ⟨rfl, rfl, rfl⟩ := h
    exact wp_exit ⟨rfl, hn⟩
  | ret =>
    intro l m a w e l' m' _ h hn
    simp only [xcode, Option.some.injEq, Prod.mk.injEq] at h
    obtain ⟨rfl, rfl, rfl⟩ := h
    exact wp_ret ⟨rfl, hn⟩
  | region id ops draw =>
    intro l m a w e l' m' hN h hn
    have hN' : ∀ (i : Nat) (o : Oper) (d : Tmp), ops[i]? = some o → o.dst = some d → d < N := fun i o d ho hd => by
      simp only [codeN, Bool.and_eq_true, Array.all_eq_true_iff_forall_mem] at hN
      have := hN.1 o (Array.mem_of_getElem? ho)
      rw [hd] at this
      simpa using this
    have reg : ∀ {T1 : Nat → Slot} {m1 : Mem} {K : St → Prop}, Nxt P w0 fz0 N T1 m1 a w → runR c ops K T1 m1 (c.un id) → (∀ T m a w, K ⟨T, m⟩ → Nxt P w0 fz0 N T m a w → e = .normal ∧ Nxt P w0 fz0 N (slist l') m' a w) → (Code.region id ops draw).wp P (fun e' a' w' => e' = e ∧ Nxt P w0 fz0 N (slist l') m' a' w') a w := by
      intro T1 m1 K hn1 hr hK
      have hR : regN (c.un id) ops draw = true := by
        simp only [codeN, Bool.and_eq_true] at hN
        exact hN.2
      cases hu : c.un id with
      | none =>
        rw [hu] at hr hR
        cases draw
        · exact region_sound hc hs hN' (fun T m a w hk hn => ⟨(hK T m a w hk hn).1.symm, (hK T m a w hk hn).2⟩) hn1 hr
        · exact draw_sound hmx hc hs (by simpa [regN] using hR) hN' (fun T m a w hk hn => ⟨(hK T m a w hk hn).1.symm, (hK T m a w hk hn).2⟩) hn1 hr
      | some U =>
        rw [hu] at hr hR
        simp only [regN, Bool.and_eq_true] at hR
        obtain ⟨rfl, hR⟩ := hR
        exact hard_sound hmx hc hs hR hN' (fun T m a w hk hn => ⟨(hK T m a w hk hn).1.symm, (hK T m a w hk hn).2⟩) hn1 hr
    simp only [xcode] at h
    split at h
    · split at h
      · rename_i T' m1 hx
        obtain ⟨m2, g1, g2⟩ := forceMIf_spec _ _ _ _ h
        obtain ⟨k1, k2⟩ := runRX_sound hx
        obtain ⟨l2, g3, g4⟩ := wrBack_spec _ _ _ _ g2 (fun i hi => by rw [k2 i hi]; exact SW.refl _)
        simp only [Option.some.injEq, Prod.mk.injEq] at g4
        obtain ⟨rfl, rfl, rfl⟩ := g4
        refine reg hn (k1 (fun s => s = ⟨T', m1⟩) rfl) ?_
        rintro T m a w ⟨rfl, rfl⟩ hn'
        exact ⟨rfl, hn'.weak g3 g1⟩
      · cases h
    · split at h
      · rename_i T' m1 hx
        obtain ⟨m2, g1, g2⟩ := forceMIf_spec _ _ _ _ h
        obtain ⟨k1, k2⟩ := runRX_sound hx
        obtain ⟨l2, g3, g4⟩ := wrBack_spec _ _ _ _ g2 (fun i hi => by rw [k2 i hi]; exact SW.refl _)
        obtain ⟨l3, q1, q2, q3⟩ := forceList_spec forceS_spec _ _ _ g4
        simp only [Option.some.injEq, Prod.mk.injEq] at q3
        obtain ⟨rfl, rfl, rfl⟩ := q3
        have hn2 := hn.freeze
        have ht : (St.freeze ⟨slist l, m⟩).t = slist (l.map (·.frz m)) := funext fun i => (slist_map (·.frz m) rfl l i).symm
        rw [ht] at hn2
        refine reg hn2 (k1 (fun s => s = ⟨T', m1⟩) rfl) ?_
        rintro T m a w ⟨rfl, rfl⟩ hn'
        refine ⟨rfl, (hn'.weak g3 g1).weak (fun i => ?_) (MW.refl _)⟩
        by_cases hi : i < l3.length
        · obtain ⟨x, e1, e2⟩ := q2 i _ (slist_at hi)
          rw [slist_at (by omega)] at e1
          rw [Option.some.inj e1]; exact e2
        · rw [slist_dead (l := l3) (i := i) (by omega)]; exact SW.dead _
      · cases h
  | seq x y ihx ihy =>
    intro l m a w e l' m' hN h hn
    simp only [codeN, Bool.and_eq_true] at hN
    simp only [xcode] at h
    split at h
    · rename_i l1 m1 hx
      refine Go.wp_seq (wp_mono (ihx _ _ a w _ _ _ hN.1 hx hn) ?_)
      rintro e1 a1 w1 ⟨rfl, hn1⟩
      exact ihy _ _ _ _ _ _ _ hN.2 h hn1
    · rename_i hne
      refine Go.wp_seq (wp_mono (ihx _ _ a w _ _ _ hN.1 h hn) ?_)
      rintro e1 a1 w1 ⟨rfl, hn1⟩
      cases e1 with
      | normal => exact absurd h (hne _ _)
      | _ => exact ⟨rfl, hn1⟩
  | cond x y z ihy ihz =>
    intro l m a w e l' m' hN h hn
    simp only [codeN, Bool.and_eq_true] at hN
    simp only [xcode] at h
    obtain ⟨fz, φ, hrs, _⟩ := id hn
    have hv := slotRep_val hrs.slots x
    split at h
    · rename_i hx
      rw [hx] at hv
      exact Go.wp_cond_true hv (ihy _ _ _ _ _ _ _ hN.1 h hn)
    · rename_i hx
      rw [hx] at hv
      exact Go.wp_cond_false hv (ihz _ _ _ _ _ _ _ hN.2 h hn)
    · cases h
  | block id x ih =>
    intro l m a w e l' m' hN h hn
    simp only [xcode] at h
    split at h
    · rename_i id' l1 m1 hx
      refine Go.wp_block (wp_mono (ih _ _ a w _ _ _ hN hx hn) ?_)
      rintro e1 a1 w1 ⟨rfl, hn1⟩
      simp only [Exit.inBlock]
      split at h
      · rename_i hid
        simp only [Option.some.injEq, Prod.mk.injEq] at h
        obtain ⟨rfl, rfl, rfl⟩ := h
        rw [if_pos hid]; exact ⟨rfl, hn1⟩
      · rename_i hid
        simp only [Option.some.injEq, Prod.mk.injEq] at h
        obtain ⟨rfl, rfl, rfl⟩ := h
        rw [if_neg hid]; exact ⟨rfl, hn1⟩
    · rename_i hne
      refine Go.wp_block (wp_mono (ih _ _ a w _ _ _ hN h hn) ?_)
      rintro e1 a1 w1 ⟨rfl, hn1⟩
      cases e1 with
      | exit id' => exact absurd h (hne _ _ _)
      | _ => exact ⟨rfl, hn1⟩
  | loop x ih =>
    intro l m a w e l' m' hN h hn
    simp only [xcode] at h
    refine Go.wp_loop_rounds F ?_
    generalize hF : xcode c F x = f at h ih
    clear hF
    have key : ∀ (n : Nat) (l : List Slot) (m : Mem) (a : Act) (w : World), xloop f n l m = some (e, l', m') → Nxt P w0 fz0 N (slist l) m a w → Code.rounds P x (fun e' a' w' => e' = e ∧ Nxt P w0 fz0 N (slist l') m' a' w') n a w := by
      intro n
      induction n with
      | zero => intro l m a w h; cases h
      | succ n ihn =>
        intro l m a w h hn
        simp only [xloop] at h
        split at h
        · rename_i l1 m1 hx
          refine wp_mono (ih _ _ a w _ _ _ hN hx hn) ?_
          rintro e1 a1 w1 ⟨rfl, hn1⟩
          exact ihn _ _ _ _ h hn1
        · rename_i hne
          refine wp_mono (ih _ _ a w _ _ _ hN h hn) ?_
          rintro e1 a1 w1 ⟨rfl, hn1⟩
          cases e1 with
          | normal => exact absurd h (hne _ _)
          | _ => exact ⟨rfl, hn1⟩
    exact key F l m a w h hn
  | _ => intro l m a w e l' m' _ h; cases h

theorem sidesB_spec (c : Cfg) (s : St) : ∀ l, sidesB c s l = true → sides (l.map (resR c s))
  | [], _ => trivial
  | r :: l, h => by
    simp only [sidesB, Bool.and_eq_true, decide_eq_true_eq] at h
    exact ⟨h.1, sidesB_spec c s l h.2⟩

/-- What is asked of the functions that are run. -/
structure FnOK (P : Program) (f : FuncId) (x : Fn) : Prop where
  ex : ∃ fn, P.funcs[f]? = some fn ∧ fn.body = some x.code ∧ fn.name ≠ "runtime.NumGoroutine" ∧ fn.ntmps = x.ntmps ∧ fn.results.toList = x.res
  code : codeN x.opt.un x.ntmps x.code = true

theorem reps_force {w : World} {fz : Nat → Nat → Prop} : ∀ {l l' : List SV} {vs : List Value}, l'.length = l.length → (∀ (i : Nat) (y : SV), l'[i]? = some y → ∃ x : SV, l[i]? = some x ∧ SV.le x y) → Reps w fz l vs → Reps w fz l' vs
  | [], [], _, _, _, .nil => .nil
  | x :: l, y :: l', _, h1, h2, .cons h t => by
    obtain ⟨x', e1, e2⟩ := h2 0 y rfl
    simp only [List.getElem?_cons_zero, Option.some.injEq] at e1
    subst e1
    exact .cons (SV.le_sound e2 h) (reps_force (by simpa using h1) (fun i z hz => by simpa using h2 (i + 1) z (by simpa using hz)) t)
  | [], _ :: _, _, h1, _, _ => by simp at h1
  | _ :: _, [], _, h1, _, _ => by simp at h1

theorem slist_append_dead : ∀ (l : List SV) (n i : Nat), slist (l.map .p ++ List.replicate n (.p .dead)) i = .p (list l i)
  | [], n, i => by
    simp only [List.map_nil, List.nil_append, list]
    induction n generalizing i with
    | zero => rfl
    | succ n ih => cases i with
      | zero => rfl
      | succ i => exact ih i
  | x :: l, n, 0 => rfl
  | x :: l, n, i + 1 => slist_append_dead l n i

theorem callX_sound {G : World → Prop} (hG : ∀ w w', G w → Below w.heap.size w w' → G w') (hmx : P.follows .mixedOrders = true) {base : FuncId → List SV → Option SV} (hbase : ∀ f, Impl P G f (specOf base f))
    {ti : TypeId → TI} (hti : ti = TI.of P) {fns : FuncId → Option Fn} (hfns : ∀ f x, fns f = some x → FnOK P f x) (F : Nat) : ∀ n f, Impl P G f (specOf (callX ti base fns F n) f)
  | 0, f => hbase f
  | n + 1, f => by
    have ih := callX_sound hG hmx hbase hti hfns F n
    intro w hw fz args svs hlt hargs hpre
    simp only [specOf, callX] at hpre ⊢
    cases hb : base f svs with
    | some r =>
      have := hbase f w hw fz args svs hlt hargs (by simp [specOf, hb])
      simpa [specOf, hb] using this
    | none =>
      rw [hb] at hpre
      dsimp only at hpre ⊢
      cases hf : fns f with
      | none => rw [hf] at hpre; exact hpre.elim
      | some x =>
        rw [hf] at hpre
        dsimp only at hpre ⊢
        obtain ⟨⟨fn, k1, k2, k3, k4, k5⟩, hN⟩ := hfns f x hf
        have hct : (xcfg ti (callX ti base fns F n) x.opt).ti = TI.of P := hti
        have hs : Know P w (xcfg ti (callX ti base fns F n) x.opt) := fun w' hb f => ih f w' (hG _ _ hw hb)
        have hrun : (callFunc f args.toArray).run P w = .ok (.enter f args.toArray) w := by
          simp [callFunc, k1, k2, k3]
        rw [hrun]
        split at hpre
        · rename_i r hr
          obtain ⟨svs', g1, g2, g3⟩ := forceList_spec (forceSV_spec 5) _ _ _ hr
          have hargs' := reps_force g1 g2 hargs
          have hlen0 : svs'.length = args.length := by rw [hargs'.length]
          split at g3
          case h_3 => cases g3
          all_goals
            rename_i l m hx
            split at g3
            case isFalse => cases g3
            rename_i hcond
            obtain ⟨hlen, hsd⟩ := hcond
            obtain ⟨r', q1, q2⟩ := forceSV_spec 5 _ _ _ g3
            obtain rfl : r' = r := Option.some.inj q2
            refine calls_of_wp k1 k2 ?_
            have hN' : codeN x.opt.un fn.ntmps x.code = true := by rw [k4]; exact hN
            refine wp_mono (xcode_sound (w0 := w) (fz0 := fz) (N := fn.ntmps) hmx hct hs x.code _ _ _ _ _ _ _ hN' hx ?_) ?_
            · refine ⟨fz, ⟨fun _ => 0, fun _ => undef, fun _ => 0, fun _ => False, 0⟩, ⟨{ more0 := fun _ _ h => h, only0 := fun _ _ h => .inl h, below := Below.refl _ _, lt := hlt, box := fun _ _ h => h.elim, row := fun k r h => by simp at h, esz := fun k r h => by simp at h, nb := fun _ h => h.elim, nr := rfl, dbb := fun _ _ h => h.elim, dbr := fun _ _ _ h => h.elim, drr := fun k k' r r' b h => by simp at h }, fun i => ?_⟩, fun k hk => by simp at hk, rfl, by simp; omega⟩
              rw [slist_append_dead]
              show Rep w fz (list svs' i) _
              by_cases hi : i < args.length
              · have e : (args.toArray ++ Array.replicate (fn.ntmps - args.toArray.size) undef).getD i undef = args[i] := by
                  simp [Array.getElem?_append, hi]
                rw [e]
                exact hargs'.get (List.getElem?_eq_getElem hi)
              · have hd : ∀ (l : List SV) (i : Nat), l.length ≤ i → list l i = .dead := fun l => by
                  induction l with
                  | nil => intro i _; cases i <;> rfl
                  | cons x l ih =>
                    intro i hi
                    cases i with
                    | zero => simp at hi
                    | succ i => exact ih i (by simpa using hi)
                rw [hd svs' i (by omega)]
                trivial
            · rintro e a w' ⟨rfl, fz', φ, hrs, _, hdf, hsz⟩
              have hsd' := sidesB_spec _ _ _ hsd
              obtain ⟨vs, p1, p2⟩ := results_sound hct hrs _ hsd'
              refine ⟨hdf, _, ?_, _, rfl, frozen w w' fz', ⟨hrs.mem.below, fun b o x => .inl (hrs.mem.more0 b o x), fun b o x => ?_, fun b o x => ?_⟩, SV.le_sound q1 (ret_sound p2)⟩
              · have e : fn.results.mapM (resM a.tmps) = List.toArray <$> fn.results.toList.mapM (resM a.tmps) := Array.mapM_eq_mapM_toList
                have e2 : results fn a.tmps = (do let vs ← fn.results.mapM (resM a.tmps); pure (if h : vs.size = 1 then vs[0] else .tuple vs)) := by
                  unfold results
                  rfl
                rw [e2, e, k5]
                simp only [Sem.run_bind, Sem.run_map, p1, Result.andThen_ok, Sem.run_pure]
              · rcases x with x | x
                · exact hrs.mem.only0 b o x
                · exact .inr x.1
              · rcases x with x | x
                · exact hrs.mem.lt b o x
                · exact x.2
        · exact hpre.elim
end
end Go.Am
