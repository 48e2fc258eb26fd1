/- The operations that change the machine's own memory. -/
import Derived.Test.YtmmofgbjpmhgpaaDoorAm4
set_option linter.all false
set_option linter.unusedVariables false
set_option linter.unusedSimpArgs false
set_option linter.unnecessarySimpa false
namespace Go.Am
open Go Go.RowKit

section
variable {P : Program} {c : Cfg} {w0 w : World} {fz0 fz : Nat → Nat → Prop} {φ : Own} {m : Mem} {a : Act}

theorem getD_put {a : Act} {dst : Option Tmp} {v : Value} (hd : ∀ d, dst = some d → d < a.tmps.size) (i : Nat) :
    (a.put dst v).tmps.getD i undef = if dst = some i then v else a.tmps.getD i undef := by
  cases dst with
  | none => simp [Act.put]
  | some d =>
    have := hd d rfl
    by_cases h : d = i
    · subst h
      simp [Act.put, this]
    · simp [Act.put, h, Array.getElem?_setIfInBounds_ne h]

theorem putT_at {T : Nat → Slot} {dst : Option Tmp} {s : Slot} (i : Nat) : putT T dst s i = if dst = some i then s else T i := by
  cases dst with
  | none => simp [putT]
  | some d =>
    simp only [putT, upd, Option.some.injEq]
    by_cases h : i = d
    · simp [h]
    · rw [if_neg h, if_neg (fun e => h e.symm)]

theorem slots_put {T : Nat → Slot} {dst : Option Tmp} {s : Slot} {v : Value} (hd : ∀ d, dst = some d → d < a.tmps.size) (hT : ∀ i, SlotRep w fz φ (T i) (a.tmps.getD i undef)) (hs : SlotRep w fz φ s v) :
    ∀ i, SlotRep w fz φ (putT T dst s i) ((a.put dst v).tmps.getD i undef) := by
  intro i
  rw [getD_put hd, putT_at]
  split
  · exact hs
  · exact hT i

theorem size_put {a : Act} {dst : Option Tmp} {v : Value} : (a.put dst v).tmps.size = a.tmps.size := by cases dst <;> simp [Act.put]
theorem defers_put {a : Act} {dst : Option Tmp} {v : Value} : (a.put dst v).defers = a.defers := by cases dst <;> simp [Act.put]

/-- More memory of its own. -/
structure Own.le (φ φ' : Own) : Prop where
  nb : ∀ k, φ.bok k → φ'.bok k
  nr : φ.nr ≤ φ'.nr
  box : ∀ k, φ.bok k → φ'.box k = φ.box k
  row : ∀ k, k < φ.nr → φ'.row k = φ.row k
  esz : ∀ k, k < φ.nr → φ'.esz k = φ.esz k

theorem SlotRep.own {φ φ' : Own} (h : φ.le φ') : ∀ {s : Slot} {y : Value}, SlotRep w fz φ s y → SlotRep w fz φ' s y
  | .p _, _, r => r
  | .bx k _, y, r => ⟨h.nb k r.1, by rw [h.box k r.1]; exact r.2⟩
  | .ow k, y, r => ⟨Nat.lt_of_lt_of_le r.1 h.nr, by rw [h.row k r.1]; exact r.2⟩
  | .rp k i off, y, r => by
    obtain ⟨h1, b, n, c, e1, e2⟩ := r
    exact ⟨Nat.lt_of_lt_of_le h1 h.nr, b, n, c, by rw [h.row k h1]; exact e1, by rw [h.esz k h1]; exact e2⟩
  | .gd _ s, y, r => ⟨fun hc => SlotRep.own h (r.1 hc), r.2⟩

theorem BoxOK.own {B b : Nat} {bx : Box} {φ φ' : Own} (h : φ.le φ') (r : BoxOK B w fz φ b bx) : BoxOK B w fz φ' b bx := by
  obtain ⟨h1, ⟨cs, T, h2, h3, h4⟩, h5⟩ := r
  refine ⟨h1, ⟨cs, T, h2, h3, fun i hi => ?_⟩, h5⟩
  obtain ⟨u, g1, g2, g3⟩ := h4 i hi
  exact ⟨u, g1, g2, g3.own h⟩

theorem getElem?_append_one {α : Type} {l : List α} {x y : α} {k : Nat} (h : (l ++ [x])[k]? = some y) : (k < l.length ∧ l[k]? = some y) ∨ (k = l.length ∧ y = x) := by
  rcases Nat.lt_or_ge k l.length with hk | hk
  · rw [List.getElem?_append_left hk] at h
    exact .inl ⟨hk, h⟩
  · rw [List.getElem?_append_right hk] at h
    have : k - l.length = 0 := by
      rcases Nat.eq_zero_or_pos (k - l.length) with h0 | h0
      · exact h0
      · rw [List.getElem?_eq_none (by simp; omega)] at h; cases h
    rw [this] at h
    exact .inr ⟨by omega, by simpa using h.symm⟩

theorem lt_of_getElem? {α : Type} {l : List α} {x : α} {k : Nat} (h : l[k]? = some x) : k < l.length := (List.getElem?_eq_some_iff.1 h).1

/-- The block of a live row has been there. -/
theorem RM.row_lt (hm : RM P w0 fz0 w fz φ m) {k b : Nat} {r : Row} (hk : m.rows[k]? = some r) (hl : r.live = true) (hb : (φ.row k).ownBlock = some b) : b < w.heap.size := by
  rcases ((hm.row k r hk).1 hl).shape with ⟨e, _⟩ | ⟨b', c, cur, e, _, hh, _⟩
  · rw [e] at hb; cases hb
  · rw [e] at hb
    simp only [Value.ownBlock, Option.some.injEq] at hb
    subst hb
    exact (Array.getElem?_eq_some_iff.1 hh).1

def Own.addBox (φ : Own) (k b : Nat) : Own := { φ with box := upd φ.box k b, bok := fun j => φ.bok j ∨ j = k }
def Own.addRow (φ : Own) (y : Value) (e : Nat) : Own := { φ with row := upd φ.row φ.nr y, esz := upd φ.esz φ.nr e, nr := φ.nr + 1 }

theorem Own.le_addBox {φ : Own} {k : Nat} (h : ¬ φ.bok k) (b : Nat) : φ.le (φ.addBox k b) :=
  { nb := fun _ h => .inl h, nr := Nat.le_refl _, box := fun j hj => by simp [Own.addBox, upd, show ¬ j = k from fun e => h (e ▸ hj)], row := fun _ _ => rfl, esz := fun _ _ => rfl }
theorem Own.le_addRow (φ : Own) (y : Value) (e : Nat) : φ.le (φ.addRow y e) :=
  { nb := fun _ h => h, nr := by simp [Own.addRow], box := fun _ _ => rfl, row := fun k hk => by simp [Own.addRow, upd, Nat.ne_of_lt hk], esz := fun k hk => by simp [Own.addRow, upd, Nat.ne_of_lt hk] }

/-- A box that is there but not yet laid is laid in a new block. -/
theorem RM.addBox (hm : RM P w0 fz0 w fz φ m) {cs : Array Value} {T : TypeId} {bx : Box} {kb : Nat} (hkb : ¬ φ.bok kb) (hget : m.boxes[kb]? = some bx) (hs : cs.size = bx.n) (hc : ∀ i, i < bx.n → ∃ u, cs[i]? = some u ∧ u.oneCell' = true ∧ SlotRep w fz φ (bx.f i) u) :
    RM P w0 fz0 (w.alloc (.cells cs T)) fz (φ.addBox kb w.heap.size) m := by
  have hext : Ext w fz (w.alloc (.cells cs T)) fz :=
    { below := (Below.refl _ _).alloc (Nat.le_refl _) _, more := fun _ _ h => h, only := fun _ _ h => .inl h, lt := fun b o h => by rw [World.size_alloc]; have := hm.lt b o h; omega }
  have hm' := hm.ext hext
  have hle := Own.le_addBox hkb w.heap.size
  have hnew : (φ.addBox kb w.heap.size).box kb = w.heap.size := by simp [Own.addBox, upd]
  have hlt : ∀ k, φ.bok k → φ.box k < w.heap.size := fun k hk => by
    have hk' := hm.nb k hk
    exact (hm.box k m.boxes[k] hk (by simp [hk'])).lt
  refine ⟨hm'.more0, hm'.only0, hm'.below, hm'.lt, fun k bx' hb hk => ?_, hm'.row, hm'.esz, fun k hb => ?_, hm'.nr, fun k k' hk hk' he => ?_, fun k k' r hk hr hl => ?_, hm'.drr⟩
  · rcases hb with h1 | rfl
    · rw [hle.box k h1]
      exact (hm'.box k bx' h1 hk).own hle
    · rw [hget] at hk
      obtain rfl := Option.some.inj hk
      rw [hnew]
      refine ⟨hm.below.size, ⟨cs, T, heap_alloc_new w _, hs, fun i hi => ?_⟩, fun o ho => ?_⟩
      · obtain ⟨u, g1, g2, g3⟩ := hc i hi
        exact ⟨u, g1, g2, (g3.ext hext hm.lt).own hle⟩
      · have := hm.lt _ _ ho; omega
  · rcases hb with h1 | rfl
    · exact hm.nb k h1
    · exact (List.getElem?_eq_some_iff.1 hget).1
  · rcases hk with h1 | rfl <;> rcases hk' with h2 | rfl
    · rw [hle.box k h1, hle.box k' h2] at he; exact hm.dbb k k' h1 h2 he
    · rw [hle.box k h1, hnew] at he; have := hlt k h1; omega
    · rw [hle.box k' h2, hnew] at he; have := hlt k' h2; omega
    · rfl
  · rcases hk with h1 | rfl
    · rw [hle.box k h1]; exact hm.dbr k k' r h1 hr hl
    · rw [hnew]
      intro hb
      have hb' : (φ.row k').ownBlock = some w.heap.size := hb
      have := hm.row_lt hr hl hb'
      omega

/-- Boxes that are not yet laid. -/
theorem RM.moreBoxes (hm : RM P w0 fz0 w fz φ m) (l : List Box) : RM P w0 fz0 w fz φ { m with boxes := m.boxes ++ l } :=
  { hm with
    box := fun k bx hb hk => by
      have := hm.nb k hb
      dsimp only at hk
      rw [List.getElem?_append_left this] at hk
      exact hm.box k bx hb hk
    nb := fun k hb => by have := hm.nb k hb; dsimp only; rw [List.length_append]; omega }

/-- What is known when an operation is to be carried out. -/
structure RS (P : Program) (w0 : World) (fz0 : Nat → Nat → Prop) (w : World) (fz : Nat → Nat → Prop) (φ : Own) (T : Nat → Slot) (m : Mem) (a : Act) : Prop where
  mem : RM P w0 fz0 w fz φ m
  slots : ∀ i, SlotRep w fz φ (T i) (a.tmps.getD i undef)

theorem RS.ext {T : Nat → Slot} {w' : World} {fz' : Nat → Nat → Prop} (h : RS P w0 fz0 w fz φ T m a) (he : Ext w fz w' fz') : RS P w0 fz0 w' fz' φ T m a :=
  ⟨h.mem.ext he, fun i => (h.slots i).ext he h.mem.lt⟩

theorem RS.put {T : Nat → Slot} {dst : Option Tmp} {s : Slot} {v : Value} (h : RS P w0 fz0 w fz φ T m a) (hd : ∀ d, dst = some d → d < a.tmps.size) (hs : SlotRep w fz φ s v) : RS P w0 fz0 w fz φ (putT T dst s) m (a.put dst v) :=
  ⟨h.mem, slots_put hd h.slots hs⟩

theorem RS.addBox {T : Nat → Slot} {dst : Option Tmp} (h : RS P w0 fz0 w fz φ T m a) (hd : ∀ d, dst = some d → d < a.tmps.size) {cs : Array Value} {Ty : TypeId} {bx : Box} {kb : Nat} (hkb : ¬ φ.bok kb) (hget : m.boxes[kb]? = some bx) (hs : cs.size = bx.n) (hc : ∀ i, i < bx.n → ∃ u, cs[i]? = some u ∧ u.oneCell' = true ∧ SlotRep w fz φ (bx.f i) u) :
    RS P w0 fz0 (w.alloc (.cells cs Ty)) fz (φ.addBox kb w.heap.size) (putT T dst (.bx kb 0)) m (a.put dst (.pointer (some ⟨w.heap.size, 0, none⟩))) := by
  have hext : Ext w fz (w.alloc (.cells cs Ty)) fz :=
    { below := (Below.refl _ _).alloc (Nat.le_refl _) _, more := fun _ _ h => h, only := fun _ _ h => .inl h, lt := fun b o h' => by rw [World.size_alloc]; have := h.mem.lt b o h'; omega }
  exact ⟨h.mem.addBox hkb hget hs hc, slots_put hd (fun i => ((h.slots i).ext hext h.mem.lt).own (Own.le_addBox hkb _)) ⟨.inr rfl, by simp [Own.addBox, upd]⟩⟩

/-- One more box, laid in a new block. -/
theorem RS.newBox {T : Nat → Slot} {dst : Option Tmp} (h : RS P w0 fz0 w fz φ T m a) (hd : ∀ d, dst = some d → d < a.tmps.size) {cs : Array Value} {Ty : TypeId} {bx : Box} (hs : cs.size = bx.n) (hc : ∀ i, i < bx.n → ∃ u, cs[i]? = some u ∧ u.oneCell' = true ∧ SlotRep w fz φ (bx.f i) u) :
    RS P w0 fz0 (w.alloc (.cells cs Ty)) fz (φ.addBox m.boxes.length w.heap.size) (putT T dst (.bx m.boxes.length 0)) { m with boxes := m.boxes ++ [bx] } (a.put dst (.pointer (some ⟨w.heap.size, 0, none⟩))) :=
  RS.addBox (m := { m with boxes := m.boxes ++ [bx] }) ⟨h.mem.moreBoxes [bx], h.slots⟩ hd (fun hb => Nat.lt_irrefl _ (h.mem.nb _ hb)) (by simp) hs hc

theorem setAt_get {α : Type} : ∀ (l : List α) (k j : Nat) (x : α), (setAt l k x)[j]? = if j = k ∧ k < l.length then some x else l[j]?
  | [], _, _, _ => by simp [setAt]
  | _ :: r, 0, j, x => by cases j <;> simp [setAt]
  | y :: r, k + 1, 0, x => by simp [setAt]
  | y :: r, k + 1, j + 1, x => by simp [setAt, setAt_get r k j x]
theorem setAt_length {α : Type} : ∀ (l : List α) (k : Nat) (x : α), (setAt l k x).length = l.length
  | [], _, _ => rfl
  | _ :: _, 0, _ => rfl
  | _ :: r, k + 1, x => by simp [setAt, setAt_length r k x]

/-- The one block 'b' has been written where nobody looks any more, or where only the box or the row looks that is told anew. -/
theorem RM.write (hm : RM P w0 fz0 w fz φ m) {m' : Mem} {w' : World} {fz' : Nat → Nat → Prop} {b : Nat} (hb : w0.heap.size ≤ b) (hbl : b < w.heap.size)
    (hos : w'.os = w.os) (htape : w'.tape = w.tape) (hout : w'.output = w.output) (hsize : w'.heap.size = w.heap.size) (hother : ∀ k, k ≠ b → w'.heap[k]? = w.heap[k]?)
    (hmore : ∀ b o, fz b o → fz' b o) (honly : ∀ b' o, fz' b' o → fz b' o ∨ b' = b) (hfz : ∀ o, fz b o → w'.cell? ⟨b, o, none⟩ = w.cell? ⟨b, o, none⟩)
    (hlb : m'.boxes.length = m.boxes.length) (hlr : m'.rows.length = m.rows.length)
    (hbx : ∀ k bx, φ.bok k → m'.boxes[k]? = some bx → (m.boxes[k]? = some bx ∧ φ.box k ≠ b) ∨ BoxOK w0.heap.size w' fz' φ (φ.box k) bx)
    (hrw : ∀ k r, m'.rows[k]? = some r → ∃ r0, m.rows[k]? = some r0 ∧ r.ty = r0.ty ∧ (r.live = true → r0.live = true) ∧
      ((r.s = r0.s ∧ r.pub = r0.pub ∧ (r.live = true → (φ.row k).ownBlock ≠ some b)) ∨ RowOK P w0.heap.size w' fz' r (φ.row k))) : RM P w0 fz0 w' fz' φ m' := by
  have hcell : ∀ b' o, fz b' o → fz' b' o ∧ w'.cell? ⟨b', o, none⟩ = w.cell? ⟨b', o, none⟩ := fun b' o h => ⟨hmore _ _ h, by
    by_cases e : b' = b
    · subst e; exact hfz o h
    · exact World.cell?_of_block (hother b' e)⟩
  refine ⟨fun b o h => hmore _ _ (hm.more0 b o h), fun b' o h => (honly b' o h).elim (hm.only0 b' o) (fun e => .inr (e ▸ hb)), ?_, fun b' o h => ?_, fun k bx hbk hk => ?_, fun k r hk => ?_, fun k r hk => ?_, by rw [hlb]; exact hm.nb, by rw [hlr]; exact hm.nr, hm.dbb, fun k k' r h1 h2 h3 => ?_, fun k k' r r' b' h1 h2 h3 h4 => ?_⟩
  · exact hm.below.trans ⟨hos, htape, hout, by omega, fun k hk => hother k (by omega)⟩
  · rw [hsize]
    rcases honly b' o h with h | h
    · exact hm.lt _ _ h
    · omega
  · rcases hbx k bx hbk hk with ⟨h1, h2⟩ | h
    · obtain ⟨g1, ⟨cs, T, g2, g3, g4⟩, g5⟩ := hm.box k bx hbk h1
      refine ⟨g1, ⟨cs, T, (hother _ h2).trans g2, g3, fun i hi => ?_⟩, fun o ho => ?_⟩
      · obtain ⟨u, k1, k2, k3⟩ := g4 i hi
        exact ⟨u, k1, k2, SlotRep.mono hcell _ _ k3⟩
      · rcases honly _ o ho with h | h
        · exact g5 o h
        · exact h2 h
    · exact h
  · obtain ⟨r0, h1, h2, h3, h4⟩ := hrw k r hk
    rcases h4 with ⟨e1, e2, e3⟩ | h
    · obtain ⟨g1, g2, g3⟩ := hm.row k r0 h1
      refine ⟨fun hl => ?_, fun hp => ?_, g3⟩
      · have hne := e3 hl
        rcases (g1 (h3 hl)).shape with hn | ⟨b', c, cur, hy, hB, hh, hs, hn, hmx, hc, f1, f2, f3⟩
        · exact ⟨.inl (by rw [e1]; exact hn)⟩
        · have hbb : b' ≠ b := fun e => hne (by rw [hy, e]; rfl)
          refine ⟨.inr ⟨b', c, cur, by rw [e1]; exact hy, hB, by rw [hother _ hbb, h2]; exact hh, by rw [h2]; exact hs, by rw [e1]; exact hn, hmx, by rw [e1, h2]; exact holds_mono hcell hc, ?_, ?_, ?_⟩⟩
          · rw [e1, h2]
            intro j hj hj' ho
            rcases honly _ _ ho with h | h
            · exact f1 j hj hj' h
            · exact hbb h
          · rw [e1, h2, e2]; exact fun hp j hj => hmore _ _ (f2 hp j hj)
          · rw [e2]
            intro hp j ho
            rcases honly _ _ ho with h | h
            · exact f3 hp j h
            · exact hbb h
      · rw [e1]; exact Rep.mono hcell _ _ (g2 (e2 ▸ hp))
    · exact h
  · obtain ⟨r0, h1, h2, _⟩ := hrw k r hk
    rw [h2]; exact hm.esz k r0 h1
  · obtain ⟨r0, g1, g2, g3, _⟩ := hrw k' r h2
    exact hm.dbr k k' r0 h1 g1 (g3 h3)
  · obtain ⟨r0, g1, g2, g3, _⟩ := hrw k r h1
    obtain ⟨r0', g1', g2', g3', _⟩ := hrw k' r' h2
    exact hm.drr k k' r0 r0' b' g1 g1' (g3 h3) (g3' h4)

/-- One more row, whose block is nobody else's. -/
theorem RM.addRow (hm : RM P w0 fz0 w fz φ m) {r : Row} {y : Value} (hr : RowOK P w0.heap.size w fz r y)
    (h1 : ∀ b, r.live = true → y.ownBlock = some b → (∀ k, φ.bok k → φ.box k ≠ b) ∧ ∀ k r', m.rows[k]? = some r' → r'.live = true → (φ.row k).ownBlock ≠ some b) :
    RM P w0 fz0 w fz (φ.addRow y (TI.of P r.ty).size) { m with rows := m.rows ++ [r] } := by
  have hle := φ.le_addRow y (TI.of P r.ty).size
  have hold : ∀ k, k < m.rows.length → (φ.addRow y (TI.of P r.ty).size).row k = φ.row k := fun k hk => hle.row k (by rw [hm.nr]; exact hk)
  have hnew : (φ.addRow y (TI.of P r.ty).size).row m.rows.length = y := by simp [Own.addRow, upd, hm.nr]
  refine ⟨hm.more0, hm.only0, hm.below, hm.lt, fun k bx hb hk => (hm.box k bx hb hk).own hle, fun k r' hk => ?_, fun k r' hk => ?_, hm.nb, by simp [Own.addRow, hm.nr], hm.dbb, fun k k' r' hk hk' hl => ?_, fun k k' r1 r2 b hk hk' hl hl' hb hb' => ?_⟩
  · rcases getElem?_append_one hk with ⟨g1, g2⟩ | ⟨rfl, rfl⟩
    · rw [hold k g1]; exact hm.row k r' g2
    · rw [hnew]; exact hr
  · rcases getElem?_append_one hk with ⟨g1, g2⟩ | ⟨rfl, rfl⟩
    · rw [hle.esz k (by rw [hm.nr]; exact g1)]; exact hm.esz k r' g2
    · simp [Own.addRow, upd, hm.nr]
  · rcases getElem?_append_one hk' with ⟨g1, g2⟩ | ⟨rfl, rfl⟩
    · rw [hold k' g1]; exact hm.dbr k k' r' hk g2 hl
    · rw [hnew]
      intro hb
      exact (h1 _ hl hb).1 k hk rfl
  · rcases getElem?_append_one hk with ⟨g1, g2⟩ | ⟨rfl, rfl⟩ <;> rcases getElem?_append_one hk' with ⟨g1', g2'⟩ | ⟨rfl, rfl⟩
    · rw [hold k g1] at hb; rw [hold k' g1'] at hb'
      exact hm.drr k k' r1 r2 b g2 g2' hl hl' hb hb'
    · rw [hold k g1] at hb; rw [hnew] at hb'
      exact ((h1 b hl' hb').2 k r1 g2 hl hb).elim
    · rw [hold k' g1'] at hb'; rw [hnew] at hb
      exact ((h1 b hl hb).2 k' r2 g2' hl' hb').elim
    · rfl

theorem RS.addRow {T : Nat → Slot} {dst : Option Tmp} {r : Row} {y : Value} (hm : RM P w0 fz0 w fz φ m) (hs : ∀ i, SlotRep w fz φ (T i) (a.tmps.getD i undef)) (hd : ∀ d, dst = some d → d < a.tmps.size) (hr : RowOK P w0.heap.size w fz r y)
    (h1 : ∀ b, r.live = true → y.ownBlock = some b → (∀ k, φ.bok k → φ.box k ≠ b) ∧ ∀ k r', m.rows[k]? = some r' → r'.live = true → (φ.row k).ownBlock ≠ some b) (n : Nat) (hn : n = m.rows.length) :
    RS P w0 fz0 w fz (φ.addRow y (TI.of P r.ty).size) (putT T dst (.ow n)) { m with rows := m.rows ++ [r] } (a.put dst y) :=
  ⟨hm.addRow hr h1, slots_put hd (fun i => (hs i).own (φ.le_addRow _ _)) ⟨by simp [Own.addRow, hm.nr, hn], by simp [Own.addRow, upd, hm.nr, hn]⟩⟩

/-- The cells of a slice, one behind the other. -/
theorem flat_of_rep {ex : Bool} {n esz c : Nat} {e : Nat → SV} {x : Option Addr} (h : Rep w fz (.sl ex n esz e) (.slice x n c)) (hz : 0 < esz) :
    ∃ news : List Value, news.length = n * esz ∧ (0 < n → ∃ b o, x = some ⟨b, o, none⟩ ∧ (∀ j u, news[j]? = some u → w.cell? ((⟨b, o, none⟩ : Addr).add j) = some u ∧ fz b (o + j))) ∧ (∀ u ∈ news, u.oneCell' = true) ∧ Holds w fz n esz e news.toArray := by
  obtain ⟨_, _, hv, _, _, hc1⟩ := h
  simp only [Value.slice.injEq, true_and] at hv
  obtain ⟨rfl, rfl⟩ := hv
  by_cases h0 : 0 < n
  · obtain ⟨b, o, rfl, hc⟩ := hc1 h0
    have cell : ∀ k, k < n * esz → ∃ u, u.oneCell' = true ∧ w.cell? ⟨b, o + k, none⟩ = some u ∧ fz b (o + k) := by
      intro k hk
      obtain ⟨ev, _, _, r3⟩ := hc (k / esz) ((Nat.div_lt_iff_lt_mul hz).2 hk)
      obtain ⟨u, _, g2, g3, g4⟩ := r3 (k % esz) (Nat.mod_lt _ hz)
      have e : o + k / esz * esz + k % esz = o + k := by rw [Nat.add_assoc, Nat.div_add_mod' k esz]
      rw [e] at g3 g4
      exact ⟨u, g2, g3, g4⟩
    refine ⟨(List.range (n * esz)).map (fun k => (w.cell? ⟨b, o + k, none⟩).getD undef), by simp, fun _ => ⟨b, o, rfl, fun j u hj => ?_⟩, fun u hu => ?_, fun i hi => ?_⟩
    · rw [List.getElem?_map] at hj
      obtain ⟨k, hk, rfl⟩ := Option.map_eq_some_iff.1 hj
      have hk' := List.getElem?_eq_some_iff.1 hk
      obtain ⟨hlt, hke⟩ := hk'
      simp only [List.getElem_range] at hke
      subst hke
      obtain ⟨u, _, g2, g3⟩ := cell j (by simpa using hlt)
      rw [add_addr, g2]
      exact ⟨rfl, g3⟩
    · obtain ⟨k, hk, rfl⟩ := List.mem_map.1 hu
      obtain ⟨u, g1, g2, _⟩ := cell k (by simpa using hk)
      rw [g2]; exact g1
    · obtain ⟨ev, r1, r2, r3⟩ := hc i hi
      refine ⟨ev, r1, r2, fun j hj => ?_⟩
      obtain ⟨u, g1, g2, g3, _⟩ := r3 j hj
      have hlt : i * esz + j < n * esz := by
        calc i * esz + j < i * esz + esz := by omega
          _ = (i + 1) * esz := by rw [Nat.succ_mul]
          _ ≤ n * esz := Nat.mul_le_mul_right _ hi
      refine ⟨u, g1, g2, ?_⟩
      simp only [List.getElem?_toArray, List.getElem?_map, List.getElem?_range hlt, Option.map_some]
      rw [← Nat.add_assoc, g3]
      rfl
  · obtain rfl : n = 0 := by omega
    exact ⟨[], by simp, fun h => by omega, by simp, fun i hi => by omega⟩

/-- What 'append' does to a slice of the call's own (or nil), of which the cells behind its length are nobody else's. -/
theorem append_run {ty t oty : TypeId} {ei : TypeInfo} {z : Value} (hu : P.underlying t = some (.slice ty)) (hei : P.info? ty = some ei) (hz : ei.zero = some z) (hzs : z.cells.size = ei.size)
    {n c n2 c2 : Nat} {base : Option Addr} {b : Nat} {cur : Array Value} (hbase : base = none ∧ n = 0 ∧ c = 0 ∨ base = some ⟨b, 0, none⟩ ∧ w.heap[b]? = some (.cells cur ty (0, 0)) ∧ cur.size = c * ei.size ∧ n ≤ c)
    {x : Option Addr} {news : List Value} (hl : news.length = n2 * ei.size) (hx : 0 < n2 → ∃ b o, x = some ⟨b, o, none⟩ ∧ ∀ j u, news[j]? = some u → w.cell? ((⟨b, o, none⟩ : Addr).add j) = some u) (h1 : ∀ u ∈ news, u.oneCell' = true)
    (hroom : roomy (n + n2) ei.bytes) :
    (n + n2 ≤ c ∧ ((base = none ∧ (Builtin.append_ #[t, t] oty #[.slice base n c, .slice x n2 c2]).run P w = .ok (.slice none 0 0) w) ∨
      (base = some ⟨b, 0, none⟩ ∧ (Builtin.append_ #[t, t] oty #[.slice base n c, .slice x n2 c2]).run P w = .ok (.slice base (n + n2) c) (w.setRow b (cur.toList.take (n * ei.size) ++ news ++ cur.toList.drop (n * ei.size + news.length)).toArray)))) ∨
    (c < n + n2 ∧ ∃ cap rest, n + n2 ≤ cap ∧ cap ≤ maxLen ∧ rest.size = (cap - (n + n2)) * ei.size ∧ (Builtin.append_ #[t, t] oty #[.slice base n c, .slice x n2 c2]).run P w =
      .ok (.slice (some ⟨w.heap.size, 0, none⟩) (n + n2) cap) (w.drew.alloc (.cells ((cur.toList.take (if base = none then 0 else n * ei.size)).toArray ++ news.toArray ++ rest) ty))) := by
  obtain ⟨hr1, hr2⟩ := hroom
  have hsmall : n + n2 ≤ maxLen := by unfold maxLen; omega
  rcases hbase with ⟨rfl, rfl, rfl⟩ | ⟨rfl, hh, hs, hnc⟩
  · by_cases h0 : n2 = 0
    · subst h0
      refine .inl ⟨by omega, .inl ⟨rfl, ?_⟩⟩
      cases x <;> simp [Builtin.append_, run_underlying hu, sizeOf, typeInfo, hei, Builtin.lenOf, Builtin.firstCells, loadCells, loadCellsFrom]
    · obtain ⟨bx, ox, rfl, hc⟩ := hx (by omega)
      have hr := run_append_nil (P := P) w t oty ty ei z hu hei hz ⟨bx, ox, none⟩ n2 c2 news hl hc (by omega) (by omega) (by have := hr2; simp only [Nat.zero_add] at this; omega)
      refine .inr ⟨by omega, grownCap w n2 0 ty, Builtin.zeroCells z.cells (grownCap w n2 0 ty - n2), ?_, ?_, ?_, ?_⟩
      · simpa using grownCap_ge w n2 0 ty
      · exact grownCap_le_maxLen w n2 0 ty (by simpa using hsmall)
      · simp [size_zeroCells, hzs]
      · rw [hr]; simp
  · by_cases hroom : n + n2 ≤ c
    · refine .inl ⟨hroom, .inr ⟨rfl, ?_⟩⟩
      by_cases h0 : n2 = 0
      · subst h0
        have hn : news = [] := List.eq_nil_of_length_eq_zero (by simpa using hl)
        subst hn
        have e : (cur.toList.take (n * ei.size) ++ [] ++ cur.toList.drop (n * ei.size + ([] : List Value).length)).toArray = cur := by simp
        rw [e, setRow_self w b cur ty (0, 0) hh]
        have hroom' : n ≤ c := hnc
        cases x <;> simp [Builtin.append_, run_underlying hu, sizeOf, typeInfo, hei, Builtin.lenOf, Builtin.firstCells, loadCells, loadCellsFrom, hroom', storeCells]
      · obtain ⟨bx, ox, rfl, hc⟩ := hx (by omega)
        have hfit : n * ei.size + news.length ≤ cur.size := by rw [hl, hs, ← Nat.add_mul]; exact Nat.mul_le_mul_right _ hroom
        exact run_append_room (P := P) w t oty ty ei hu hei b n c cur hh ⟨bx, ox, none⟩ n2 c2 news hl hc h1 hroom hfit
    · obtain ⟨bx, ox, rfl, hc⟩ := hx (by omega)
      have hlen : n * ei.size ≤ cur.size := by rw [hs]; exact Nat.mul_le_mul_right _ hnc
      have hr := run_append_grow (P := P) w t oty ty ei z hu hei hz ⟨b, 0, none⟩ n c (cur.toList.take (n * ei.size)) (by rw [List.length_take]; simp; omega)
        (fun j v hj => by
          rw [add_addr, Nat.zero_add]
          have hlt : j < n * ei.size := by
            have := (List.getElem?_eq_some_iff.1 hj).1
            rw [List.length_take] at this; omega
          rw [List.getElem?_take_of_lt hlt] at hj
          simp only [World.cell?, hh]
          simpa using hj)
        ⟨bx, ox, none⟩ n2 c2 news hl hc (by omega) (by omega) (growslice_fits (by omega) hr2)
      refine .inr ⟨by omega, grownCap w (n + n2) c ty, Builtin.zeroCells z.cells (grownCap w (n + n2) c ty - (n + n2)), grownCap_ge w (n + n2) c ty, grownCap_le_maxLen w (n + n2) c ty hsmall, ?_, ?_⟩
      · simp [size_zeroCells, hzs]
      · rw [hr]; simp
end
end Go.Am
