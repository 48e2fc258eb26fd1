/- The relation between the abstract machine's states and the model's, and its laws. -/
import Derived.Test.YtmmofgbjpmhgpaaDoorAm1
set_option linter.all false
set_option linter.unusedVariables false
set_option linter.unusedSimpArgs false
set_option linter.unnecessarySimpa false
namespace Go.Am
open Go Go.RowKit

/-- The value 'y' in the world 'w' is one that means 's'; every cell that is looked at is one of 'fz', which nobody writes any more. -/
def Rep (w : World) (fz : Nat → Nat → Prop) : SV → Value → Prop
  | .dead, _ => True
  | .v x, y => y = x
  | .agg n f, y => ∃ cs, y = .agg cs ∧ cs.size = n ∧ ∀ i, i < n → ∃ u, cs[i]? = some u ∧ u.oneCell' = true ∧ Rep w fz (f i) u
  | .tup n f, y => ∃ cs, y = .tuple cs ∧ cs.size = n ∧ ∀ i, i < n → ∃ u, cs[i]? = some u ∧ Rep w fz (f i) u
  | .sl ex n esz e, y => ∃ a c, y = .slice a n c ∧ n ≤ c ∧ (ex = true → c = n) ∧ (0 < n → ∃ b o, a = some ⟨b, o, none⟩ ∧ ∀ i, i < n →
      ∃ ev, Rep w fz (e i) ev ∧ ev.cells.size = esz ∧ ∀ j, j < esz → ∃ u, ev.cells[j]? = some u ∧ u.oneCell' = true ∧ w.cell? ⟨b, o + i * esz + j, none⟩ = some u ∧ fz b (o + i * esz + j))
  | .rd e off, y => ∃ b o ev, y = .pointer (some ⟨b, o, none⟩) ∧ Rep w fz e ev ∧ ∀ j, off ≤ j → j < ev.cells.size →
      ∃ u, ev.cells[j]? = some u ∧ u.oneCell' = true ∧ w.cell? ⟨b, o + (j - off), none⟩ = some u ∧ fz b (o + (j - off))

theorem Rep.mono {w w' : World} {fz fz' : Nat → Nat → Prop} (h : ∀ b o, fz b o → fz' b o ∧ w'.cell? ⟨b, o, none⟩ = w.cell? ⟨b, o, none⟩) : ∀ (s : SV) (y : Value), Rep w fz s y → Rep w' fz' s y
  | .dead, _, _ => trivial
  | .v _, _, r => r
  | .agg n f, y, r => by
    obtain ⟨cs, rfl, hn, hc⟩ := r
    refine ⟨cs, rfl, hn, fun i hi => ?_⟩
    obtain ⟨u, h1, h2, h3⟩ := hc i hi
    exact ⟨u, h1, h2, Rep.mono h (f i) u h3⟩
  | .tup n f, y, r => by
    obtain ⟨cs, rfl, hn, hc⟩ := r
    refine ⟨cs, rfl, hn, fun i hi => ?_⟩
    obtain ⟨u, h1, h3⟩ := hc i hi
    exact ⟨u, h1, Rep.mono h (f i) u h3⟩
  | .sl ex n esz e, y, r => by
    obtain ⟨a, c, rfl, hn, hex, hc⟩ := r
    refine ⟨a, c, rfl, hn, hex, fun h0 => ?_⟩
    obtain ⟨b, o, ha, hc⟩ := hc h0
    refine ⟨b, o, ha, fun i hi => ?_⟩
    obtain ⟨ev, h1, h2, h3⟩ := hc i hi
    refine ⟨ev, Rep.mono h (e i) ev h1, h2, fun j hj => ?_⟩
    obtain ⟨u, g1, g2, g3, g4⟩ := h3 j hj
    exact ⟨u, g1, g2, (h _ _ g4).2 ▸ g3, (h _ _ g4).1⟩
  | .rd e off, y, r => by
    obtain ⟨b, o, ev, rfl, h1, h3⟩ := r
    refine ⟨b, o, ev, rfl, Rep.mono h e ev h1, fun j hj hj' => ?_⟩
    obtain ⟨u, g1, g2, g3, g4⟩ := h3 j hj hj'
    exact ⟨u, g1, g2, (h _ _ g4).2 ▸ g3, (h _ _ g4).1⟩

/-- A later world, of which nothing old has turned but what was never to be looked at. -/
structure Ext (w : World) (fz : Nat → Nat → Prop) (w' : World) (fz' : Nat → Nat → Prop) : Prop where
  below : Below w.heap.size w w'
  more : ∀ b o, fz b o → fz' b o
  only : ∀ b o, fz' b o → fz b o ∨ w.heap.size ≤ b
  lt : ∀ b o, fz' b o → b < w'.heap.size

theorem Ext.refl {w : World} {fz : Nat → Nat → Prop} (h : ∀ b o, fz b o → b < w.heap.size) : Ext w fz w fz := ⟨Below.refl _ _, fun _ _ h => h, fun _ _ h => .inl h, h⟩
theorem Ext.trans {w w' w'' : World} {fz fz' fz'' : Nat → Nat → Prop} (h : Ext w fz w' fz') (k : Ext w' fz' w'' fz'') : Ext w fz w'' fz'' :=
  ⟨h.below.trans (k.below.mono h.below.size), fun b o x => k.more b o (h.more b o x), fun b o x => (k.only b o x).elim (h.only b o) (fun y => .inr (Nat.le_trans h.below.size y)), k.lt⟩
theorem Ext.cell {w w' : World} {fz fz' : Nat → Nat → Prop} (h : Ext w fz w' fz') {b o : Nat} (hb : b < w.heap.size) : w'.cell? ⟨b, o, none⟩ = w.cell? ⟨b, o, none⟩ := h.below.cell (p := ⟨b, o, none⟩) hb
theorem Ext.rep {w w' : World} {fz fz' : Nat → Nat → Prop} (h : Ext w fz w' fz') (hl : ∀ b o, fz b o → b < w.heap.size) {s : SV} {y : Value} (r : Rep w fz s y) : Rep w' fz' s y :=
  r.mono (fun b o x => ⟨h.more b o x, h.cell (hl b o x)⟩)

/-- Where the machine's own memory lies. -/
structure Own where
  box : Nat → Nat
  row : Nat → Value
  esz : Nat → Nat
  bok : Nat → Prop
  nr : Nat

def SlotRep (w : World) (fz : Nat → Nat → Prop) (φ : Own) : Slot → Value → Prop
  | .p x, y => Rep w fz x y
  | .bx k off, y => φ.bok k ∧ y = .pointer (some ⟨φ.box k, off, none⟩)
  | .ow k, y => k < φ.nr ∧ y = φ.row k
  | .rp k i off, y => k < φ.nr ∧ ∃ b n c, φ.row k = .slice (some ⟨b, 0, none⟩) n c ∧ y = .pointer (some ⟨b, i * φ.esz k + off, none⟩)
  | .gd c s, y => (c = true → SlotRep w fz φ s y) ∧ (c = false → y = undef)

theorem SlotRep.mono {w w' : World} {fz fz' : Nat → Nat → Prop} {φ : Own} (h : ∀ b o, fz b o → fz' b o ∧ w'.cell? ⟨b, o, none⟩ = w.cell? ⟨b, o, none⟩) : ∀ (s : Slot) (y : Value), SlotRep w fz φ s y → SlotRep w' fz' φ s y
  | .p x, y, r => Rep.mono h x y r
  | .bx _ _, _, r => r
  | .ow _, _, r => r
  | .rp _ _ _, _, r => r
  | .gd _ s, y, r => ⟨fun hc => SlotRep.mono h s y (r.1 hc), r.2⟩

def BoxOK (B : Nat) (w : World) (fz : Nat → Nat → Prop) (φ : Own) (b : Nat) (bx : Box) : Prop :=
  B ≤ b ∧ (∃ cs T, w.heap[b]? = some (.cells cs T (0, 0)) ∧ cs.size = bx.n ∧ ∀ i, i < bx.n → ∃ u, cs[i]? = some u ∧ u.oneCell' = true ∧ SlotRep w fz φ (bx.f i) u) ∧ ∀ o, ¬ fz b o

/-- The elements of a row of cells. -/
def Holds (w : World) (fz : Nat → Nat → Prop) (n esz : Nat) (e : Nat → SV) (cur : Array Value) : Prop :=
  ∀ i, i < n → ∃ ev, Rep w fz (e i) ev ∧ ev.cells.size = esz ∧ ∀ j, j < esz → ∃ u, ev.cells[j]? = some u ∧ u.oneCell' = true ∧ cur[i * esz + j]? = some u

structure LiveOK (P : Program) (B : Nat) (w : World) (fz : Nat → Nat → Prop) (r : Row) (y : Value) : Prop where
  shape : (y = .slice none 0 0 ∧ r.s.len = 0) ∨ ∃ b c cur, y = .slice (some ⟨b, 0, none⟩) r.s.len c ∧ B ≤ b ∧ w.heap[b]? = some (.cells cur r.ty (0, 0)) ∧ cur.size = c * (TI.of P r.ty).size ∧ r.s.len ≤ c ∧ c ≤ maxLen ∧
    Holds w fz r.s.len (TI.of P r.ty).size r.s.idx cur ∧ (∀ j, r.s.len * (TI.of P r.ty).size ≤ j → j < cur.size → ¬ fz b j) ∧ (r.pub = true → ∀ j, j < r.s.len * (TI.of P r.ty).size → fz b j) ∧ (r.pub = false → ∀ j, ¬ fz b j)

def RowOK (P : Program) (B : Nat) (w : World) (fz : Nat → Nat → Prop) (r : Row) (y : Value) : Prop :=
  (r.live = true → LiveOK P B w fz r y) ∧ (r.pub = true → Rep w fz r.s.ro y) ∧ ∃ a n c, y = .slice a n c

structure RM (P : Program) (w0 : World) (fz0 : Nat → Nat → Prop) (w : World) (fz : Nat → Nat → Prop) (φ : Own) (m : Mem) : Prop where
  more0 : ∀ b o, fz0 b o → fz b o
  only0 : ∀ b o, fz b o → fz0 b o ∨ w0.heap.size ≤ b
  below : Below w0.heap.size w0 w
  lt : ∀ b o, fz b o → b < w.heap.size
  box : ∀ k bx, φ.bok k → m.boxes[k]? = some bx → BoxOK w0.heap.size w fz φ (φ.box k) bx
  row : ∀ k r, m.rows[k]? = some r → RowOK P w0.heap.size w fz r (φ.row k)
  esz : ∀ k r, m.rows[k]? = some r → φ.esz k = (TI.of P r.ty).size
  nb : ∀ k, φ.bok k → k < m.boxes.length
  nr : φ.nr = m.rows.length
  dbb : ∀ k k', φ.bok k → φ.bok k' → φ.box k = φ.box k' → k = k'
  dbr : ∀ k k' r, φ.bok k → m.rows[k']? = some r → r.live = true → (φ.row k').ownBlock ≠ some (φ.box k)
  drr : ∀ k k' r r' b, m.rows[k]? = some r → m.rows[k']? = some r' → r.live = true → r'.live = true → (φ.row k).ownBlock = some b → (φ.row k').ownBlock = some b → k = k'

theorem BoxOK.lt {B : Nat} {w : World} {fz : Nat → Nat → Prop} {φ : Own} {b : Nat} {bx : Box} (h : BoxOK B w fz φ b bx) : b < w.heap.size := by
  obtain ⟨_, ⟨cs, T, hh, _⟩, _⟩ := h
  exact (Array.getElem?_eq_some_iff.1 hh).1

theorem BoxOK.ext {B : Nat} {w w' : World} {fz fz' : Nat → Nat → Prop} {φ : Own} {b : Nat} {bx : Box} (h : BoxOK B w fz φ b bx) (hl : ∀ b o, fz b o → b < w.heap.size) (he : Ext w fz w' fz') : BoxOK B w' fz' φ b bx := by
  have hb := h.lt
  obtain ⟨h1, ⟨cs, T, hh, hs, hc⟩, hf⟩ := h
  refine ⟨h1, ⟨cs, T, (he.below.block b hb).trans hh, hs, fun i hi => ?_⟩, fun o ho => ?_⟩
  · obtain ⟨u, g1, g2, g3⟩ := hc i hi
    exact ⟨u, g1, g2, SlotRep.mono (fun b o x => ⟨he.more b o x, he.cell (hl b o x)⟩) _ _ g3⟩
  · rcases he.only b o ho with h' | h'
    · exact hf o h'
    · omega

theorem LiveOK.ext {P : Program} {B : Nat} {w w' : World} {fz fz' : Nat → Nat → Prop} {r : Row} {y : Value} (h : LiveOK P B w fz r y) (hl : ∀ b o, fz b o → b < w.heap.size) (he : Ext w fz w' fz') : LiveOK P B w' fz' r y := by
  rcases h.shape with h | ⟨b, c, cur, hy, hB, hh, hs, hn, hm, hc, h1, h2, h3⟩
  · exact ⟨.inl h⟩
  · have hb : b < w.heap.size := (Array.getElem?_eq_some_iff.1 hh).1
    refine ⟨.inr ⟨b, c, cur, hy, hB, (he.below.block b hb).trans hh, hs, hn, hm, fun i hi => ?_, fun j hj hj' ho => ?_, fun hp j hj => he.more _ _ (h2 hp j hj), fun hp j ho => ?_⟩⟩
    · obtain ⟨ev, g1, g2, g3⟩ := hc i hi
      exact ⟨ev, he.rep hl g1, g2, g3⟩
    · rcases he.only b j ho with h' | h'
      · exact h1 j hj hj' h'
      · omega
    · rcases he.only b j ho with h' | h'
      · exact h3 hp j h'
      · omega

theorem RM.ext {P : Program} {w0 w w' : World} {fz0 fz fz' : Nat → Nat → Prop} {φ : Own} {m : Mem} (h : RM P w0 fz0 w fz φ m) (he : Ext w fz w' fz') : RM P w0 fz0 w' fz' φ m :=
  { more0 := fun b o x => he.more b o (h.more0 b o x)
    only0 := fun b o x => (he.only b o x).elim (h.only0 b o) (fun y => .inr (Nat.le_trans h.below.size y))
    below := h.below.trans (he.below.mono h.below.size)
    lt := he.lt
    box := fun k bx hb hk => (h.box k bx hb hk).ext h.lt he
    row := fun k r hk => ⟨fun hv => ((h.row k r hk).1 hv).ext h.lt he, fun hp => he.rep h.lt ((h.row k r hk).2.1 hp), (h.row k r hk).2.2⟩
    esz := h.esz
    nb := h.nb
    nr := h.nr
    dbb := h.dbb
    dbr := h.dbr
    drr := h.drr }

theorem SlotRep.ext {w w' : World} {fz fz' : Nat → Nat → Prop} {φ : Own} (he : Ext w fz w' fz') (hl : ∀ b o, fz b o → b < w.heap.size) {s : Slot} {y : Value} (h : SlotRep w fz φ s y) : SlotRep w' fz' φ s y :=
  SlotRep.mono (fun b o x => ⟨he.more b o x, he.cell (hl b o x)⟩) s y h

/-- A slot's value means what the slot's reading says. -/
theorem SlotRep.sv {P : Program} {w0 w : World} {fz0 fz : Nat → Nat → Prop} {φ : Own} {m : Mem} (hm : RM P w0 fz0 w fz φ m) : ∀ {s : Slot} {y : Value}, SlotRep w fz φ s y → Rep w fz (s.sv m) y
  | .p _, _, h => h
  | .ow k, y, h => by
    simp only [Slot.sv]
    cases hk : m.rows[k]? with
    | none => trivial
    | some r =>
      dsimp only
      split
      · rename_i hp; rw [h.2]; exact (hm.row k r hk).2.1 hp
      · trivial
  | .bx _ _, _, _ => trivial
  | .rp _ _ _, _, _ => trivial
  | .gd _ _, _, _ => trivial

theorem SlotRep.strip {w : World} {fz : Nat → Nat → Prop} {φ : Own} : ∀ {s : Slot} {y : Value}, SlotRep w fz φ s y → s.okG true → SlotRep w fz φ s.strip y
  | .p _, _, h, _ => h
  | .ow _, _, h, _ => h
  | .bx _ _, _, h, _ => h
  | .rp _ _ _, _, h, _ => h
  | .gd _ s, y, h, g => by
    simp only [Slot.strip]
    exact SlotRep.strip (h.1 (g.1 rfl)) g.2

theorem Slot.one_of {P : Program} {w0 w : World} {fz0 fz : Nat → Nat → Prop} {φ : Own} {m : Mem} (hm : RM P w0 fz0 w fz φ m) : ∀ {s : Slot} {y : Value}, SlotRep w fz φ s y → s.one = true → y.oneCell' = true
  | .p x, y, h, h1 => by
    cases x <;> simp only [Slot.one, SV.one, Bool.false_eq_true] at h1 <;> simp only [SlotRep, Rep] at h
    · rw [h]; exact h1
    · obtain ⟨a, c, rfl, _⟩ := h; rfl
    · obtain ⟨b, o, ev, rfl, _⟩ := h; rfl
  | .bx _ _, y, h, _ => by rw [h.2]; rfl
  | .ow k, y, h, _ => by
    have hk : k < m.rows.length := by have := h.1; rw [hm.nr] at this; exact this
    obtain ⟨a, n, c, e⟩ := (hm.row k m.rows[k] (by simp [hk])).2.2
    rw [h.2, e]; rfl
  | .rp _ _ _, y, h, _ => by obtain ⟨_, b, n, c, _, rfl⟩ := h; rfl

/-! ### Constants -/
theorem list_get : ∀ (l : List SV) (i : Nat) (x : SV), l[i]? = some x → list l i = x
  | [], _, _, h => by simp at h
  | _ :: _, 0, _, h => by simpa [list] using h
  | _ :: r, i + 1, x, h => by simpa [list] using list_get r i x (by simpa using h)

theorem upTo_len {α : Type} {f : Nat → α} : ∀ {n : Nat}, (upTo f n).length = n
  | 0 => rfl
  | n + 1 => by simp [upTo, upTo_len (n := n)]
theorem upTo_at {α : Type} {f : Nat → α} : ∀ {n i : Nat}, i < n → (upTo f n)[i]? = some (f i)
  | n + 1, i, h => by
    rw [upTo]
    by_cases e : i = n
    · subst e
      rw [List.getElem?_append_right (by rw [upTo_len]; exact Nat.le_refl _), upTo_len]; simp
    · rw [List.getElem?_append_left (by rw [upTo_len]; omega)]
      exact upTo_at (by omega)
theorem tabF_eq {n i : Nat} {f : Nat → SV} (h : i < n) : tabF n f i = f i := list_get _ _ _ (upTo_at h)

theorem rep_ofV (w : World) (fz : Nat → Nat → Prop) (x : Value) : Rep w fz (ofV x) x := by
  unfold ofV
  split
  · rename_i l
    split
    · rename_i hl
      refine ⟨⟨l⟩, rfl, rfl, fun i hi => ?_⟩
      refine ⟨l[i], by simp [hi], ?_, ?_⟩
      · exact List.all_eq_true.1 hl _ (List.getElem_mem hi)
      · rw [list_get (l.map .v) i (.v l[i]) (by simp [hi])]
        rfl
    · trivial
  · rfl

theorem slotRep_val {w : World} {fz : Nat → Nat → Prop} {φ : Own} {T : Nat → Slot} {a : Act} (h : ∀ i, SlotRep w fz φ (T i) (a.tmps.getD i undef)) (x : Operand) : SlotRep w fz φ (val T x) (a.eval x) := by
  cases x with
  | tmp i => exact h i
  | const v => exact rep_ofV w fz v
  | global g => exact rfl
  | func f => exact rfl
end Go.Am
