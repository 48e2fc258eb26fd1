/- The quiet operations are sound. -/
import Derived.Test.YtmmofgbjpmhgpaaDoorAm2
import Derived.Laws.Slices
import Derived.Laws.StructEq
import Derived.ChangeKeysEq
import Derived.WalkSpells
set_option linter.all false
set_option linter.unusedVariables false
set_option linter.unusedSimpArgs false
set_option linter.unnecessarySimpa false
namespace Go.Am
open Go Go.RowKit

theorem SV_rep_v {w : World} {fz : Nat → Nat → Prop} {x y : Value} (h : Rep w fz (.v x) y) : y = x := h

section
variable {P : Program} {w0 w : World} {fz0 fz : Nat → Nat → Prop} {φ : Own} {m : Mem}

theorem TI.of_some {t : TypeId} {i : TypeInfo} (h : P.info? t = some i) : (TI.of P t).size = i.size ∧ (TI.of P t).bytes = i.bytes := by
  simp [TI.of, h]

/-- A type that has a kind has a row. -/
theorem TI.info {t : TypeId} (h : (TI.of P t).kind ≠ 0 ∨ (TI.of P t).size ≠ 0 ∨ (TI.of P t).isAgg = true) : ∃ i, P.info? t = some i := by
  unfold TI.of at h
  split at h
  · simp [default] at h
  · exact ⟨_, ‹_›⟩

theorem TI.kind1 {t : TypeId} (h : (TI.of P t).kind = 1) : ∃ i fs, P.info? t = some i ∧ P.underlying t = some (.struct fs) ∧
    (TI.of P t).isAgg = true ∧ (TI.of P t).size = i.size ∧ (TI.of P t).offs = fs.toList.map (·.offset) ∧ (TI.of P t).fty = fs.toList.map (·.type) ∧ (TI.of P t).nz = fs.toList.all (fun f => P.cellsOf f.type != 0) := by
  unfold TI.of at h ⊢
  split at h
  · cases h
  · rename_i i hi
    dsimp only at h ⊢
    cases hu : P.underlying t with
    | none => rw [hu] at h; cases h
    | some d =>
      rw [hu] at h
      obtain ⟨q, rfl⟩ : ∃ fs, d = .struct fs := by cases d <;> first | exact ⟨_, rfl⟩ | exact rfl | (simp at h; done) | (rename_i k; by_cases hk : k = .f64 <;> simp [hk] at h)
      exact ⟨i, _, hi, rfl, rfl, rfl, rfl, rfl, rfl⟩

theorem TI.kind2 {t : TypeId} (h : (TI.of P t).kind = 2) : ∃ i n e, P.info? t = some i ∧ P.underlying t = some (.array n e) ∧
    (TI.of P t).isAgg = true ∧ (TI.of P t).size = i.size ∧ (TI.of P t).elem = e ∧ (TI.of P t).len = n := by
  unfold TI.of at h ⊢
  split at h
  · cases h
  · rename_i i hi
    dsimp only at h ⊢
    cases hu : P.underlying t with
    | none => rw [hu] at h; cases h
    | some d =>
      rw [hu] at h
      obtain ⟨q, q', rfl⟩ : ∃ n e, d = .array n e := by cases d <;> first | exact ⟨_, _, rfl⟩ | exact rfl | (simp at h; done) | (rename_i k; by_cases hk : k = .f64 <;> simp [hk] at h)
      exact ⟨i, _, _, hi, rfl, rfl, rfl, rfl, rfl⟩

theorem TI.kind3 {t : TypeId} (h : (TI.of P t).kind = 3) : ∃ i e, P.info? t = some i ∧ P.underlying t = some (.slice e) ∧ (TI.of P t).elem = e := by
  unfold TI.of at h ⊢
  split at h
  · cases h
  · rename_i i hi
    dsimp only at h ⊢
    cases hu : P.underlying t with
    | none => rw [hu] at h; cases h
    | some d =>
      rw [hu] at h
      obtain ⟨q, rfl⟩ : ∃ e, d = .slice e := by cases d <;> first | exact ⟨_, rfl⟩ | exact rfl | (simp at h; done) | (rename_i k; by_cases hk : k = .f64 <;> simp [hk] at h)
      exact ⟨i, _, hi, rfl, rfl⟩

theorem TI.kind4 {t : TypeId} (h : (TI.of P t).kind = 4) : P.underlying t = some .bool := by
  unfold TI.of at h
  split at h
  · cases h
  · dsimp only at h
    cases hu : P.underlying t with
    | none => rw [hu] at h; cases h
    | some d =>
      rw [hu] at h
      have hd : d = .bool := by cases d <;> first | exact ⟨_, rfl⟩ | exact rfl | (simp at h; done) | (rename_i k; by_cases hk : k = .f64 <;> simp [hk] at h)
      rw [hd]

theorem TI.kind5 {t : TypeId} (h : (TI.of P t).kind = 5) : P.underlying t = some .string := by
  unfold TI.of at h
  split at h
  · cases h
  · dsimp only at h
    cases hu : P.underlying t with
    | none => rw [hu] at h; cases h
    | some d =>
      rw [hu] at h
      have hd : d = .string := by cases d <;> first | exact ⟨_, rfl⟩ | exact rfl | (simp at h; done) | (rename_i k; by_cases hk : k = .f64 <;> simp [hk] at h)
      rw [hd]

theorem cellsOf_size {t : TypeId} : P.cellsOf t = (TI.of P t).size := by
  unfold TI.of Program.cellsOf
  cases P.info? t <;> rfl

/-- Whether a variable of the type is loaded cell by cell. -/
theorem run_isAgg {t : TypeId} {i : TypeInfo} (hi : P.info? t = some i) (hu : ∃ d, P.underlying t = some d) (w : World) : (isAgg t).run P w = .ok (TI.of P t).isAgg w := by
  obtain ⟨d, hd⟩ := hu
  simp only [isAgg, Sem.run_bind, run_underlying hd, Result.andThen_ok, TI.of, hi, hd]
  cases d <;> rfl

/-- Every type of the table has what lies beneath it. -/
theorem underlying_some {t : TypeId} {i : TypeInfo} (hi : P.info? t = some i) (h : (TI.of P t).kind ≠ 0) : ∃ d, P.underlying t = some d := by
  unfold TI.of at h
  simp only [hi] at h
  cases hu : P.underlying t with
  | none => rw [hu] at h; simp at h
  | some d => exact ⟨d, rfl⟩
end

/-- A result that is a value in the very world. -/
def Gives (P : Program) (fz : Nat → Nat → Prop) (φ : Own) (w : World) (x : Sem Value) (s : Slot) : Prop := ∃ v, x.run P w = .ok v w ∧ SlotRep w fz φ s v

section
variable {P : Program} {w : World} {fz0 fz : Nat → Nat → Prop} {φ : Own}

theorem Gives.mk {x : Sem Value} {s : SV} {v : Value} (h : x.run P w = .ok v w) (r : Rep w fz s v) : Gives P fz φ w x (.p s) := ⟨v, h, r⟩

theorem run_beq_bool (t : TypeId) (a b : Bool) (h : (TI.of P t).kind = 4) : (Op.equal t (.bool a) (.bool b)).run P w = .ok (a == b) w := by
  show (Op.equalIn (9999 + 1) t _ _).run P w = _
  exact run_equalIn_bool' w 9999 t a b (TI.kind4 h)

theorem run_beq_nil (t : TypeId) (a : Option Addr) (n c : Nat) (h : (TI.of P t).kind = 3) : (Op.equal t (.slice a n c) (.slice none 0 0)).run P w = .ok a.isNone w := by
  obtain ⟨i, e, _, hu, _⟩ := TI.kind3 h
  show (Op.equalIn (9999 + 1) t _ _).run P w = _
  exact Lib.run_equalIn_slice_nil w 9999 t e a n c 0 0 hu

theorem run_arith {op : BinOp} {a b r : Nat} (h : fop op a b = some r) : (Op.Complex.arith op .f64 a b).run P w = .ok r w := by
  cases op <;> simp only [fop] at h <;> first | (cases h; done) | (simp [Op.Complex.arith, Op.floatArith, h])
theorem bin_sound {op : BinOp} {t : TypeId} {x y : Operand} {sx sy : SV} {vx vy : Value} (hx : Rep w fz sx vx) (hy : Rep w fz sy vy)
    (h : (evBin (TI.of P t).kind op sx sy).side) : Gives P fz φ w (do eqGuard op t x y vx vy; binOp op t vx vy) (evBin (TI.of P t).kind op sx sy).s := by
  unfold evBin at h ⊢
  split at h
  · rename_i k a k' b
    have hx' : vx = .int k a := hx
    have hy' : vy = .int k' b := hy
    subst hx' hy'
    cases op <;> dsimp only at h ⊢
    case quo => obtain ⟨rfl, h0⟩ := h; exact .mk (by simp [eqGuard, binOp, Op.intDiv, show ¬ b = 0 from h0]) rfl
    case rem => obtain ⟨rfl, h0⟩ := h; exact .mk (by simp [eqGuard, binOp, Op.intDiv, show ¬ b = 0 from h0]) rfl
    case shl => exact .mk (by simp [eqGuard, binOp, Op.shift, show ¬ b < 0 by omega]) rfl
    case shr => exact .mk (by simp [eqGuard, binOp, Op.shift, show ¬ b < 0 by omega]) rfl
    all_goals (subst h; exact .mk (by simp [eqGuard, binOp, Op.intArith, Op.intCmp, Op.intBits]) rfl)
  · rename_i a b
    have hx' : vx = .bool a := hx
    have hy' : vy = .bool b := hy
    subst hx' hy'
    cases op <;> dsimp only [no] at h ⊢ <;> first | exact h.elim | skip
    · exact .mk (by simp [eqGuard, binOp, run_beq_bool t a b h]) rfl
    · exact .mk (by simp [eqGuard, binOp, run_beq_bool t a b h, bne]) rfl
  · rename_i a b
    have hx' : vx = .string a := hx
    have hy' : vy = .string b := hy
    subst hx' hy'
    cases op <;> dsimp only [no, yes] at h ⊢ <;> first | exact h.elim | skip
    case add => exact .mk (by simp [eqGuard, binOp, Op.stringOp]; omega) rfl
    all_goals exact .mk (by simp [eqGuard, binOp, Op.stringOp, ByteArray.toList_eq]) rfl
  · rename_i a b a' b'
    have hx' : vx = .complex .f64 a b := hx
    have hy' : vy = .complex .f64 a' b' := hy
    subst hx' hy'
    cases op <;> dsimp only [no, yes] at h ⊢ <;> first | exact h.elim | skip
    · split at h
      · rename_i r s e1 e2
        exact .mk (by simp [eqGuard, binOp, Op.complexOp, run_arith e1, run_arith e2]) rfl
      · exact h.elim
    · split at h
      · rename_i p q r s e1 e2 e3 e4
        split at h
        · rename_i x y e5 e6
          exact .mk (by simp [eqGuard, binOp, Op.complexOp, Op.Complex.conv, Op.Complex.product, Op.Complex.mul, Op.Complex.sub, Op.Complex.add, run_arith e1, run_arith e2, run_arith e3, run_arith e4, run_arith e5, run_arith e6]) rfl
        · exact h.elim
      · exact h.elim
  · have hx' : vx = .slice none 0 0 := hx
    have hy' : vy = .slice none 0 0 := hy
    subst hx' hy'
    cases op <;> dsimp only [no, yes] at h ⊢ <;> first | exact h.elim | skip
    all_goals exact .mk (by simp [eqGuard, binOp, run_beq_nil t none 0 0 h]) rfl
  · rename_i ex n k e
    obtain ⟨a, c, hx', _, _, ha⟩ := hx
    have hy' : vy = .slice none 0 0 := hy
    subst hx' hy'
    cases op <;> dsimp only [no, yes] at h ⊢ <;> first | exact h.elim | skip
    all_goals
      obtain ⟨h3, h0⟩ := h
      obtain ⟨b, o, rfl, _⟩ := ha h0
      exact .mk (by simp [eqGuard, binOp, run_beq_nil t _ n c h3]) rfl
  · exact h.elim

theorem un_sound {op : UnOp} {sx : SV} {vx : Value} (hx : Rep w fz sx vx) (h : (evUn op sx).side) : Gives P fz φ w (Op.unary op vx) (evUn op sx).s := by
  unfold evUn at h ⊢
  split at h
  · have hx' := SV_rep_v hx
    subst hx'
    exact .mk rfl rfl
  · have hx' := SV_rep_v hx
    subst hx'
    exact .mk rfl rfl
  · exact h.elim

theorem pick_sound {sc sa sb : Slot} {vc va vb : Value} (hc : SlotRep w fz φ sc vc) (ha : SlotRep w fz φ sa va) (hb : SlotRep w fz φ sb vb)
    (h : (evPick sc sa sb).side) : ∃ c : Bool, vc = .bool c ∧ SlotRep w fz φ (evPick sc sa sb).s (if c then va else vb) := by
  unfold evPick at h ⊢
  split at h
  · rename_i c h0
    obtain ⟨g0, g1, g2⟩ := h
    have hc' := SlotRep.strip hc g0
    rw [h0] at hc'
    refine ⟨c, hc', ?_⟩
    dsimp only
    cases c
    · have := SlotRep.strip hb (by simpa using g2)
      unfold pickV
      split
      · rename_i x y e1 e2
        rw [e2] at this
        exact this
      · exact this
    · have := SlotRep.strip ha (by simpa using g1)
      unfold pickV
      split
      · rename_i x y e1 e2
        rw [e1] at this
        exact this
      · exact this
  · exact h.elim

theorem len_sound {w0 : World} {m : Mem} {sx : Slot} {vx : Value} {t ty : TypeId} (hm : RM P w0 fz0 w fz φ m) (hx : SlotRep w fz φ sx vx) (h : (evLen (TI.of P t).kind m sx).side) :
    Gives P fz φ w (Builtin.len_ #[t] ty #[vx]) (evLen (TI.of P t).kind m sx).s := by
  unfold evLen at h ⊢
  split at h
  · obtain ⟨a, c, rfl, _⟩ := hx
    obtain ⟨i, e, _, hu, _⟩ := TI.kind3 h
    exact .mk (by simp [Builtin.len_, run_underlying hu, goInt]) rfl
  · have hx' := SV_rep_v hx
    subst hx'
    obtain ⟨i, e, _, hu, _⟩ := TI.kind3 h
    exact .mk (by simp [Builtin.len_, run_underlying hu, goInt]) rfl
  · have hx' := SV_rep_v hx
    subst hx'
    exact .mk (by simp [Builtin.len_, run_underlying (TI.kind5 h), goInt]) rfl
  · rename_i k
    cases hk : m.rows[k]? with
    | none => rw [hk] at h; exact h.elim
    | some r =>
      rw [hk] at h
      dsimp only at h ⊢
      obtain ⟨hl, h3⟩ := h
      obtain ⟨i, e, _, hu, _⟩ := TI.kind3 h3
      obtain rfl := hx.2
      rcases ((hm.row k r hk).1 hl).shape with ⟨e1, e2⟩ | ⟨b, c, cur, e1, _⟩
      · rw [e1, e2]; exact .mk (by simp [Builtin.len_, run_underlying hu, goInt]) rfl
      · rw [e1]; exact .mk (by simp [Builtin.len_, run_underlying hu, goInt]) rfl
  · exact h.elim

theorem asIntOf_int (k : IntKind) (i : Int) : (asIntOf (.int k i)).run P w = .ok (k, i) w := rfl

theorem add_addr (b o n : Nat) : (⟨b, o, none⟩ : Addr).add n = ⟨b, o + n, none⟩ := by
  unfold Addr.add
  split
  · subst_vars; simp
  · simp

/-- indexAddr: the place of an element. -/
theorem idx_sound {w0 : World} {m : Mem} {sx : Slot} {si : SV} {vx vi : Value} {t : TypeId} (hm : RM P w0 fz0 w fz φ m) (hx : SlotRep w fz φ sx vx) (hi : Rep w fz si vi)
    (h : (evIdx (TI.of P) t m sx si).side) : Gives P fz φ w (Instr.indexAt t vx vi) (evIdx (TI.of P) t m sx si).s := by
  unfold evIdx at h ⊢
  split at h
  · rename_i k i
    have hi' := SV_rep_v hi
    subst hi'
    split at h
    · rename_i ex n esz e
      obtain ⟨h3, hz, h0, h1⟩ := h
      obtain ⟨ti, el, hti, hu, he⟩ := TI.kind3 h3
      obtain ⟨ei, hei⟩ := TI.info (P := P) (t := el) (.inr (.inl (by rw [he] at hz; exact hz.2)))
      obtain ⟨a, c, rfl, hn, _, hc1⟩ := hx
      obtain ⟨b, o, rfl, hc⟩ := hc1 (by omega)
      obtain ⟨ev, r1, r2, r3⟩ := hc i.toNat (by omega)
      have hes : ei.size = esz := by rw [← (TI.of_some hei).1, ← hz.1, he]
      refine .mk (v := .pointer (some ⟨b, o + i.toNat * esz, none⟩)) ?_ ⟨b, o + i.toNat * esz, ev, rfl, r1, fun j hj hj' => ?_⟩
      · simp [Instr.indexAt, asIntOf_int, run_underlying hu, h0, h1, sizeOf, typeInfo, hei, hes, add_addr]
      · exact r3 j (by omega)
    · rename_i k'
      cases hk : m.rows[k']? with
      | none => rw [hk] at h; exact h.elim
      | some r =>
        rw [hk] at h
        dsimp only at h ⊢
        obtain ⟨h3, he, hz, hl, h0, h1⟩ := h
        obtain ⟨ti, el, hti, hu, he'⟩ := TI.kind3 h3
        rw [he'] at he
        subst he
        obtain ⟨ei, hei⟩ := TI.info (P := P) (t := r.ty) (.inr (.inl hz))
        have hes := (TI.of_some hei).1
        obtain ⟨hkr, rfl⟩ := hx
        rcases ((hm.row k' r hk).1 hl).shape with ⟨e1, e2⟩ | ⟨b, c, cur, e1, hB, hh, hs, hn, hmx, hc, f1, f2, f3⟩
        · omega
        · refine ⟨.pointer (some ⟨b, i.toNat * (TI.of P r.ty).size, none⟩), ?_, hkr, b, _, _, e1, by rw [hm.esz k' r hk]; simp⟩
          rw [e1]
          simp [Instr.indexAt, asIntOf_int, run_underlying hu, h0, h1, sizeOf, typeInfo, hei, hes, add_addr]
    · rename_i k' off
      obtain ⟨h2, hz, h0, h1⟩ := h
      obtain ⟨ti, n, el, hti, hu, _, _, he, hn⟩ := TI.kind2 h2
      rw [hn] at h1
      rw [he] at hz ⊢
      obtain ⟨ei, hei⟩ := TI.info (P := P) (t := el) (.inr (.inl hz))
      obtain ⟨hkb, rfl⟩ := hx
      refine ⟨_, ?_, hkb, rfl⟩
      simp [Instr.indexAt, asIntOf_int, run_underlying hu, h0, h1, sizeOf, typeInfo, hei, Instr.sureAddr, add_addr, (TI.of_some hei).1]
    · exact h.elim
  · exact h.elim

theorem field_sound {sx : Slot} {vx : Value} {t : TypeId} {f : Nat} (hx : SlotRep w fz φ sx vx)
    (h : (evField (TI.of P) t f sx).side) : Gives P fz φ w (Instr.fieldAt t vx f) (evField (TI.of P) t f sx).s := by
  have key : ∀ b o, (TI.of P t).kind = 1 ∧ (TI.of P t).nz = true ∧ f < (TI.of P t).offs.length → vx = .pointer (some ⟨b, o, none⟩) → (Instr.fieldAt t vx f).run P w = .ok (.pointer (some ⟨b, o + (TI.of P t).offs.getD f 0, none⟩)) w := by
    rintro b o ⟨h1, hnz, h2⟩ rfl
    obtain ⟨i, fs, hi, hu, _, _, ho, _, hz⟩ := TI.kind1 h1
    rw [hz] at hnz
    rw [ho] at h2 ⊢
    have hlt : f < fs.size := by simpa using h2
    have hne : P.cellsOf fs[f].type ≠ 0 := by
      have := List.all_eq_true.1 hnz fs[f] (by simp)
      simpa using this
    obtain ⟨ei, hei⟩ : ∃ ei, P.info? fs[f].type = some ei := by
      cases he : P.info? fs[f].type with
      | none => simp [Program.cellsOf, he] at hne
      | some ei => exact ⟨ei, rfl⟩
    have hne' : ei.size ≠ 0 := by simpa [Program.cellsOf, hei] using hne
    simp [Instr.fieldAt, run_underlying hu, hlt, Instr.sureAddr, fieldPlace, sizeOf, typeInfo, hei, hne', add_addr]
  unfold evField at h ⊢
  split at h
  · rename_i e off
    obtain ⟨b, o, ev, hv, r1, r2⟩ := hx
    refine ⟨_, key b o h hv, b, _, ev, rfl, r1, fun j hj hj' => ?_⟩
    obtain ⟨u, g1, g2, g3, g4⟩ := r2 j (by omega) hj'
    have e : o + (TI.of P t).offs.getD f 0 + (j - (off + (TI.of P t).offs.getD f 0)) = o + (j - off) := by omega
    rw [e]
    exact ⟨u, g1, g2, g3, g4⟩
  · exact ⟨_, key _ _ h hx.2, hx.1, rfl⟩
  · obtain ⟨hkr, b, n, c, h1, hv⟩ := hx
    exact ⟨_, key _ _ h hv, hkr, b, n, c, h1, by rw [Nat.add_assoc]⟩
  · exact h.elim

theorem norm_rep {w0 : World} {m : Mem} {sx : Slot} {vx : Value} (hm : RM P w0 fz0 w fz φ m) (hx : SlotRep w fz φ sx vx) : SlotRep w fz φ (sx.norm m) vx := by
  unfold Slot.norm
  split
  · rename_i k
    split
    · rename_i r hk
      split
      · rename_i hp
        rw [hx.2]
        exact (hm.row k r hk).2.1 hp
      · exact hx
    · exact hx
  · exact hx

theorem run_loadVar_cells {t : TypeId} {b o : Nat} {cs : List Value} (hag : (TI.of P t).isAgg = true) (hl : cs.length = (TI.of P t).size) (h : ∀ j u, cs[j]? = some u → w.cell? ⟨b, o + j, none⟩ = some u) :
    (Instr.loadAt t (.pointer (some ⟨b, o, none⟩))).run P w = .ok (.agg cs.toArray) w := by
  obtain ⟨i, hi⟩ := TI.info (P := P) (t := t) (.inr (.inr hag))
  obtain ⟨d, hd⟩ : ∃ d, P.underlying t = some d := by
    cases hu : P.underlying t with
    | none => simp [TI.of, hi, hu] at hag
    | some d => exact ⟨d, rfl⟩
  have hr := run_loadCells_list (P := P) (w := w) ⟨b, o, none⟩ cs (fun j u hj => by rw [add_addr]; exact h j u hj)
  have hs : i.size = cs.length := by rw [hl, (TI.of_some hi).1]
  simp [Instr.loadAt, Instr.sureAddr, loadVar, run_isAgg hi ⟨d, hd⟩, hag, sizeOf, typeInfo, hi, hs, hr]

theorem run_loadVar_cell {t : TypeId} {a : Addr} {u : Value} (hag : (TI.of P t).isAgg = false) (hi : ∃ d, P.underlying t = some d) (h : w.cell? a = some u) :
    (Instr.loadAt t (.pointer (some a))).run P w = .ok u w := by
  obtain ⟨d, hd⟩ := hi
  have hag' : (isAgg t).run P w = .ok false w := by
    simp only [isAgg, Sem.run_bind, run_underlying hd, Result.andThen_ok]
    cases hii : P.info? t with
    | none => 
      unfold Program.underlying at hd
      rw [hii] at hd; cases hd
    | some i =>
      simp only [TI.of, hii, hd] at hag
      cases d <;> first | rfl | (simp at hag)
  simp [Instr.loadAt, Instr.sureAddr, loadVar, hag', h]

theorem kind_some {t : TypeId} (h : (TI.of P t).kind ≠ 0) : ∃ d, P.underlying t = some d := by
  unfold TI.of at h
  split at h
  · exact (h rfl).elim
  · dsimp only at h
    cases hu : P.underlying t with
    | none => rw [hu] at h; exact (h rfl).elim
    | some d => exact ⟨d, rfl⟩

theorem at_sound {t : TypeId} {e : SV} {off : Nat} {ev : Value} {b o : Nat} (hk : (TI.of P t).kind ≠ 0) (r1 : Rep w fz e ev)
    (r2 : ∀ j, off ≤ j → j < ev.cells.size → ∃ u, ev.cells[j]? = some u ∧ u.oneCell' = true ∧ w.cell? ⟨b, o + (j - off), none⟩ = some u)
    (h : (e.at (TI.of P) t off).side) : Gives P fz φ w (Instr.loadAt t (.pointer (some ⟨b, o, none⟩))) (e.at (TI.of P) t off).s := by
  unfold SV.at at h ⊢
  split at h
  · rename_i n f
    obtain ⟨cs, rfl, hn, hc⟩ := r1
    split at h
    · rename_i hag
      rw [if_pos hag]
      dsimp only at h ⊢
      simp only [Value.cells] at r2
      refine .mk (run_loadVar_cells (cs := (cs.toList.drop off).take (TI.of P t).size) hag ?_ ?_) ?_
      · rw [List.length_take, List.length_drop]; simp; omega
      · intro j u hj
        have hjl : j < (TI.of P t).size := by
          have := (List.getElem?_eq_some_iff.1 hj).1
          rw [List.length_take] at this; omega
        obtain ⟨u', g1, g2, g3⟩ := r2 (off + j) (by omega) (by omega)
        rw [List.getElem?_take_of_lt hjl, List.getElem?_drop] at hj
        have e1 : u' = u := by
          have h' : cs[off + j]? = some u := by simpa using hj
          rw [g1] at h'; exact Option.some.inj h'
        rw [show off + j - off = j by omega, e1] at g3
        exact g3
      · refine ⟨_, rfl, ?_, fun i hi => ?_⟩
        · simp; omega
        · obtain ⟨u, g1, g2, g3⟩ := hc (off + i) (by omega)
          refine ⟨u, ?_, g2, by rw [tabF_eq hi]; exact g3⟩
          rw [List.getElem?_toArray, List.getElem?_take_of_lt hi, List.getElem?_drop]
          simpa using g1
    · rename_i hag
      rw [if_neg hag]
      dsimp only at h ⊢
      simp only [Value.cells] at r2
      obtain ⟨u, g1, g2, g3⟩ := r2 off (Nat.le_refl _) (by omega)
      obtain ⟨u', k1, k2, k3⟩ := hc off (by omega)
      rw [g1] at k1
      obtain rfl := Option.some.inj k1
      exact .mk (run_loadVar_cell (by simpa using hag) (kind_some hk) (by simpa using g3)) k3
  · obtain ⟨hag, rfl, h1⟩ := h
    have e' := SV_rep_v r1
    subst e'
    have hcell : ev.cells = #[ev] := by cases ev <;> first | rfl | cases h1
    obtain ⟨u, g1, g2, g3⟩ := r2 0 (Nat.le_refl _) (by rw [hcell]; simp)
    rw [hcell] at g1
    obtain rfl : u = ev := by simpa using g1.symm
    exact .mk (run_loadVar_cell hag (kind_some hk) (by simpa using g3)) rfl
  · obtain ⟨hag, rfl⟩ := h
    have r1' := r1
    obtain ⟨a, c, rfl, _⟩ := r1
    obtain ⟨u, g1, g2, g3⟩ := r2 0 (Nat.le_refl _) (by simp [Value.cells])
    obtain rfl : u = _ := by simpa [Value.cells] using g1.symm
    exact .mk (run_loadVar_cell hag (kind_some hk) (by simpa using g3)) r1'
  · obtain ⟨hag, rfl⟩ := h
    have r1' := r1
    obtain ⟨b', o', ev', rfl, _⟩ := r1
    obtain ⟨u, g1, g2, g3⟩ := r2 0 (Nat.le_refl _) (by simp [Value.cells])
    obtain rfl : u = _ := by simpa [Value.cells] using g1.symm
    exact .mk (run_loadVar_cell hag (kind_some hk) (by simpa using g3)) r1'
  · exact h.elim

theorem load_sound {w0 : World} {m : Mem} {sx : Slot} {vx : Value} {t : TypeId} (hm : RM P w0 fz0 w fz φ m) (hx : SlotRep w fz φ sx vx)
    (h : (evLoad (TI.of P) t m sx).side) : Gives P fz φ w (Instr.loadAt t vx) (evLoad (TI.of P) t m sx).s := by
  unfold evLoad at h ⊢
  split at h
  · obtain ⟨b, o, ev, rfl, r1, r2⟩ := hx
    refine at_sound h.1 r1 (fun j hj hj' => ?_) h.2
    obtain ⟨u, g1, g2, g3, _⟩ := r2 j hj hj'
    exact ⟨u, g1, g2, g3⟩
  · rename_i k off
    cases hk : m.boxes[k]? with
    | none => rw [hk] at h; exact h.elim
    | some b =>
      rw [hk] at h
      dsimp only at h ⊢
      obtain ⟨hbk, rfl⟩ := hx
      obtain ⟨_, ⟨cs, T, hh, hs, hc⟩, _⟩ := hm.box k b hbk hk
      have hcell : ∀ j u, cs[j]? = some u → w.cell? ⟨φ.box k, j, none⟩ = some u := fun j u hj => by simp [World.cell?, hh, hj]
      split at h
      · rename_i hag
        rw [if_pos hag]
        dsimp only at h ⊢
        refine .mk (run_loadVar_cells (cs := (cs.toList.drop off).take (TI.of P t).size) hag ?_ ?_) ?_
        · rw [List.length_take, List.length_drop]; simp; omega
        · intro j u hj
          have hjl : j < (TI.of P t).size := by
            have := (List.getElem?_eq_some_iff.1 hj).1
            rw [List.length_take] at this; omega
          rw [List.getElem?_take_of_lt hjl, List.getElem?_drop] at hj
          exact hcell _ _ (by simpa using hj)
        · refine ⟨_, rfl, ?_, fun i hi => ?_⟩
          · simp; omega
          · obtain ⟨u, g1, g2, g3⟩ := hc (off + i) (by omega)
            refine ⟨u, ?_, g2, by rw [tabF_eq hi]; exact g3.sv hm⟩
            rw [List.getElem?_toArray, List.getElem?_take_of_lt hi, List.getElem?_drop]
            simpa using g1
      · rename_i hag
        rw [if_neg hag]
        dsimp only at h ⊢
        obtain ⟨u, g1, g2, g3⟩ := hc off h.2
        exact ⟨u, run_loadVar_cell (by simpa using hag) (kind_some h.1) (hcell _ _ g1), g3⟩
  · rename_i k i off
    cases hk : m.rows[k]? with
    | none => rw [hk] at h; exact h.elim
    | some r =>
      rw [hk] at h
      dsimp only at h ⊢
      obtain ⟨h1, hl, hp, hi, h2⟩ := h
      obtain ⟨_, b, n, c, e1, rfl⟩ := hx
      rcases ((hm.row k r hk).1 hl).shape with ⟨e2, e3⟩ | ⟨b', c', cur, e2, hB, hh, hs, hn, hmx, hc, f1, f2, f3⟩
      · rw [e2] at e1; cases e1
      · rw [e2] at e1
        simp only [Value.slice.injEq, Option.some.injEq, Addr.mk.injEq] at e1
        obtain ⟨⟨rfl, _⟩, _, _⟩ := e1
        obtain ⟨ev, r1, r2, r3⟩ := hc i hi
        refine at_sound h1 r1 (fun j hj hj' => ?_) h2
        obtain ⟨u, g1, g2, g3⟩ := r3 j (by omega)
        refine ⟨u, g1, g2, ?_⟩
        rw [hm.esz k r hk, show i * (TI.of P r.ty).size + off + (j - off) = i * (TI.of P r.ty).size + j by omega]
        simp [World.cell?, hh, g3]
  · exact h.elim

theorem part_run {t : TypeId} {cs : Array Value} {off : Nat} {u : Value} (h1 : (TI.of P t).isAgg = false) (hk : ∃ d, P.underlying t = some d) (hu : cs[off]? = some u) : (part t cs off).run P w = .ok u w := by
  obtain ⟨d, hd⟩ := hk
  have hag' : (isAgg t).run P w = .ok false w := by
    simp only [isAgg, Sem.run_bind, run_underlying hd, Result.andThen_ok]
    cases hii : P.info? t with
    | none => unfold Program.underlying at hd; rw [hii] at hd; cases hd
    | some i =>
      simp only [TI.of, hii, hd] at h1
      cases d <;> first | rfl | (simp at h1)
  simp [part, hag', hu]

theorem part_run_agg {t : TypeId} {cs : Array Value} {off : Nat} (h1 : (TI.of P t).isAgg = true) : (part t cs off).run P w = .ok (.agg (cs.extract off (off + (TI.of P t).size))) w := by
  obtain ⟨i, hi⟩ := TI.info (P := P) (t := t) (.inr (.inr h1))
  obtain ⟨d, hd⟩ : ∃ d, P.underlying t = some d := by
    cases hu : P.underlying t with
    | none => simp [TI.of, hi, hu] at h1
    | some d => exact ⟨d, rfl⟩
  simp [part, run_isAgg hi ⟨d, hd⟩, h1, sizeOf, typeInfo, hi, (TI.of_some hi).1]

theorem partAt_sound {t : TypeId} {e : SV} {off : Nat} {v : Value} (hk : (TI.of P t).kind ≠ 0) (r : Rep w fz e v) (hag : e.isAg = true) (h : (e.at (TI.of P) t off).side) :
    ∃ cs, v = .agg cs ∧ Gives P fz φ w (part t cs off) (e.at (TI.of P) t off).s := by
  cases e <;> simp only [SV.isAg, Bool.false_eq_true] at hag
  rename_i n f
  obtain ⟨cs, rfl, hn, hc⟩ := r
  refine ⟨cs, rfl, ?_⟩
  simp only [SV.at] at h ⊢
  split at h
  · rename_i hag'
    rw [if_pos hag']
    dsimp only at h ⊢
    refine .mk (part_run_agg hag') ⟨_, rfl, ?_, fun i hi => ?_⟩
    · simp; omega
    · obtain ⟨u, g1, g2, g3⟩ := hc (off + i) (by omega)
      exact ⟨u, by rw [Array.getElem?_extract_of_lt (by omega)]; exact (Array.getElem?_eq_getElem _).symm.trans g1, g2, by rw [tabF_eq hi]; exact g3⟩
  · rename_i hag'
    rw [if_neg hag']
    dsimp only at h ⊢
    obtain ⟨u, g1, g2, g3⟩ := hc off h
    exact .mk (part_run (by simpa using hag') (kind_some hk) g1) g3

/-- What the machine is told of a type that is held against another. -/
theorem TI.eqok1 {t : TypeId} (h1 : (TI.of P t).kind = 1) (h : (TI.of P t).eqok = true) : ∃ i fs, P.info? t = some i ∧ P.underlying t = some (.struct fs) ∧ P.stoodInHeld t = false ∧ (∀ f ∈ fs.toList, f.name ≠ "_") ∧ P.eqGuardType P.depth t = false ∧
    (TI.of P t).offs = fs.toList.map (·.offset) ∧ (TI.of P t).fty = fs.toList.map (·.type) := by
  obtain ⟨i, fs, hi, hu, _, _, ho, hf, _⟩ := TI.kind1 h1
  refine ⟨i, fs, hi, hu, ?_, ?_, ?_, ho, hf⟩
  all_goals
    unfold TI.of at h
    rw [hi] at h
    dsimp only at h
    rw [hu] at h
    simp only [Bool.and_eq_true, Bool.not_eq_true'] at h
  · exact h.1.1
  · intro f hf
    have := List.all_eq_true.1 h.1.2 f hf
    simpa using this
  · exact h.2
theorem TI.eqok2 {t : TypeId} (h2 : (TI.of P t).kind = 2) (h : (TI.of P t).eqok = true) : P.eqGuardType P.depth t = false := by
  obtain ⟨i, n, e, hi, hu, _⟩ := TI.kind2 h2
  unfold TI.of at h
  rw [hi] at h
  dsimp only at h
  rw [hu] at h
  simpa using h
theorem kindOf_isAg {d : Nat} {t : TypeId} {x y : SV} (hx : x.isAg = true) (h : (eqE (TI.of P) d t x y).side) : y.isAg = true ∧ ((TI.of P t).kind = 1 ∨ (TI.of P t).kind = 2) := by
  cases d with
  | zero => exact h.elim
  | succ d =>
    unfold eqE at h
    split at h <;> first | exact h.elim | (cases hx; done) | skip
    split at h
    · rename_i h1; exact ⟨rfl, .inl h1⟩
    · split at h
      · rename_i h2; exact ⟨rfl, .inr h2⟩
      · exact h.elim
theorem part_pv {t : TypeId} {x : SV} {off : Nat} {cs : Array Value} (hk : (TI.of P t).kind ≠ 0) (r : Rep w fz x (.agg cs)) (hag : x.isAg = true) (h : (x.at (TI.of P) t off).side) :
    ∃ v, (part t cs off).run P w = .ok v w ∧ Rep w fz ((x.at (TI.of P) t off).s.pv) v := by
  have φ : Own := ⟨fun _ => 0, fun _ => undef, fun _ => 0, fun _ => False, 0⟩
  obtain ⟨cs', e, v, h1, h2⟩ := partAt_sound (φ := φ) hk r hag h
  obtain rfl : cs = cs' := by injection e
  refine ⟨v, h1, ?_⟩
  cases hs : (x.at (TI.of P) t off).s <;> rw [hs] at h2 <;> first | exact h2 | trivial
theorem eqFs_sound {d e : Nat} (ih : ∀ (t : TypeId) (x y : SV) (vx vy : Value), Rep w fz x vx → Rep w fz y vy → (eqE (TI.of P) d t x y).side → (Op.equalIn e t vx vy).run P w = .ok (eqE (TI.of P) d t x y).b w) {x y : SV} {xs ys : Array Value} (hx : Rep w fz x (.agg xs)) (hy : Rep w fz y (.agg ys)) (ax : x.isAg = true) (ay : y.isAg = true) :
    ∀ (fs : List Field), (∀ f ∈ fs, f.name ≠ "_") → (eqFs (eqE (TI.of P) d) (TI.of P) x y ((fs.map (·.offset)).zip (fs.map (·.type)))).side →
      (Op.eqFields e xs ys fs).run P w = .ok (eqFs (eqE (TI.of P) d) (TI.of P) x y ((fs.map (·.offset)).zip (fs.map (·.type)))).b w
  | [], _, _ => by simp [Op.eqFields, eqFs]
  | f :: fs, hn, h => by
    simp only [List.map_cons, List.zip_cons_cons, eqFs] at h ⊢
    obtain ⟨h1, h2, h3, h4, h5⟩ := h
    obtain ⟨u, u1, u2⟩ := part_pv h1 hx ax h2
    obtain ⟨v, v1, v2⟩ := part_pv h1 hy ay h3
    have he := ih _ _ _ _ _ u2 v2 h4
    have hr := eqFs_sound ih hx hy ax ay fs (fun g hg => hn g (List.mem_cons_of_mem _ hg)) h5
    rw [Op.eqFields, if_pos (hn f List.mem_cons_self)]
    simp only [Sem.run_bind, u1, v1, he, Result.andThen_ok]
    cases (eqE (TI.of P) d f.type ((x.at (TI.of P) f.type f.offset).s.pv) ((y.at (TI.of P) f.type f.offset).s.pv)).b
    · simp
    · simpa using hr
theorem eqAs_sound {d e : Nat} {el : TypeId} (hk : (TI.of P el).kind ≠ 0) (ih : ∀ (x y : SV) (vx vy : Value), Rep w fz x vx → Rep w fz y vy → (eqE (TI.of P) d el x y).side → (Op.equalIn e el vx vy).run P w = .ok (eqE (TI.of P) d el x y).b w) {x y : SV} {xs ys : Array Value} (hx : Rep w fz x (.agg xs)) (hy : Rep w fz y (.agg ys)) (ax : x.isAg = true) (ay : y.isAg = true) :
    ∀ (n i : Nat), (eqAs (eqE (TI.of P) d el) (TI.of P) el (TI.of P el).size x y n i).side →
      (Op.eqItems e el (P.cellsOf el) xs ys (List.range' i n)).run P w = .ok (eqAs (eqE (TI.of P) d el) (TI.of P) el (TI.of P el).size x y n i).b w
  | 0, i, _ => by simp [Op.eqItems, eqAs]
  | n + 1, i, h => by
    simp only [eqAs] at h ⊢
    obtain ⟨h2, h3, h4, h5⟩ := h
    obtain ⟨u, u1, u2⟩ := part_pv hk hx ax h2
    obtain ⟨v, v1, v2⟩ := part_pv hk hy ay h3
    have he := ih _ _ _ _ u2 v2 h4
    have hr := eqAs_sound hk ih hx hy ax ay n (i + 1) h5
    rw [List.range'_succ, Op.eqItems]
    rw [cellsOf_size] at hr ⊢
    simp only [Sem.run_bind, u1, v1, he, Result.andThen_ok]
    cases (eqE (TI.of P) d el ((x.at (TI.of P) el (i * (TI.of P el).size)).s.pv) ((y.at (TI.of P) el (i * (TI.of P el).size)).s.pv)).b
    · simp
    · simpa using hr
theorem eqE_sound : ∀ (d : Nat) (t : TypeId) (x y : SV) (vx vy : Value), Rep w fz x vx → Rep w fz y vy → (eqE (TI.of P) d t x y).side → ∀ e, d ≤ e → (Op.equalIn e t vx vy).run P w = .ok (eqE (TI.of P) d t x y).b w
  | 0, _, _, _, _, _, _, _, h, _, _ => h.elim
  | d + 1, t, x, y, vx, vy, hx, hy, h, e, he => by
    obtain ⟨e, rfl⟩ : ∃ e', e = e' + 1 := ⟨e - 1, by omega⟩
    unfold eqE at h ⊢
    split at h
    · rename_i k a k' b
      have hx' : vx = .int k a := hx
      have hy' : vy = .int k' b := hy
      subst hx' hy'
      obtain ⟨h1, rfl⟩ := h
      obtain ⟨q, hq⟩ := Option.isSome_iff_exists.1 h1
      have hu : P.underlying t = some (.int q) := by
        unfold TI.of at hq
        split at hq
        · cases hq
        · dsimp only at hq
          split at hq
          · rename_i e'; rw [e', Option.some.inj hq]
          · cases hq
      exact run_equalIn_int w e t _ _ a b hu
    · rename_i a b
      have hx' : vx = .bool a := hx
      have hy' : vy = .bool b := hy
      subst hx' hy'
      exact run_equalIn_bool' w e t a b (TI.kind4 h)
    · rename_i a b
      have hx' : vx = .string a := hx
      have hy' : vy = .string b := hy
      subst hx' hy'
      rw [run_equalIn_string w e t a b (TI.kind5 h), ByteArray.toList_eq, ByteArray.toList_eq]
    · rename_i n f n' g
      obtain ⟨xs, rfl, hx2⟩ := id hx
      obtain ⟨ys, rfl, hy2⟩ := id hy
      split at h
      · rename_i h1
        rw [if_pos h1]
        dsimp only at h ⊢
        obtain ⟨hok, h⟩ := h
        obtain ⟨i, fs, hi, hu, hs, hn, _, ho, hf⟩ := TI.eqok1 h1 hok
        have hfo : P.fieldsOf t = fs := by simp [Program.fieldsOf, hu]
        rw [run_equalIn_struct w e t xs ys (by rw [hfo]; exact hu) hs, hfo]
        rw [ho, hf] at h ⊢
        exact eqFs_sound (fun t x y vx vy hx hy h => eqE_sound d t x y vx vy hx hy h e (by omega)) hx hy rfl rfl fs.toList hn h
      · rename_i h1
        rw [if_neg h1]
        split at h
        · rename_i h2
          rw [if_pos h2]
          dsimp only at h ⊢
          obtain ⟨hk, h⟩ := h
          obtain ⟨i, n, el, hi, hu, _, _, hel, hln⟩ := TI.kind2 h2
          rw [hel] at hk
          obtain ⟨ei, hei⟩ := TI.info (P := P) (t := el) (.inl hk)
          rw [run_equalIn_array w e xs ys hu hei]
          rw [hel, hln] at h ⊢
          rw [List.range_eq_range']
          exact eqAs_sound hk (fun x y vx vy hx hy h => eqE_sound d el x y vx vy hx hy h e (by omega)) hx hy rfl rfl n 0 h
        · exact h.elim
    · exact h.elim
theorem binT_sound {op : BinOp} {t : TypeId} {x y : Operand} {sx sy : SV} {vx vy : Value} (hx : Rep w fz sx vx) (hy : Rep w fz sy vy)
    (h : (evBinT (TI.of P) t op sx sy).side) : Gives P fz φ w (do eqGuard op t x y vx vy; binOp op t vx vy) (evBinT (TI.of P) t op sx sy).s := by
  unfold evBinT at h ⊢
  split at h
  · rename_i n f
    have key : (TI.of P t).eqok = true → sy.isAg = true → (eqE (TI.of P) 5 t (.agg n f) sy).side → ∃ xs ys, vx = .agg xs ∧ vy = .agg ys ∧ P.eqGuardType P.depth t = false ∧ (Op.equalIn 10000 t (.agg xs) (.agg ys)).run P w = .ok (eqE (TI.of P) 5 t (.agg n f) sy).b w := by
      intro h1 h2 h3
      have he := eqE_sound 5 t _ _ vx vy hx hy h3 10000 (by omega)
      obtain ⟨xs, rfl, _⟩ := id hx
      cases sy <;> simp only [SV.isAg, Bool.false_eq_true] at h2
      obtain ⟨ys, rfl, _⟩ := id hy
      refine ⟨xs, ys, rfl, rfl, ?_, he⟩
      rcases (kindOf_isAg rfl h3).2 with hk | hk
      · exact (TI.eqok1 hk h1).choose_spec.choose_spec.2.2.2.2.1
      · exact TI.eqok2 hk h1
    cases op <;> dsimp only [no] at h ⊢ <;> first | exact h.elim | skip
    · obtain ⟨xs, ys, rfl, rfl, hg, he⟩ := key h.1 h.2.1 h.2.2
      exact .mk (by simp only [Sem.run_bind, run_eqGuard_agg w _ t x y xs ys hg, Result.andThen_ok, run_eql_struct, he]) rfl
    · obtain ⟨xs, ys, rfl, rfl, hg, he⟩ := key h.1 h.2.1 h.2.2
      exact .mk (by simp only [Sem.run_bind, run_eqGuard_agg w _ t x y xs ys hg, Result.andThen_ok, run_neq_struct, he]) rfl
  · exact bin_sound hx hy h

theorem fieldV_sound {t : TypeId} {f : Nat} {sx : SV} {vx : Value} (hx : Rep w fz sx vx) (h : (evFieldV (TI.of P) t f sx).side) : Gives P fz φ w (Instr.field t vx f) (evFieldV (TI.of P) t f sx).s := by
  unfold evFieldV at h ⊢
  dsimp only at h ⊢
  obtain ⟨h1, h2, h3, h4, h5⟩ := h
  obtain ⟨i, fs, hi, hu, _, _, ho, hf, _⟩ := TI.kind1 h1
  obtain ⟨cs, rfl, v, hv, hr⟩ := partAt_sound (φ := φ) h4 hx h3 h5
  rw [ho] at h2
  have hlt : f < fs.size := by simpa using h2
  refine ⟨v, ?_, hr⟩
  rw [ho, hf] at hv
  simp only [List.getD_eq_getElem?_getD, List.getElem?_map, Array.getElem?_toList, Array.getElem?_eq_getElem hlt, Option.map_some, Option.getD_some] at hv
  simp [Instr.field, run_underlying hu, hlt, asAgg, hv]

theorem indexV_sound {t : TypeId} {sx si : SV} {vx vi : Value} (hx : Rep w fz sx vx) (hi : Rep w fz si vi) (h : (evIndexV (TI.of P) t sx si).side) : Gives P fz φ w (Instr.index t vx vi) (evIndexV (TI.of P) t sx si).s := by
  unfold evIndexV at h ⊢
  split at h
  · rename_i k i
    have hi' := SV_rep_v hi
    subst hi'
    split at h
    · rename_i s
      have hx' := SV_rep_v hx
      subst hx'
      obtain ⟨h5, h0, h1⟩ := h
      have hlt : i.toNat < s.size := by omega
      refine .mk (v := .int .u8 (s.data.toList.getD i.toNat 0).toNat) ?_ rfl
      have e1 : s[i.toNat]? = some (s.data.toList.getD i.toNat 0) := by
        rw [List.getD_eq_getElem?_getD, List.getElem?_eq_getElem (by simpa using hlt)]
        simp [getElem?_pos, hlt]
        rfl
      simp [Instr.index, asIntOf_int, run_underlying (TI.kind5 h5), h0, e1]
    · rename_i x _
      dsimp only at h ⊢
      obtain ⟨h2, h0, h1, h3, h4, hz, h5⟩ := h
      obtain ⟨ti, n, el, hti, hu, _, _, he, hn⟩ := TI.kind2 h2
      rw [hn] at h1
      obtain ⟨cs, rfl, v, hv, hr⟩ := partAt_sound (φ := φ) h4 hx h3 h5
      refine ⟨v, ?_, hr⟩
      rw [he] at hv hz
      obtain ⟨ei, hei⟩ := TI.info (P := P) (t := el) (.inr (.inl hz))
      rw [(TI.of_some hei).1] at hv
      simp [Instr.index, asIntOf_int, run_underlying hu, h0, h1, sizeOf, typeInfo, hei, hv]
  · exact h.elim

theorem bound_run (k : IntKind) (i : Int) (y : Nat) (code : Go.BoundsCode) (h0 : 0 ≤ i) (h1 : i ≤ y) : (Instr.sliceBound (.int k i) y code).run P w = .ok i.toNat w := by
  simp [Instr.sliceBound, asIntOf_int, h0, h1]

theorem sliceAt_run {t : TypeId} {x : Value} {lo hi mx : Option Value} (h : (TI.of P t).kind = 3 ∨ (TI.of P t).kind = 5) : (Instr.sliceAt t x lo hi mx).run P w = (Instr.slice t x lo hi mx).run P w := by
  rcases h with h | h
  · obtain ⟨i, e, _, hu, _⟩ := TI.kind3 h
    simp [Instr.sliceAt, run_underlying hu]
  · simp [Instr.sliceAt, run_underlying (TI.kind5 h)]

theorem rep_sub {ex ex' : Bool} {n esz n' : Nat} {e : Nat → SV} {a : Option Addr} {c i c' : Nat} (h : Rep w fz (.sl ex n esz e) (.slice a n c)) (h1 : i + n' ≤ n) (h2 : n' ≤ c') (h3 : ex' = true → c' = n') (a' : Option Addr)
    (ha : 0 < n' → a' = a.map (·.add (i * esz))) : Rep w fz (.sl ex' n' esz (fun j => e (i + j))) (.slice a' n' c') := by
  obtain ⟨_, _, hv, _, _, hc1⟩ := h
  simp only [Value.slice.injEq, true_and] at hv
  obtain ⟨rfl, rfl⟩ := hv
  refine ⟨a', c', rfl, h2, h3, fun h0 => ?_⟩
  obtain ⟨b, o, rfl, hc⟩ := hc1 (by omega)
  refine ⟨b, o + i * esz, by rw [ha h0]; simp [add_addr], fun j hj => ?_⟩
  obtain ⟨ev, r1, r2, r3⟩ := hc (i + j) (by omega)
  refine ⟨ev, r1, r2, fun l hl => ?_⟩
  rw [show o + i * esz + j * esz + l = o + (i + j) * esz + l by rw [Nat.add_mul]; omega]
  exact r3 l hl

theorem slice_sound {t : TypeId} {sx : SV} {vx : Value} {lo hi : Option SV} {vlo vhi : Option Value} (hx : Rep w fz sx vx)
    (hlo : ∀ s, lo = some s → ∃ v, vlo = some v ∧ Rep w fz s v) (hlo' : lo = none → vlo = none) (hhi : ∀ s, hi = some s → ∃ v, vhi = some v ∧ Rep w fz s v) (hhi' : hi = none → vhi = none)
    (h : (evSlice (TI.of P (TI.of P t).elem).size (TI.of P t).kind sx lo hi).side) :
    Gives P fz φ w (Instr.sliceAt t vx vlo vhi none) (evSlice (TI.of P (TI.of P t).elem).size (TI.of P t).kind sx lo hi).s := by
  unfold evSlice at h ⊢
  have key : ∀ {ex n k e}, Rep w fz (.sl ex n k e) vx → (TI.of P t).kind = 3 ∧ (TI.of P (TI.of P t).elem).size = k ∧ (TI.of P (TI.of P t).elem).size ≠ 0 → ∃ a c el ei, vx = .slice a n c ∧ n ≤ c ∧ (ex = true → c = n) ∧ P.underlying t = some (.slice el) ∧ P.info? el = some ei ∧ ei.size = k := by
    rintro ex n k e hx ⟨h3, hk, hz⟩
    obtain ⟨a, c, rfl, hn, hex, _⟩ := hx
    obtain ⟨ti, el, hti, hu, he⟩ := TI.kind3 h3
    obtain ⟨ei, hei⟩ := TI.info (P := P) (t := el) (.inr (.inl (by rw [← he]; exact hz)))
    exact ⟨a, c, el, ei, rfl, hn, hex, hu, hei, by rw [← (TI.of_some hei).1, ← he, hk]⟩
  split at h
  · rename_i ex n k e ki i
    obtain ⟨g, h0, h1⟩ := h
    obtain ⟨a, c, el, ei, rfl, hn, hex, hu, hei, rfl⟩ := key hx g
    obtain ⟨vl, rfl, r⟩ := hlo _ rfl
    have r' := SV_rep_v r
    subst r'
    rw [hhi' rfl]
    have hl : i.toNat ≤ n := by omega
    refine .mk (v := .slice (if c = i.toNat then a else a.map (·.add (i.toNat * ei.size))) (n - i.toNat) (c - i.toNat)) ?_ ?_
    · rw [sliceAt_run (.inl g.1)]
      simp [Instr.slice, run_underlying hu, Instr.sliceBounds, bound_run ki i n _ h0 h1, sizeOf, typeInfo, hei]
    · refine rep_sub hx (by omega) (by omega) (fun hx => by rw [hex hx]) _ (fun h0 => by rw [if_neg (by omega)])
  · rename_i ex n k e ki i
    obtain ⟨g, h0, h1⟩ := h
    obtain ⟨a, c, el, ei, rfl, hn, hex, hu, hei, rfl⟩ := key hx g
    obtain ⟨vl, rfl, r⟩ := hhi _ rfl
    have r' := SV_rep_v r
    subst r'
    rw [hlo' rfl]
    refine .mk (v := .slice (if c = 0 then a else a.map (·.add (0 * ei.size))) (i.toNat - 0) (c - 0)) ?_ ?_
    · rw [sliceAt_run (.inl g.1)]
      simp [Instr.slice, run_underlying hu, Instr.sliceBounds, bound_run ki i c _ h0 (by omega), sizeOf, typeInfo, hei]
    · have := rep_sub (ex' := false) (n' := i.toNat) (i := 0) (c' := c) hx (by omega) (by omega) (fun hx => by cases hx) (if c = 0 then a else a.map (·.add (0 * ei.size))) (fun h0 => by rw [if_neg (by omega)])
      simpa using this
  · rename_i ex n k e ki i kj j
    obtain ⟨g, h0, h1, h2⟩ := h
    obtain ⟨a, c, el, ei, rfl, hn, hex, hu, hei, rfl⟩ := key hx g
    obtain ⟨vl, rfl, r⟩ := hlo _ rfl
    obtain ⟨vh, rfl, r2⟩ := hhi _ rfl
    have r' := SV_rep_v r
    have r2' := SV_rep_v r2
    subst r' r2'
    refine .mk (v := .slice (if c = i.toNat then a else a.map (·.add (i.toNat * ei.size))) (j.toNat - i.toNat) (c - i.toNat)) ?_ ?_
    · rw [sliceAt_run (.inl g.1)]
      simp [Instr.slice, run_underlying hu, Instr.sliceBounds, bound_run kj j c _ (by omega) (by omega), bound_run ki i j.toNat _ h0 (by omega), sizeOf, typeInfo, hei]
    · exact rep_sub hx (by omega) (by omega) (fun hx => by cases hx) _ (fun h0 => by rw [if_neg (by omega)])
  · rename_i s ki i
    obtain ⟨h5, h0, h1⟩ := h
    have hx' := SV_rep_v hx
    subst hx'
    obtain ⟨vl, rfl, r⟩ := hlo _ rfl
    have r' := SV_rep_v r
    subst r'
    rw [hhi' rfl]
    refine .mk ?_ rfl
    rw [sliceAt_run (.inr h5)]
    simp [Instr.slice, run_underlying (TI.kind5 h5), Instr.sliceBounds, bound_run ki i _ _ h0 h1]
  · rename_i s ki i
    obtain ⟨h5, h0, h1⟩ := h
    have hx' := SV_rep_v hx
    subst hx'
    obtain ⟨vl, rfl, r⟩ := hhi _ rfl
    have r' := SV_rep_v r
    subst r'
    rw [hlo' rfl]
    refine .mk ?_ rfl
    rw [sliceAt_run (.inr h5)]
    simp [Instr.slice, run_underlying (TI.kind5 h5), Instr.sliceBounds, bound_run ki i _ _ h0 h1]
  · rename_i s ki i kj j
    obtain ⟨h5, h0, h1, h2⟩ := h
    have hx' := SV_rep_v hx
    subst hx'
    obtain ⟨vl, rfl, r⟩ := hlo _ rfl
    obtain ⟨vh, rfl, r2⟩ := hhi _ rfl
    have r' := SV_rep_v r
    have r2' := SV_rep_v r2
    subst r' r2'
    refine .mk ?_ rfl
    rw [sliceAt_run (.inr h5)]
    simp [Instr.slice, run_underlying (TI.kind5 h5), Instr.sliceBounds, bound_run kj j _ _ (by omega) h2, bound_run ki i j.toNat _ h0 (by omega)]
  · exact h.elim

theorem fold_list (off : Nat) : ∀ (l : List Value) (s : Nat) (cur : Array Value),
    ((l.zipIdx s).foldl (fun cs (p : Value × Nat) => cs.setIfInBounds (off + p.2) p.1) cur).size = cur.size ∧
    ∀ i, off + s + l.length ≤ cur.size → ((l.zipIdx s).foldl (fun cs (p : Value × Nat) => cs.setIfInBounds (off + p.2) p.1) cur)[i]? = if off + s ≤ i ∧ i < off + s + l.length then l[i - (off + s)]? else cur[i]?
  | [], s, cur => by
    refine ⟨rfl, fun i _ => ?_⟩
    rw [if_neg (by simp)]
    rfl
  | x :: l, s, cur => by
    obtain ⟨h1, h2⟩ := fold_list off l (s + 1) (cur.setIfInBounds (off + s) x)
    simp only [List.zipIdx_cons, List.foldl_cons, List.length_cons]
    refine ⟨by rw [h1]; simp, fun i hi => ?_⟩
    rw [h2 i (by simp; omega)]
    by_cases h3 : i = off + s
    · subst h3
      rw [if_neg (by omega), if_pos (by omega)]
      simp [show off + s < cur.size by omega]
    · by_cases h4 : off + (s + 1) ≤ i ∧ i < off + (s + 1) + l.length
      · rw [if_pos h4, if_pos (by omega), show i - (off + s) = i - (off + (s + 1)) + 1 by omega]
        rfl
      · rw [if_neg h4, if_neg (by omega), Array.getElem?_setIfInBounds_ne (by omega)]

/-- A row of cells that reads so. -/
def CellsRep (w : World) (fz : Nat → Nat → Prop) (cur : Array Value) (tot : Nat) (g : Nat → SV) : Prop :=
  cur.size = tot ∧ ∀ i, i < tot → ∃ u, cur[i]? = some u ∧ u.oneCell' = true ∧ Rep w fz (g i) u

theorem good_cells {x : SV} {v : Value} (h : Rep w fz x v) (hg : x.good = true) : v.cells.size = x.size ∧ ∀ i, i < x.size → ∃ u, v.cells[i]? = some u ∧ u.oneCell' = true ∧ Rep w fz (x.cell i) u := by
  have one : v.oneCell' = true → x.cell = (fun _ => x) → x.size = 1 → v.cells.size = x.size ∧ ∀ i, i < x.size → ∃ u, v.cells[i]? = some u ∧ u.oneCell' = true ∧ Rep w fz (x.cell i) u := by
    intro h1 h2 h3
    have hc : v.cells = #[v] := by cases v <;> first | rfl | cases h1
    rw [hc, h3, h2]
    refine ⟨rfl, fun i hi => ⟨v, ?_, h1, h⟩⟩
    obtain rfl : i = 0 := by omega
    rfl
  cases x <;> simp only [SV.good, Bool.false_eq_true] at hg
  · have := SV_rep_v h
    subst this
    exact one hg rfl rfl
  · obtain ⟨cs, rfl, hn, hc⟩ := h
    exact ⟨hn, hc⟩
  · exact one (by obtain ⟨a, c, rfl, _⟩ := h; rfl) rfl rfl
  · exact one (by obtain ⟨b, o, ev, rfl, _⟩ := h; rfl) rfl rfl

theorem fill_sound {off sz : Nat → Nat} {tot : Nat} {place : Nat → Option (Nat × Nat)} : ∀ (l : List (Nat × SV)) (vs : List (Nat × Value)) (cur : Array Value) (g : Nat → SV),
    (∀ p ∈ l, place p.1 = some (off p.1, sz p.1)) → l.length = vs.length → (∀ (k : Nat) (p : Nat × SV) (q : Nat × Value), l[k]? = some p → vs[k]? = some q → p.1 = q.1 ∧ Rep w fz p.2 q.2) → bldS off sz tot l → CellsRep w fz cur tot g →
    ∃ r, Instr.fill place cur vs = some r ∧ CellsRep w fz r tot (bldF off l g)
  | [], [], cur, g, _, _, _, _, hc => ⟨cur, rfl, hc⟩
  | (i, x) :: l, (i', v) :: vs, cur, g, hp, hl, hr, hs, hc => by
    obtain ⟨rfl, hrv⟩ := hr 0 (i, x) (i', v) rfl rfl
    obtain ⟨s1, s2, s3, s4⟩ := hs
    dsimp only at hrv
    obtain ⟨g1, g2⟩ := good_cells hrv s2
    have hpl := hp (i, x) (List.mem_cons_self)
    obtain ⟨h1, h2⟩ := fold_list (off i) v.cells.toList 0 cur
    have hcur := hc.1
    have hx : CellsRep w fz ((v.cells.zipIdx).foldl (fun cs (p : Value × Nat) => cs.setIfInBounds (off i + p.2) p.1) cur) tot (if x.size = 1 then upd g (off i) (x.cell 0) else ovl g (off i) x.size x) := by
      rw [← Array.foldl_toList, Array.toList_zipIdx]
      refine ⟨by rw [h1]; exact hc.1, fun j hj => ?_⟩
      rw [h2 j (by simp only [Array.length_toList]; omega)]
      simp only [Nat.add_zero, Array.length_toList, Array.getElem?_toList]
      by_cases hin : off i ≤ j ∧ j < off i + v.cells.size
      · rw [if_pos hin]
        obtain ⟨u, k1, k2, k3⟩ := g2 (j - off i) (by omega)
        refine ⟨u, k1, k2, ?_⟩
        split
        · rename_i h1
          obtain rfl : j = off i := by omega
          simp only [upd, if_true]
          rw [show off i - off i = 0 by omega] at k3
          exact k3
        · rw [ovl, if_pos (by omega)]
          exact k3
      · rw [if_neg hin]
        obtain ⟨u, k1, k2, k3⟩ := hc.2 j hj
        refine ⟨u, k1, k2, ?_⟩
        split
        · rw [upd, if_neg (by omega)]; exact k3
        · rw [ovl, if_neg (by omega)]; exact k3
    have := fill_sound l vs _ _ (fun p hp' => hp p (List.mem_cons_of_mem _ hp')) (by simpa using hl) (fun k p q h1 h2 => hr (k + 1) p q (by simpa using h1) (by simpa using h2)) s4 hx
    obtain ⟨r, e1, e2⟩ := this
    refine ⟨r, ?_, e2⟩
    rw [Instr.fill]
    simp only [hpl]
    rw [if_neg (by simp; omega)]
    exact e1
  | [], _ :: _, _, _, _, hl, _, _, _ => by simp at hl
  | _ :: _, [], _, _, _, hl, _, _, _ => by simp at hl

theorem zero_sound {t : TypeId} (hg : (TI.of P t).zero.good = true) (hs : (TI.of P t).zero.size = (TI.of P t).size) :
    ∃ i z, P.info? t = some i ∧ i.zero = some z ∧ Rep w fz (TI.of P t).zero z ∧ z.cells.size = (TI.of P t).size ∧ CellsRep w fz z.cells (TI.of P t).size (TI.of P t).zero.cell := by
  cases hi : P.info? t with
  | none => simp [TI.of, hi, default, SV.good] at hg
  | some i =>
    cases hz : i.zero with
    | none => simp [TI.of, hi, hz, SV.good] at hg
    | some z =>
      have e : (TI.of P t).zero = ofV z := by simp [TI.of, hi, hz]
      have r := rep_ofV w fz z
      rw [← e] at r
      obtain ⟨g1, g2⟩ := good_cells r hg
      rw [hs] at g1 g2
      exact ⟨i, z, rfl, hz, r, g1, g1, g2⟩

theorem mapM_pure {α β : Type} (f : α → β) (g : α → Sem β) (l : List α) (h : ∀ x ∈ l, (g x).run P w = .ok (f x) w) : (l.mapM g).run P w = .ok (l.map f) w := by
  induction l with
  | nil => rfl
  | cons x l ih =>
    rw [List.mapM_cons]
    simp [h x List.mem_cons_self, ih (fun y hy => h y (List.mem_cons_of_mem _ hy))]

theorem build_sound {t : TypeId} {l : List (Nat × SV)} {vs : List (Nat × Value)} (hl : l.length = vs.length) (hr : ∀ (k : Nat) (p : Nat × SV) (q : Nat × Value), l[k]? = some p → vs[k]? = some q → p.1 = q.1 ∧ Rep w fz p.2 q.2)
    (h : (evBuild (TI.of P) t l).side) : Gives P fz φ w (Instr.build t vs.toArray) (evBuild (TI.of P) t l).s := by
  unfold evBuild at h ⊢
  split at h
  · rename_i h1
    rw [if_pos h1]
    dsimp only at h ⊢
    obtain ⟨⟨hg, hs⟩, hnz, hlen, hb⟩ := h
    obtain ⟨i, fs, hi, hu, _, _, ho, hf, hn⟩ := TI.kind1 h1
    obtain ⟨i', z, hi', hz, rz, zs, zc⟩ := zero_sound (P := P) (w := w) (fz := fz) hg hs
    rw [hi] at hi'
    obtain rfl := Option.some.inj hi'
    rw [hn] at hnz
    have hp := mapM_pure (P := P) (w := w) (fun f : Field => (f.offset, P.cellsOf f.type)) (fun f => Prod.mk f.offset <$> sizeOf f.type) fs.toList (fun f hf => by
      have hne := List.all_eq_true.1 hnz f hf
      cases he : P.info? f.type with
      | none => simp [Program.cellsOf, he] at hne
      | some ei => simp [sizeOf, typeInfo, he, Program.cellsOf])
    obtain ⟨r, e1, e2⟩ := fill_sound (w := w) (fz := fz) (place := fun x => (fs.toList.map (fun f : Field => (f.offset, P.cellsOf f.type)))[x]?) l vs z.cells _ (fun p hp => by
      have hlt := hlen p hp
      rw [ho] at hlt
      have hlt' : p.1 < fs.toList.length := by simpa using hlt
      rw [ho, hf]
      simp only [List.getD_eq_getElem?_getD, List.getElem?_map, List.getElem?_eq_getElem hlt', Option.map_some, Option.getD_some, cellsOf_size]) hl hr hb zc
    refine .mk (v := .agg r) ?_ ⟨r, rfl, e2.1, fun i hi => by rw [tabF_eq hi]; exact e2.2 i hi⟩
    simp [Instr.build, run_underlying hu, typeInfo, zeroValue, hi, hz, Array.mapM_eq_mapM_toList, hp]
    rw [show (fun x => Option.map (fun f : Field => (f.offset, P.cellsOf f.type)) fs[x]?) = (fun x => (fs.toList.map (fun f : Field => (f.offset, P.cellsOf f.type)))[x]?) from funext fun x => by simp]
    rw [e1]
    rfl
  · rename_i h1
    rw [if_neg h1]
    dsimp only at h ⊢
    obtain ⟨h2, ⟨hg, hs⟩, hnz, hb⟩ := h
    obtain ⟨i, n, el, hi, hu, _, _, he, _⟩ := TI.kind2 h2
    obtain ⟨i', z, hi', hz, rz, zs, zc⟩ := zero_sound (P := P) (w := w) (fz := fz) hg hs
    rw [hi] at hi'
    obtain rfl := Option.some.inj hi'
    obtain ⟨ei, hei⟩ := TI.info (P := P) (t := el) (.inr (.inl (by rw [← he]; exact hnz)))
    obtain ⟨r, e1, e2⟩ := fill_sound (w := w) (fz := fz) (place := fun i => some (i * ei.size, ei.size)) l vs z.cells _ (fun p _ => by rw [he, (TI.of_some hei).1]) hl hr hb zc
    refine .mk (v := .agg r) ?_ ⟨r, rfl, e2.1, fun i hi => by rw [tabF_eq hi]; exact e2.2 i hi⟩
    simp [Instr.build, run_underlying hu, typeInfo, zeroValue, hi, hz, sizeOf, hei, e1]

theorem fillE_sound {n esz : Nat} : ∀ (l : List (Nat × SV)) (vs : List (Nat × Value)) (cur : Array Value) (E : Nat → SV),
    l.length = vs.length → (∀ (k : Nat) (p : Nat × SV) (q : Nat × Value), l[k]? = some p → vs[k]? = some q → p.1 = q.1 ∧ Rep w fz p.2 q.2) → bldT n esz l → cur.size = n * esz → Holds w fz n esz E cur →
    ∃ r, Instr.fill (fun i => some (i * esz, esz)) cur vs = some r ∧ r.size = n * esz ∧ Holds w fz n esz (bldE l E) r
  | [], [], cur, E, _, _, _, hz, hc => ⟨cur, rfl, hz, hc⟩
  | (i, x) :: l, (i', v) :: vs, cur, E, hl, hr, hs, hz, hc => by
    obtain ⟨hi, hrv⟩ := hr 0 (i, x) (i', v) rfl rfl
    dsimp only at hi hrv
    subst hi
    obtain ⟨s1, s2, s3, s4⟩ := hs
    obtain ⟨g1, g2⟩ := good_cells hrv s3
    obtain ⟨h1, h2⟩ := fold_list (i * esz) v.cells.toList 0 cur
    have hin : i * esz + esz ≤ n * esz := by
      calc i * esz + esz = (i + 1) * esz := by rw [Nat.succ_mul]
        _ ≤ n * esz := Nat.mul_le_mul_right _ s1
    have hx : Holds w fz n esz (upd E i x) ((v.cells.zipIdx).foldl (fun cs (p : Value × Nat) => cs.setIfInBounds (i * esz + p.2) p.1) cur) := by
      rw [← Array.foldl_toList, Array.toList_zipIdx]
      intro k hk
      have hk' : k * esz + esz ≤ n * esz := by
        calc k * esz + esz = (k + 1) * esz := by rw [Nat.succ_mul]
          _ ≤ n * esz := Nat.mul_le_mul_right _ hk
      have get : ∀ j, j < esz → (((v.cells.toList.zipIdx).foldl (fun cs (p : Value × Nat) => cs.setIfInBounds (i * esz + p.2) p.1) cur))[k * esz + j]? = if k = i then v.cells[j]? else cur[k * esz + j]? := by
        intro j hj
        rw [h2 _ (by simp only [Array.length_toList]; omega)]
        simp only [Nat.add_zero, Array.length_toList, Array.getElem?_toList]
        by_cases hki : k = i
        · subst hki
          rw [if_pos (by omega), if_pos rfl, show k * esz + j - k * esz = j by omega]
        · rw [if_neg hki, if_neg]
          rintro ⟨a1, a2⟩
          rcases Nat.lt_or_ge k i with h | h
          · have : (k + 1) * esz ≤ i * esz := Nat.mul_le_mul_right _ h
            rw [Nat.succ_mul] at this; omega
          · have : (i + 1) * esz ≤ k * esz := Nat.mul_le_mul_right _ (by omega)
            rw [Nat.succ_mul] at this; omega
      by_cases hki : k = i
      · subst hki
        refine ⟨v, by simp only [upd, if_true]; exact hrv, by omega, fun j hj => ?_⟩
        obtain ⟨u, k1, k2, _⟩ := g2 j (by omega)
        exact ⟨u, k1, k2, by rw [get j hj, if_pos rfl]; exact k1⟩
      · obtain ⟨ev, r1, r2, r3⟩ := hc k hk
        refine ⟨ev, by rw [upd, if_neg hki]; exact r1, r2, fun j hj => ?_⟩
        obtain ⟨u, k1, k2, k3⟩ := r3 j hj
        exact ⟨u, k1, k2, by rw [get j hj, if_neg hki]; exact k3⟩
    have hsz : ((v.cells.zipIdx).foldl (fun cs (p : Value × Nat) => cs.setIfInBounds (i * esz + p.2) p.1) cur).size = n * esz := by
      rw [← Array.foldl_toList, Array.toList_zipIdx, h1, hz]
    obtain ⟨r, e1, e2⟩ := fillE_sound l vs _ _ (by simpa using hl) (fun k p q h1 h2 => hr (k + 1) p q (by simpa using h1) (by simpa using h2)) s4 hsz hx
    refine ⟨r, ?_, e2⟩
    rw [Instr.fill]
    dsimp only
    rw [if_neg (by simp; omega)]
    exact e1
  | [], _ :: _, _, _, hl, _, _, _, _ => by simp at hl
  | _ :: _, [], _, _, hl, _, _, _, _ => by simp at hl

theorem zeros_hold {esz n : Nat} {z : Array Value} {s : SV} {zv : Value} (hz : z = zv.cells) (hs : z.size = esz) (r : Rep w fz s zv) (hc : ∀ j, j < esz → ∃ u, z[j]? = some u ∧ u.oneCell' = true) :
    ((Array.range (n * esz)).map (z[· % z.size]!)).size = n * esz ∧ Holds w fz n esz (fun _ => s) ((Array.range (n * esz)).map (z[· % z.size]!)) := by
  refine ⟨by simp, fun i hi => ⟨zv, r, by rw [← hz]; exact hs, fun j hj => ?_⟩⟩
  obtain ⟨u, h1, h2⟩ := hc j hj
  refine ⟨u, by rw [← hz]; exact h1, h2, ?_⟩
  have hlt : i * esz + j < n * esz := by
    calc i * esz + j < i * esz + esz := by omega
      _ = (i + 1) * esz := by rw [Nat.succ_mul]
      _ ≤ n * esz := Nat.mul_le_mul_right _ hi
  rw [Array.getElem?_map, Array.getElem?_range, if_pos hlt]
  simp only [Option.map_some, hs]
  rw [Nat.add_comm, Nat.add_mul_mod_self_right, Nat.mod_eq_of_lt hj, getElem!_pos z j (by omega)]
  rw [Array.getElem?_eq_getElem (by omega)] at h1
  exact h1

/-- A new block of cells, the first so many of which are never written again. -/
theorem ext_alloc (hl : ∀ b o, fz b o → b < w.heap.size) (cs : Array Value) (T : TypeId) (k : Nat) :
    Ext w fz (w.alloc (.cells cs T)) (fun b o => fz b o ∨ b = w.heap.size ∧ o < k) :=
  { below := (Below.refl _ _).alloc (Nat.le_refl _) _
    more := fun _ _ h => .inl h
    only := fun b o h => h.elim .inl (fun h => .inr (by omega))
    lt := fun b o h => by
      rw [World.size_alloc]
      rcases h with h | h
      · have := hl b o h; omega
      · omega }

theorem holds_mono {w' : World} {fz' : Nat → Nat → Prop} {n esz : Nat} {e : Nat → SV} {cur : Array Value} (h : ∀ b o, fz b o → fz' b o ∧ w'.cell? ⟨b, o, none⟩ = w.cell? ⟨b, o, none⟩) (hc : Holds w fz n esz e cur) : Holds w' fz' n esz e cur := by
  intro i hi
  obtain ⟨ev, r1, r2, r3⟩ := hc i hi
  exact ⟨ev, Rep.mono h _ _ r1, r2, r3⟩

/-- A row of cells read as a slice. -/
theorem holds_slice {n esz c b : Nat} {e : Nat → SV} {cur : Array Value} {T : TypeId} {fr : Nat × Nat} {ex : Bool} (hh : w.heap[b]? = some (.cells cur T fr)) (hc : Holds w fz n esz e cur) (hn : n ≤ c) (hex : ex = true → c = n) (hf : ∀ j, j < n * esz → fz b j) :
    Rep w fz (.sl ex n esz e) (.slice (some ⟨b, 0, none⟩) n c) := by
  refine ⟨_, c, rfl, hn, hex, fun _ => ⟨b, 0, rfl, fun i hi => ?_⟩⟩
  obtain ⟨ev, r1, r2, r3⟩ := hc i hi
  refine ⟨ev, r1, r2, fun j hj => ?_⟩
  obtain ⟨u, g1, g2, g3⟩ := r3 j hj
  have hlt : i * esz + j < n * esz := by
    calc i * esz + j < i * esz + esz := by omega
      _ = (i + 1) * esz := by rw [Nat.succ_mul]
      _ ≤ n * esz := Nat.mul_le_mul_right _ hi
  refine ⟨u, g1, g2, ?_, ?_⟩
  · rw [Nat.zero_add]; simp [World.cell?, hh, g3]
  · rw [Nat.zero_add]; exact hf _ hlt

theorem buildSlice_sound {t : TypeId} {n : Nat} {l : List (Nat × SV)} {vs : List (Nat × Value)} (hlt : ∀ b o, fz b o → b < w.heap.size) (hl : l.length = vs.length) (hr : ∀ (k : Nat) (p : Nat × SV) (q : Nat × Value), l[k]? = some p → vs[k]? = some q → p.1 = q.1 ∧ Rep w fz p.2 q.2)
    (h : (evBuildSlice (TI.of P) t n l).side) : ∃ v w' fz', (Instr.buildSlice t n vs.toArray).run P w = .ok v w' ∧ Ext w fz w' fz' ∧ SlotRep w' fz' φ (evBuildSlice (TI.of P) t n l).s v := by
  unfold evBuildSlice at h ⊢
  dsimp only at h ⊢
  obtain ⟨h3, hnz, hbd, ⟨hg, hs⟩, hb⟩ := h
  obtain ⟨ti, el, hti, hu, he⟩ := TI.kind3 h3
  rw [he] at hnz hbd hg hs hb ⊢
  obtain ⟨ei, z, hei, hz, rz, zs, zc⟩ := zero_sound (P := P) (w := w) (fz := fz) hg hs
  have hes := (TI.of_some hei).1
  rw [hes] at hnz hbd hs hb zs zc ⊢
  have hpos : 0 < ei.size := by omega
  obtain ⟨c1, c2⟩ := zeros_hold (n := n) rfl zs rz (fun j hj => by obtain ⟨u, k1, k2, _⟩ := zc.2 j hj; exact ⟨u, k1, k2⟩)
  obtain ⟨r, e1, e2, e3⟩ := fillE_sound l vs _ _ hl hr hb c1 c2
  have hrun : (Instr.buildSlice t n vs.toArray).run P w = Result.ok (Value.slice (some ⟨w.heap.size, 0, none⟩) n n) (w.alloc (.cells r el)) := by
    have hbd' : ¬ 2 ^ 24 < n * ei.size := by omega
    by_cases h0 : n * ei.size = 0
    · have hem : ∀ f : Nat → Value, Array.map f (Array.range (n * ei.size)) = #[] := fun f => Array.eq_empty_of_size_eq_zero (by simp [h0])
      rw [hem] at e1
      have hbd2 : ¬ n * ei.size > 2 ^ 24 := by omega
      have key : ∀ f : Nat → Value, Sem.run P (match Instr.fill (fun i => some (i * ei.size, ei.size)) (Array.map f (Array.range (n * ei.size))) vs with
        | some cells => do pure (Value.slice (some (← newRow el cells)) n n)
        | _ => stuck "buildSlice: a part of the wrong size") w = Result.ok (Value.slice (some ⟨w.heap.size, 0, none⟩) n n) (w.alloc (.cells r el)) := by
        intro f
        rw [hem, e1]
        simp [newRow]
      simp only [Instr.buildSlice, Sem.run_bind, run_underlying hu, Result.andThen_ok, sizeOf, typeInfo, run_program, hei, Sem.run_pure, hbd2, if_false, if_pos h0]
      exact key _
    · simp [Instr.buildSlice, run_underlying hu, sizeOf, typeInfo, hei, hbd', h0, zeroValue, hz, newRow]
      simp [e1]
  have hext := ext_alloc (w := w) hlt r el (n * ei.size)
  refine ⟨_, _, _, hrun, hext, ?_⟩
  have hh : (w.alloc (.cells r el)).heap[w.heap.size]? = some (.cells r el (0, 0)) := heap_alloc_new w _
  exact holds_slice hh (holds_mono (fun b o x => ⟨.inl x, hext.cell (hlt b o x)⟩) (fun i hi => by rw [tabF_eq hi]; exact e3 i hi)) (Nat.le_refl _) (fun _ => rfl) (fun j hj => .inr ⟨rfl, hj⟩)
end
end Go.Am
