/- The operations that change the machine's own memory are sound. -/
import Derived.Test.YtmmofgbjpmhgpaaDoorAm5
import Derived.Laws.MakeOwn
set_option linter.all false
set_option linter.unusedVariables false
set_option linter.unusedSimpArgs false
set_option linter.unnecessarySimpa false
namespace Go.Am
open Go Go.RowKit

section
variable {P : Program} {c : Cfg} {w0 w : World} {fz0 fz : Nat → Nat → Prop} {φ : Own} {m : Mem} {o : Oper} {a : Act} {T : Nat → Slot} {K : Act → World → Prop} {Q : Exit → Act → World → Prop}

/-- Every box is laid, if every one was. -/
def Full (φ : Own) (m : Mem) (φ' : Own) (m' : Mem) : Prop := ∀ k, φ'.bok k ↔ φ.bok k ∨ (m.boxes.length ≤ k ∧ k < m'.boxes.length)
theorem Full.all {φ φ' : Own} {m m' : Mem} (h : Full φ m φ' m') (hf : ∀ k, k < m.boxes.length → φ.bok k) : ∀ k, k < m'.boxes.length → φ'.bok k := fun k hk => (h k).2 (by
  by_cases h1 : k < m.boxes.length
  · exact .inl (hf k h1)
  · exact .inr ⟨by omega, hk⟩)
theorem Full.same {φ φ' : Own} {m m' : Mem} (h1 : m'.boxes.length = m.boxes.length) (h2 : φ'.bok = φ.bok) : Full φ m φ' m' := fun k => by
  rw [h2, h1]
  exact ⟨.inl, fun h => h.elim id (fun h => by omega)⟩
theorem Full.newBox {φ : Own} {m : Mem} {b : Nat} {bx : Box} : Full φ m (φ.addBox m.boxes.length b) { m with boxes := m.boxes ++ [bx] } := fun k => by
  simp only [List.length_append, List.length_singleton, Own.addBox]
  constructor
  · rintro (h | h)
    · exact .inl h
    · exact .inr (by omega)
  · rintro (h | h)
    · exact .inl h
    · exact .inr (by omega)

theorem wp_skip_unit {x : Sem Unit} {w' : World} (he : execOp a.eval o = (do x; pure .skip)) (h : x.run P w = .ok () w') (k : K (a.put o.dst undef) w') : o.wp P a w K Q := by
  unfold Oper.wp
  rw [he]
  simp only [Sem.run_bind, h, Result.andThen_ok, Sem.run_pure, Oper.upon_skip]
  exact k

theorem alloc_sound {t : TypeId} (hc : c.ti = TI.of P) (h : RS P w0 fz0 w fz φ T m a) (hd : ∀ d, o.dst = some d → d < a.tmps.size) (ho : o.op = .alloc t) (hs : (c.ti t).zero.good = true ∧ (c.ti t).zero.size = (c.ti t).size)
    (k : ∀ a' w' fz' φ', RS P w0 fz0 w' fz' φ' (allocK c t o.dst T m).t (allocK c t o.dst T m).m a' → a'.defers = a.defers → a'.tmps.size = a.tmps.size → Full φ m φ' (allocK c t o.dst T m).m → K a' w') : o.wp P a w K Q := by
  rw [hc] at hs
  obtain ⟨i, z, hi, hz, rz, zs, zc⟩ := zero_sound (P := P) (w := w) (fz := fz) hs.1 hs.2
  refine wp_value (x := Instr.alloc t true (.tuple #[])) (v := .pointer (some ⟨w.heap.size, 0, none⟩)) (w' := w.alloc (.cells z.cells t)) (by simp [execOp, ho]) (by simp [Instr.alloc, zeroValue, typeInfo, hi, hz, newVar, newRow]) ?_
  refine k _ _ fz _ (h.newBox hd (bx := ⟨(c.ti t).size, fun i => .p ((c.ti t).zero.cell i)⟩) (by rw [hc]; exact zs) (fun i hi => ?_)) defers_put size_put Full.newBox
  rw [hc] at hi ⊢
  exact zc.2 i hi

/-- The cells of what is put into a variable. -/
theorem boxS_sound {t : TypeId} {s : Slot} {v : Value} (hm : RM P w0 fz0 w fz φ m) (hv : SlotRep w fz φ s v) (hs : boxS c t m s) :
    v.cells.size = (c.ti t).size ∧ (∀ i, i < (c.ti t).size → ∃ u, v.cells[i]? = some u ∧ u.oneCell' = true ∧ SlotRep w fz φ (boxF c t m s i) u) := by
  unfold boxS at hs
  unfold boxF
  split at hs
  · rename_i hag
    rw [if_pos hag]
    obtain ⟨h1, h2⟩ := hs
    have hg : (s.sv m).good = true := by
      cases he : s.sv m <;> rw [he] at h2 <;> first | rfl | cases h2
    obtain ⟨g1, g2⟩ := good_cells (hv.sv hm) hg
    rw [h1] at g1 g2
    exact ⟨g1, g2⟩
  · rename_i hag
    rw [if_neg hag]
    obtain ⟨h1, h2⟩ := hs
    have h3 := Slot.one_of hm hv h2
    have hcell : v.cells = #[v] := by cases v <;> first | rfl | cases h3
    rw [hcell, h1]
    refine ⟨rfl, fun i hi => ⟨v, ?_, h3, hv⟩⟩
    obtain rfl : i = 0 := by omega
    rfl

theorem box_sound {t : TypeId} {x : Operand} (h : RS P w0 fz0 w fz φ T m a) (hd : ∀ d, o.dst = some d → d < a.tmps.size) (ho : o.op = .box t x) (hs : boxS c t m (val T x))
    (k : ∀ a' w' fz' φ', RS P w0 fz0 w' fz' φ' (boxK c t o.dst T m (val T x)).t (boxK c t o.dst T m (val T x)).m a' → a'.defers = a.defers → a'.tmps.size = a.tmps.size → Full φ m φ' (boxK c t o.dst T m (val T x)).m → K a' w') : o.wp P a w K Q := by
  obtain ⟨h1, h2⟩ := boxS_sound h.mem (slotRep_val h.slots x) hs
  refine wp_value (x := Instr.box t (a.eval x)) (v := .pointer (some ⟨w.heap.size, 0, none⟩)) (w' := w.alloc (.cells (a.eval x).cells t)) (by simp [execOp, ho]) (by simp [Instr.box, newVar, newRow]) ?_
  exact k _ _ fz _ (h.newBox hd (bx := ⟨(c.ti t).size, boxF c t m (val T x)⟩) h1 h2) defers_put size_put Full.newBox

theorem storeVar_run {t : TypeId} {b off : Nat} {cur : Array Value} {T : TypeId} {v : Value} (hi : ∃ i, P.info? t = some i) (hsz : v.cells.size = (TI.of P t).size) (hone : ∀ u ∈ v.cells.toList, u.oneCell' = true) (hh : w.heap[b]? = some (.cells cur T (0, 0))) (hfit : off + v.cells.size ≤ cur.size) :
    (Instr.storeAt t (.pointer (some ⟨b, off, none⟩)) v).run P w = .ok () (w.setRow b (cur.toList.take off ++ v.cells.toList ++ cur.toList.drop (off + v.cells.size)).toArray) := by
  obtain ⟨i, hi⟩ := hi
  have hr := run_storeCells_at P b off T v.cells.toList 0 cur w hh (by simpa using hfit) hone
  simp only [Nat.add_zero, Array.length_toList] at hr
  have hsz' : v.cells.size = i.size := by rw [hsz, (TI.of_some hi).1]
  simp [Instr.storeAt, Instr.sureAddr, storeVar, sizeOf, typeInfo, hi, hsz', hr]

/-- The cells of a row in the middle of which some have been written. -/
theorem mid_get {cur : Array Value} {off : Nat} {vs : List Value} (hfit : off + vs.length ≤ cur.size) (i : Nat) :
    (cur.toList.take off ++ vs ++ cur.toList.drop (off + vs.length)).toArray[i]? = if off ≤ i ∧ i < off + vs.length then vs[i - off]? else cur[i]? := by
  rw [List.getElem?_toArray]
  have hl : (cur.toList.take off).length = off := by rw [List.length_take]; simp; omega
  by_cases h1 : i < off
  · rw [if_neg (by omega), List.append_assoc, List.getElem?_append_left (by omega), List.getElem?_take_of_lt h1]
    simp
  · by_cases h2 : i < off + vs.length
    · rw [if_pos (by omega), List.append_assoc, List.getElem?_append_right (by omega), hl, List.getElem?_append_left (by omega)]
    · rw [if_neg (by omega), List.getElem?_append_right (by rw [List.length_append, hl]; omega), List.length_append, hl, List.getElem?_drop]
      rw [show off + vs.length + (i - (off + vs.length)) = i by omega]
      simp
theorem mid_size {cur : Array Value} {off : Nat} {vs : List Value} (hfit : off + vs.length ≤ cur.size) : (cur.toList.take off ++ vs ++ cur.toList.drop (off + vs.length)).toArray.size = cur.size := by
  simp; omega

theorem storeBx_sound {t : TypeId} {x : Operand} {ax : Operand} {k off : Nat} {b : Box} (hc : c.ti = TI.of P) (h : RS P w0 fz0 w fz φ T m a) (hd : ∀ d, o.dst = some d → d < a.tmps.size) (ho : o.op = .store t ax x) (hax : val T ax = .bx k off) (hk : m.boxes[k]? = some b)
    (hs : boxS c t m (val T x)) (hfit : off + (c.ti t).size ≤ b.n) (hnz : (c.ti t).size ≠ 0)
    (kk : ∀ a' w' fz' φ', RS P w0 fz0 w' fz' φ' (putT T o.dst (.p .dead)) { m with boxes := setAt m.boxes k (b.put c t off m (val T x)) } a' → a'.defers = a.defers → a'.tmps.size = a.tmps.size → Full φ m φ' { m with boxes := setAt m.boxes k (b.put c t off m (val T x)) } → K a' w') : o.wp P a w K Q := by
  have hxv := slotRep_val h.slots x
  obtain ⟨h1, h2⟩ := boxS_sound h.mem hxv hs
  have hav := slotRep_val h.slots ax
  rw [hax] at hav
  obtain ⟨hkb, hav⟩ := hav
  have hlt := (h.mem.box k b hkb hk).lt
  obtain ⟨g1, ⟨cs, Ty, g2, g3, g4⟩, g5⟩ := h.mem.box k b hkb hk
  have hinfo : ∃ i, P.info? t = some i := TI.info (.inr (.inl (by rw [← hc]; exact hnz)))
  have hone : ∀ u ∈ (a.eval x).cells.toList, u.oneCell' = true := by
    intro u hu
    obtain ⟨i, hi, e⟩ := List.getElem_of_mem hu
    obtain ⟨u', k1, k2, _⟩ := h2 i (by rw [← h1]; simpa using hi)
    have : (a.eval x).cells.toList[i]? = some u := by rw [List.getElem?_eq_getElem hi, e]
    rw [Array.getElem?_toList, k1] at this
    obtain rfl := Option.some.inj this
    exact k2
  have hrun := storeVar_run (P := P) (w := w) (t := t) (off := off) (v := a.eval x) hinfo (by rw [h1, hc]) hone g2 (by rw [h1, g3]; exact hfit)
  have hfit' : off + (a.eval x).cells.toList.length ≤ cs.size := by simp only [Array.length_toList]; rw [h1, g3]; exact hfit
  have hget := mid_get hfit'
  have hsz := mid_size hfit'
  simp only [Array.length_toList] at hget hsz
  generalize hnew : (cs.toList.take off ++ (a.eval x).cells.toList ++ cs.toList.drop (off + (a.eval x).cells.size)).toArray = new at *
  refine wp_skip_unit (x := Instr.storeAt t (a.eval ax) (a.eval x)) (w' := w.setRow (φ.box k) new) (by simp [execOp, ho]) (by rw [hav]; exact hrun) ?_
  have hcell : ∀ b' o', fz b' o' → fz b' o' ∧ (w.setRow (φ.box k) new).cell? ⟨b', o', none⟩ = w.cell? ⟨b', o', none⟩ := fun b' o' hf => ⟨hf, by
    by_cases e : b' = φ.box k
    · subst e; exact (g5 o' hf).elim
    · exact World.cell?_of_block (setRow_other w _ _ _ e)⟩
  have hm' := h.mem.write (w' := w.setRow (φ.box k) new) (fz' := fz) (b := φ.box k) (m' := { m with boxes := setAt m.boxes k (b.put c t off m (val T x)) }) g1 hlt rfl rfl rfl (by simp) (fun j hj => setRow_other w _ j _ hj)
    (fun _ _ h => h) (fun _ _ h => .inl h) (fun o' ho' => (g5 o' ho').elim) (setAt_length _ _ _) rfl
    (fun j bx hbj hj => by
      dsimp only at hj
      rw [setAt_get] at hj
      split at hj
      · rename_i hjk
        obtain ⟨rfl, _⟩ := hjk
        right
        obtain rfl := Option.some.inj hj
        refine ⟨g1, ⟨new, Ty, setRow_heap w _ cs _ Ty (0, 0) g2, by rw [hsz, g3]; rfl, fun i hi => ?_⟩, g5⟩
        dsimp only [Box.put] at hi ⊢
        rw [hget i]
        by_cases hin : off ≤ i ∧ i < off + (a.eval x).cells.size
        · rw [if_pos hin]
          obtain ⟨u, k1, k2, k3⟩ := h2 (i - off) (by rw [← h1]; omega)
          refine ⟨u, by rw [Array.getElem?_toList]; exact k1, k2, SlotRep.mono hcell _ _ ?_⟩
          rw [h1] at hin
          unfold boxF at k3
          split at k3
          · rename_i hag
            rw [if_pos hag, if_pos hin]; exact k3
          · rename_i hag
            rw [if_neg hag]
            have h1' : (c.ti t).size = 1 := by
              unfold boxS at hs
              rw [if_neg hag] at hs
              exact hs.1
            obtain rfl : i = off := by omega
            simp only [upd, if_true]
            exact k3
        · rw [if_neg hin]
          obtain ⟨u, k1, k2, k3⟩ := g4 i hi
          refine ⟨u, k1, k2, SlotRep.mono hcell _ _ ?_⟩
          rw [h1] at hin
          split
          · dsimp only; rw [if_neg hin]; exact k3
          · rw [upd, if_neg (by omega)]; exact k3
      · rename_i hjk
        left
        refine ⟨hj, fun e => hjk ⟨?_, lt_of_getElem? hk⟩⟩
        exact h.mem.dbb j k hbj hkb e)
    (fun j r hj => ⟨r, hj, rfl, fun h => h, .inl ⟨rfl, rfl, fun hl => h.mem.dbr k j r hkb hj hl⟩⟩)
  refine kk _ _ fz φ ⟨hm', slots_put hd (fun i => SlotRep.mono hcell _ _ (h.slots i)) trivial⟩ defers_put size_put (Full.same (setAt_length _ _ _) rfl)

theorem make_sound {t : TypeId} {l k' : Operand} {n cap : Int} {k1 k2 : IntKind} (hc : c.ti = TI.of P) (h : RS P w0 fz0 w fz φ T m a) (hd : ∀ d, o.dst = some d → d < a.tmps.size) (ho : o.op = .makeSlice t l k') (h3 : (c.ti t).kind = 3)
    (hl : (val T l).sv m = .v (.int k1 n)) (hk : (val T k').sv m = .v (.int k2 cap)) (hs : n ≤ cap ∧ 0 ≤ n ∧ roomy cap.toNat (c.ti (c.ti t).elem).bytes ∧ (c.ti (c.ti t).elem).size ≠ 0 ∧ (c.ti (c.ti t).elem).zero.good = true ∧ (c.ti (c.ti t).elem).zero.size = (c.ti (c.ti t).elem).size)
    (kk : ∀ a' w' fz' φ', RS P w0 fz0 w' fz' φ' (putT T o.dst (.ow m.rows.length)) { m with rows := m.rows ++ [⟨(c.ti t).elem, .sl false n.toNat (c.ti (c.ti t).elem).size (fun _ => (c.ti (c.ti t).elem).zero), c.pubMake, true⟩] } a' → a'.defers = a.defers → a'.tmps.size = a.tmps.size → Full φ m φ' m → K a' w') : o.wp P a w K Q := by
  rw [hc] at hs h3 kk
  obtain ⟨hnc, h0, ⟨hr1, hr2⟩, hnz, hzg, hzs⟩ := hs
  obtain ⟨ti, el, hti, hu, he⟩ := TI.kind3 h3
  rw [he] at hr2 hnz hzg hzs kk
  have e1 := (slotRep_val h.slots l).sv h.mem
  have e2 := (slotRep_val h.slots k').sv h.mem
  rw [hl] at e1
  rw [hk] at e2
  have e1' := SV_rep_v e1
  have e2' := SV_rep_v e2
  obtain ⟨ei, z, hei, hz, rz, zs, zc⟩ := zero_sound (P := P) (w := w) (fz := fz) hzg hzs
  have hes := (TI.of_some hei).1
  have heb := (TI.of_some hei).2
  rw [heb] at hr2
  obtain ⟨c1, c2⟩ := zeros_hold (n := cap.toNat) rfl zs rz (fun j hj => by obtain ⟨u, k1, k2, _⟩ := zc.2 j hj; exact ⟨u, k1, k2⟩)
  have hb : (ei.bytes : Int) * cap ≤ 281474976710656 := by
    have e : (cap.toNat : Int) = cap := Int.toNat_of_nonneg (by omega)
    have hr3 : ((ei.bytes * cap.toNat : Nat) : Int) ≤ 281474976710656 := by rw [Nat.mul_comm]; omega
    rwa [Int.natCast_mul, e] at hr3
  have hrun := run_make (P := P) w t el ei z hu hei hz k1 k2 n cap h0 hnc hb (by omega)
  generalize hcs : madeCells z.cells (cap.toNat * ei.size) = cs at hrun
  have hcs' : cs = (Array.range (cap.toNat * (TI.of P el).size)).map (z.cells[· % z.cells.size]!) := by rw [← hcs, hes]; rfl
  rw [← hcs'] at c1 c2
  refine wp_value (x := Instr.makeSlice t (a.eval l) (a.eval k')) (by simp [execOp, ho]) (by rw [e1', e2']; exact hrun) ?_
  have hext := ext_alloc (w := w) h.mem.lt cs el (if c.pubMake = true then n.toNat * (TI.of P el).size else 0)
  have h' := h.ext hext
  have hnew : (w.alloc (.cells cs el)).heap[w.heap.size]? = some (.cells cs el (0, 0)) := heap_alloc_new w _
  have hold := holds_mono (fun b o x => ⟨hext.more b o x, hext.cell (h.mem.lt b o x)⟩) c2
  have hold' : Holds (w.alloc (.cells cs el)) _ n.toNat (TI.of P el).size (fun _ => (TI.of P el).zero) cs := fun i hi => hold i (by omega)
  refine kk _ _ _ _ (RS.addRow (T := T) h'.mem h'.slots hd (y := .slice (some ⟨w.heap.size, 0, none⟩) n.toNat cap.toNat) (r := ⟨el, .sl false n.toNat (TI.of P el).size (fun _ => (TI.of P el).zero), c.pubMake, true⟩) ⟨fun _ => ⟨.inr ⟨w.heap.size, cap.toNat, cs, rfl, h.mem.below.size, hnew, c1, by show n.toNat ≤ _; omega, by unfold maxLen; omega, hold', ?_, ?_, ?_⟩⟩, fun hp => ?_, ⟨_, _, _, rfl⟩⟩ ?_ _ rfl) defers_put size_put (Full.same rfl rfl)
  · intro j hj hj' hf
    rcases hf with hf | ⟨_, hf⟩
    · have := h.mem.lt _ _ hf; omega
    · have hj2 : n.toNat * (TI.of P el).size ≤ j := hj
      split at hf <;> omega
  · intro hp j hj
    have hp' : c.pubMake = true := hp
    exact .inr ⟨rfl, by rw [if_pos hp']; exact hj⟩
  · intro hp j hf
    have hp' : c.pubMake = false := hp
    rcases hf with hf | ⟨_, hf⟩
    · have := h.mem.lt _ _ hf; omega
    · rw [if_neg (by rw [hp']; simp)] at hf; omega
  · have hp' : c.pubMake = true := hp
    exact holds_slice hnew hold' (by omega) (fun hx => by cases hx) (fun j hj => .inr ⟨rfl, by rw [if_pos hp']; exact hj⟩)
  · intro b _ hb
    simp only [Value.ownBlock, Option.some.injEq] at hb
    subst hb
    refine ⟨fun k hk e => ?_, fun k r hk hl e => ?_⟩
    · have hk' := h.mem.nb k hk
      have := (h.mem.box k m.boxes[k] hk (by simp [hk'])).lt; omega
    · have := h.mem.row_lt hk hl e; omega
end
end Go.Am
