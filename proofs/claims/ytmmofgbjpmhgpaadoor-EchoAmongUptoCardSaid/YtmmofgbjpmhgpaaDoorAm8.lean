/- Operations in a row, and code. -/
import Derived.Test.YtmmofgbjpmhgpaaDoorAm7
set_option linter.all false
set_option linter.unusedVariables false
set_option linter.unusedSimpArgs false
set_option linter.unnecessarySimpa false
namespace Go.Am
open Go Go.RowKit

section
variable {P : Program} {c : Cfg} {w0 w : World} {fz0 fz : Nat → Nat → Prop} {φ : Own} {m : Mem} {o : Oper} {a : Act} {T : Nat → Slot} {K : Act → World → Prop} {Q : Exit → Act → World → Prop}

/-- What is handed on from one operation to the next. -/
def Nxt (P : Program) (w0 : World) (fz0 : Nat → Nat → Prop) (N : Nat) (T : Nat → Slot) (m : Mem) (a : Act) (w : World) : Prop :=
  ∃ fz φ, RS P w0 fz0 w fz φ T m a ∧ (∀ k, k < m.boxes.length → φ.bok k) ∧ a.defers = [] ∧ a.tmps.size = N

theorem act_sound (hc : c.ti = TI.of P) (h : RS P w0 fz0 w fz φ T m a) (hd : ∀ d, o.dst = some d → d < a.tmps.size) {A : A} (hA : act c o.op o.dst T m = some A) (hs : A.side)
    (k : ∀ a' w' fz' φ', RS P w0 fz0 w' fz' φ' A.s.t A.s.m a' → a'.defers = a.defers → a'.tmps.size = a.tmps.size → Full φ m φ' A.s.m → K a' w') : o.wp P a w K Q := by
  generalize hop : o.op = op at hA
  unfold act at hA
  split at hA
  · obtain rfl := Option.some.inj hA
    exact alloc_sound hc h hd hop hs k
  · obtain rfl := Option.some.inj hA
    exact box_sound h hd hop hs k
  · rename_i t ax x
    obtain rfl := Option.some.inj hA
    unfold storeA at hs k
    split at hs
    · rename_i k' off hax
      rw [hax] at k
      dsimp only at k
      cases hb : m.boxes[k']? with
      | none => rw [hb] at hs; exact hs.elim
      | some b =>
        rw [hb] at hs k
        dsimp only at hs k
        exact storeBx_sound hc h hd hop hax hb hs.1 hs.2.1 hs.2.2 k
    · rename_i k' i off hax
      rw [hax] at k
      dsimp only at k
      cases hb : m.rows[k']? with
      | none => rw [hb] at hs; exact hs.elim
      | some r =>
        rw [hb] at hs k
        dsimp only at hs k
        have hxv := slotRep_val h.slots x
        split at hs
        · rename_i hag
          rw [if_pos hag] at k
          dsimp only at hs k
          obtain ⟨h1, h2, h3, rfl, h5, h6, h7, h8, h9⟩ := hs
          have hg : ((val T x).sv m).good = true := by
            cases he : (val T x).sv m <;> rw [he] at h6 <;> first | rfl | cases h6
          obtain ⟨g1, g2⟩ := good_cells (hxv.sv h.mem) hg
          refine storeRp_core hc h hd hop hax hb h1 h2 h3 h9 h8 (by omega) (by omega) (fun u hu => ?_) (fun ev _ h' => ⟨a.eval x, hxv.sv h.mem, by omega, fun j hj => ?_⟩) k
          · obtain ⟨i, hi, e⟩ := List.getElem_of_mem hu
            obtain ⟨u', k1, k2, _⟩ := g2 i (by rw [← g1]; simpa using hi)
            have : (a.eval x).cells.toList[i]? = some u := by rw [List.getElem?_eq_getElem hi, e]
            rw [Array.getElem?_toList, k1] at this
            obtain rfl := Option.some.inj this
            exact k2
          · rw [if_pos (by omega)]; rfl
        · rename_i hag
          rw [if_neg hag] at k
          dsimp only at hs k
          obtain ⟨h1, h2, h3, h4, h5, h6, h7, h8⟩ := hs
          have hx1 : (a.eval x).oneCell' = true := Slot.one_of (s := .p ((val T x).sv m)) h.mem (hxv.sv h.mem) h5
          have hcell : (a.eval x).cells = #[a.eval x] := by cases hv : a.eval x <;> rw [hv] at hx1 <;> first | rfl | cases hx1
          refine storeRp_core hc h hd hop hax hb h1 h2 h3 h7 (by omega) (by omega) (by rw [hcell, h6]; rfl) (fun u hu => ?_) (fun ev r1 r2 => ?_) k
          · rw [hcell] at hu
            simp at hu
            rw [hu]; exact hx1
          · cases he : r.s.idx i <;> rw [he] at r1 h8 <;> simp only [SV.isAg, Bool.false_eq_true, false_or, true_or] at h8
            case agg n f =>
              obtain ⟨cs, rfl, hn, hcs⟩ := r1
              refine ⟨.agg (cs.setIfInBounds off (a.eval x)), ⟨_, rfl, by simpa [Value.cells] using r2, fun j hj => ?_⟩, by simpa [Value.cells] using r2, fun j hj => ?_⟩
              · simp only [Value.cells] at r2
                by_cases hjo : j = off
                · subst hjo
                  refine ⟨a.eval x, by simp [show j < cs.size by omega], hx1, ?_⟩
                  simp only [upd, if_true]
                  exact hxv.sv h.mem
                · obtain ⟨u, k1, k2, k3⟩ := hcs j (by omega)
                  exact ⟨u, by rw [Array.getElem?_setIfInBounds_ne (fun e => hjo e.symm)]; exact k1, k2, by simp only [upd, hjo, if_false]; exact k3⟩
              · simp only [Value.cells] at r2
                show (cs.setIfInBounds off (a.eval x))[j]? = if off ≤ j ∧ j < off + (c.ti t).size then (a.eval x).cells[j - off]? else cs[j]?
                by_cases hjo : j = off
                · subst hjo
                  rw [if_pos (by omega), hcell]
                  simp [show j < cs.size by omega]
                · rw [if_neg (by omega), Array.getElem?_setIfInBounds_ne (fun e => hjo e.symm)]
            all_goals
              refine ⟨a.eval x, hxv.sv h.mem, by rw [hcell, h8]; rfl, fun j hj => ?_⟩
              rw [if_pos (by omega), show j - off = j by omega]
    · exact hs.elim
  · rename_i t l k'
    obtain rfl := Option.some.inj hA
    split at hs
    · exact hs.elim
    · rename_i h3
      rw [if_neg h3] at k
      unfold makeA at hs k
      split at hs
      · rename_i k1 n k2 cap e1 e2
        rw [e1, e2] at k
        exact make_sound hc h hd hop (by simpa using h3) e1 e2 hs k
      · exact hs.elim
  · rename_i s x t u
    obtain rfl := Option.some.inj hA
    split at hs
    · rename_i h3
      obtain ⟨rfl, h3⟩ := h3
      rw [if_pos ⟨rfl, h3⟩] at k
      unfold appendA at hs k
      split at hs
      · rename_i ex n2 k2 e2 hx
        rw [hx] at k
        dsimp only at k
        split at hs
        · rename_i hsl
          rw [hsl] at k
          obtain ⟨g1, rfl, g3, g4⟩ := hs
          exact appendNil_sound hc h hd hop h3 hsl hx g1 g3 g4 k
        · rename_i n k1 e hsl
          rw [hsl] at k
          dsimp only at k
          split at hs
          · rename_i h1
            rw [if_pos h1] at k
            obtain ⟨rfl, rfl, g3, g4⟩ := hs
            exact appendExRow_sound hc h hd hop h3 hsl hx g3 g4 (by omega) k
          · rename_i h1
            rw [if_neg h1] at k
            obtain ⟨rfl, rfl, g3, g4⟩ := hs
            exact appendExVal_sound hc h hd hop h3 hsl hx g3 g4 k
        · rename_i kr hsl
          rw [hsl] at k
          dsimp only at k
          cases hr : m.rows[kr]? with
          | none => rw [hr] at hs; exact hs.elim
          | some r =>
            rw [hr] at hs k
            dsimp only at hs k
            obtain ⟨g1, g2, rfl, g4, g5⟩ := hs
            exact appendOwn_sound hc h hd hop h3 hsl hr hx g1 g2 g4 g5 k
        · exact hs.elim
      · exact hs.elim
    · exact hs.elim
  · cases hA

/-! ### The congruences: what an operation gives hangs on its operands alone -/
theorem map_congr_mem {α β : Type} {f g : α → β} : ∀ (l : List α), (∀ x ∈ l, f x = g x) → l.map f = l.map g
  | [], _ => rfl
  | x :: l, h => by rw [List.map_cons, List.map_cons, h x List.mem_cons_self, map_congr_mem l fun y hy => h y (List.mem_cons_of_mem _ hy)]

theorem ev_congr (c : Cfg) (op : Op) {ρ ρ' : Operand → Slot} (m : Mem) (h : ∀ x ∈ opu op, ρ x = ρ' x) : ev c op ρ m = ev c op ρ' m := by
  unfold ev
  split <;> simp only [opu, opl, List.mem_cons, List.not_mem_nil, or_false, forall_eq_or_imp, forall_eq] at h
  case h_12 t l =>
    rw [map_congr_mem l fun p hp => by rw [h p.2 (List.mem_map.2 ⟨p, hp, rfl⟩)]]
  case h_13 t n l =>
    rw [map_congr_mem l fun p hp => by rw [h p.2 (List.mem_map.2 ⟨p, hp, rfl⟩)]]
  case h_14 t x lo hi =>
    obtain ⟨h1, h2⟩ := h
    rw [h1]
    cases lo <;> cases hi <;> simp_all
  case h_16 x l _ =>
    obtain ⟨h1, h2⟩ := h
    rw [h1, map_congr_mem l fun y hy => by rw [h2 y hy]]
  all_goals (first | rfl | simp_all)
end
end Go.Am
