/- The rows' arguments as the machine's values; what the rows' lists give; the witness' world. -/
import Derived.Test.YtmmofgbjpmhgpaaDoorCards
import Derived.Test.YtmmofgbjpmhgpaaDoorTie
import Derived.Test.YtmmofgbjpmhgpaaDoorE6
import Derived.Test.YtmmofgbjpmhgpaaDoorAmJ
import Derived.WalkKit
import Derived.Deep.DeepHandedRow
set_option linter.all false
set_option linter.unusedVariables false
set_option linter.unusedSimpArgs false
set_option linter.unnecessarySimpa false
namespace Go.Proofs.YtmmofgbjpmhgpaaDoor.join
open Go.ChangeShapes Go.WideShapes Go.ChangeAt Go.RowKit Go.Am
set_option maxRecDepth 100000

theorem own : ownKnob Tryd.prog.godebug = none := by kernel_rfl
theorem laidOut : laidOutB Tryd.prog = true := by kernel_rfl
theorem cells31 : Tryd.prog.cellsOf 31 = 3 := by kernel_rfl
theorem cells3 : Tryd.prog.cellsOf 3 = 1 := by kernel_rfl
theorem cells153 : Tryd.prog.cellsOf 153 = 20 := by kernel_rfl
theorem cells141 : Tryd.prog.cellsOf 141 = 1 := by kernel_rfl
theorem gTab : Tryd.prog.globalNamed "internal/strconv.uint64pow10" = some 1 := by kernel_rfl
theorem gTabType : (Tryd.prog.globals[1]?).map (·.type) = some 153 := by kernel_rfl
theorem elem_R {H : Type} {enc : TypeId × Value → H} {W : World} : Elem enc Tryd.prog W 31 encR (fun _ => True) := fun fuel cs x h => by
  obtain ⟨y0, y1, y2, n, _, hl, h0, h1, h2⟩ := Go.Deep.trod_struct3 Tryd.underlying31 h
  rw [cells31] at hl
  match cs, hl with
  | [c0, c1, c2], _ =>
    dsimp only at h0 h1 h2
    rw [cells3] at h0 h1 h2
    obtain ⟨a, e0, _, _⟩ := DataW.trod_int Tryd.underlying3 h0
    obtain ⟨b, e1, _, _⟩ := DataW.trod_int Tryd.underlying3 h1
    obtain ⟨c, e2, _, _⟩ := DataW.trod_int Tryd.underlying3 h2
    simp only [List.drop, List.take, List.cons.injEq, and_true] at e0 e1 e2
    subst e0; subst e1; subst e2
    refine ⟨⟨a, b, c⟩, trivial, .agg #[.int .i64 a, .int .i64 b, .int .i64 c], ⟨_, rfl, rfl, fun i hi => ?_⟩, rfl, fun u hu => ?_⟩
    · match i, hi with
      | 0, _ => exact ⟨_, rfl, rfl, rfl⟩
      | 1, _ => exact ⟨_, rfl, rfl, rfl⟩
      | 2, _ => exact ⟨_, rfl, rfl, rfl⟩
    · simp only [List.mem_cons, List.not_mem_nil, or_false] at hu
      rcases hu with rfl | rfl | rfl <;> rfl
/-- What the rows' lists give: the table of powers of ten. -/
theorem table {W : World} {x y : String × DataW Unit} {ps : List MemPlace} (h : DataW.LaidVars Tryd.prog W [x, y, ("internal/strconv.uint64pow10", Rows.laid_internal_strconv_uint64pow10)] ps) : GW W := by
  obtain ⟨_, _, _, _, _, _, _, _, _, _, h, _⟩ := h
  obtain ⟨_, _, _, _, _, _, _, _, _, _, h, _⟩ := h
  obtain ⟨g', t', cs, fuel, p, q, hg', ht', hvar, hd, _, _⟩ := h
  obtain rfl := Option.some.inj (gTab.symm.trans hg')
  obtain rfl := Option.some.inj (gTabType.symm.trans ht')
  unfold GW Lib.TabIs
  rw [hvar, ← Lib.cells_of_tab (zs := Lib.pow10Tab) (k := .u64) Tryd.underlying153 Tryd.underlying141 cells141 cells153 hd]
theorem all_le {H : Type} : ∀ l : List (DataW H), l.length ≤ Rows.uptoBulkAll l
  | [] => Nat.zero_le _
  | d :: r => by
    have := all_le r
    have h1 : 1 ≤ Rows.uptoBulk d := by
      cases d with
      | lit x => cases x <;> simp [Rows.uptoBulk]
      | _ => simp [Rows.uptoBulk]
    simp only [List.length_cons, Rows.uptoBulkAll]
    omega
theorem slice_le {H : Type} {n : Nat} {D : Nat → DataW H} {rest : List (DataW H)} : n ≤ Rows.uptoBulk (.slice ((List.range n).map D) rest) := by
  have := all_le ((List.range n).map D)
  simp only [Rows.uptoBulk, List.length_map, List.length_range] at *
  omega
def lay (vs : Array Value) : Obj → Obj
  | .cells _ t frozen => .cells vs t frozen
  | o => o
/-- A world for the witness. -/
noncomputable def laidWorld (os : Os) : World :=
  { World.holding Tryd.prog os ⟨#[], #[], []⟩ with heap := (((World.holding Tryd.prog os ⟨#[], #[], []⟩).heap.modify 1 (lay ((Lib.pow10Tab.map fun z => Value.int .u64 z).toArray))).modify 2 (lay (([0, 1, 28, 2, 29, 14, 24, 3, 30, 22, 20, 15, 25, 17, 4, 8, 31, 27, 13, 23, 21, 19, 16, 7, 26, 12, 18, 6, 11, 5, 10, 9].map fun z => Value.int .u8 z).toArray))).modify 3 (lay (([0, 1, 56, 2, 57, 49, 28, 3, 61, 58, 42, 50, 38, 29, 17, 4, 62, 47, 59, 36, 45, 43, 51, 22, 53, 39, 33, 30, 24, 18, 12, 5, 63, 55, 48, 27, 60, 41, 37, 16, 46, 35, 44, 21, 52, 32, 23, 11, 54, 26, 40, 15, 34, 20, 31, 10, 25, 14, 19, 9, 13, 8, 7, 6].map fun z => Value.int .u8 z).toArray)) }
end Go.Proofs.YtmmofgbjpmhgpaaDoor.join
