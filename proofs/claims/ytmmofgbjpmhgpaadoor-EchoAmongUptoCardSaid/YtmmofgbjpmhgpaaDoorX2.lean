/- The examples of the document: a closed run. -/
import Derived.Test.YtmmofgbjpmhgpaaDoorX1
import Derived.Test.YtmmofgbjpmhgpaaDoorE3
set_option linter.all false
set_option linter.unusedVariables false
set_option linter.unusedSimpArgs false
set_option linter.unnecessarySimpa false
namespace Go.Am
open Go Go.Proofs Go.RowKit
set_option maxRecDepth 1000000
def lk {β : Type} : List (Nat × β) → Nat → Option β
  | [], _ => none
  | (i, x) :: r, n => if n = i then some x else lk r n
theorem lk_mem {β : Type} {l : List (Nat × β)} {n : Nat} {x : β} (h : lk l n = some x) : (n, x) ∈ l := by
  induction l with
  | nil => cases h
  | cons p l ih =>
    obtain ⟨i, y⟩ := p
    unfold lk at h
    split at h
    · rename_i e; subst e; obtain rfl := Option.some.inj h; exact List.mem_cons_self
    · exact List.mem_cons_of_mem _ (ih h)
def tiT_aw : List (Nat × TI) := [(3, ⟨1, false, 0, [], [], false, 8, .v (.int .i64 (0)), 0, 9, some .i64, false⟩), (4, ⟨1, false, 0, [], [], false, 1, .v (.bool false), 0, 4, none, false⟩), (9, ⟨1, false, 0, [], [], false, 16, .v (.string ⟨#[]⟩), 0, 5, none, false⟩), (22, ⟨1, false, 31, [], [], false, 24, .v (.slice none 0 0), 0, 3, none, false⟩), (23, ⟨1, false, 3, [], [], false, 24, .v (.slice none 0 0), 0, 3, none, false⟩), (27, ⟨1, false, 0, [], [], false, 8, .v (.int .i64 (0)), 0, 9, some .i64, false⟩), (31, ⟨3, true, 0, [0, 1, 2], [3, 3, 3], true, 24, .agg 3 (list [.v (.int .i64 (0)), .v (.int .i64 (0)), .v (.int .i64 (0))]), 0, 1, none, true⟩), (53, ⟨2, true, 0, [0, 1], [3, 3], true, 16, .agg 2 (list [.v (.int .i64 (0)), .v (.int .i64 (0))]), 0, 1, none, true⟩), (55, ⟨5, true, 0, [0, 2, 4], [53, 53, 3], true, 40, .agg 5 (list [.v (.int .i64 (0)), .v (.int .i64 (0)), .v (.int .i64 (0)), .v (.int .i64 (0)), .v (.int .i64 (0))]), 0, 1, none, true⟩), (59, ⟨4, true, 0, [0, 2], [53, 53], true, 32, .agg 4 (list [.v (.int .i64 (0)), .v (.int .i64 (0)), .v (.int .i64 (0)), .v (.int .i64 (0))]), 0, 1, none, true⟩), (61, ⟨10, true, 0, [0, 4, 5, 6, 7, 8, 9], [59, 3, 3, 3, 3, 3, 3], true, 80, .agg 10 (list [.v (.int .i64 (0)), .v (.int .i64 (0)), .v (.int .i64 (0)), .v (.int .i64 (0)), .v (.int .i64 (0)), .v (.int .i64 (0)), .v (.int .i64 (0)), .v (.int .i64 (0)), .v (.int .i64 (0)), .v (.int .i64 (0))]), 0, 1, none, true⟩), (63, ⟨4, true, 53, [], [], false, 32, .agg 4 (list [.v (.int .i64 (0)), .v (.int .i64 (0)), .v (.int .i64 (0)), .v (.int .i64 (0))]), 2, 2, none, true⟩), (64, ⟨1, false, 101, [], [], false, 24, .v (.slice none 0 0), 0, 3, none, false⟩), (67, ⟨1, false, 53, [], [], false, 24, .v (.slice none 0 0), 0, 3, none, false⟩), (69, ⟨2, true, 0, [0, 1], [67, 67], true, 48, .agg 2 (list [.v (.slice none 0 0), .v (.slice none 0 0)]), 0, 1, none, true⟩), (81, ⟨1, false, 0, [], [], false, 8, .v (.int .u64 (0)), 0, 9, some .u64, false⟩), (86, ⟨2, true, 0, [0, 1], [3, 3], true, 16, .agg 2 (list [.v (.int .i64 (0)), .v (.int .i64 (0))]), 0, 1, none, true⟩), (94, ⟨2, true, 0, [0, 1], [3, 3], true, 16, .agg 2 (list [.v (.int .i64 (0)), .v (.int .i64 (0))]), 0, 1, none, true⟩), (97, ⟨10, true, 0, [0], [61], true, 80, .agg 10 (list [.v (.int .i64 (0)), .v (.int .i64 (0)), .v (.int .i64 (0)), .v (.int .i64 (0)), .v (.int .i64 (0)), .v (.int .i64 (0)), .v (.int .i64 (0)), .v (.int .i64 (0)), .v (.int .i64 (0)), .v (.int .i64 (0))]), 0, 1, none, true⟩), (101, ⟨5, true, 0, [0, 1, 2, 3], [3, 3, 3, 86], true, 40, .agg 5 (list [.v (.int .i64 (0)), .v (.int .i64 (0)), .v (.int .i64 (0)), .v (.int .i64 (0)), .v (.int .i64 (0))]), 0, 1, none, true⟩), (102, ⟨8, true, 53, [], [], false, 64, .agg 8 (list [.v (.int .i64 (0)), .v (.int .i64 (0)), .v (.int .i64 (0)), .v (.int .i64 (0)), .v (.int .i64 (0)), .v (.int .i64 (0)), .v (.int .i64 (0)), .v (.int .i64 (0))]), 4, 2, none, true⟩), (105, ⟨1, false, 9, [], [], false, 24, .v (.slice none 0 0), 0, 3, none, false⟩), (107, ⟨1, false, 126, [], [], false, 24, .v (.slice none 0 0), 0, 3, none, false⟩), (109, ⟨1, false, 101, [], [], false, 8, .v (.pointer none), 0, 9, none, false⟩), (111, ⟨1, false, 27, [], [], false, 24, .v (.slice none 0 0), 0, 3, none, false⟩), (126, ⟨1, false, 3, [], [], false, 8, .v (.pointer none), 0, 9, none, false⟩)]
noncomputable def tiF_aw (t : Nat) : TI := match lk tiT_aw t with | some x => x | none => TI.of Tryd.prog t
theorem tiA_aw : ∀ p ∈ tiT_aw, p.2 = TI.of Tryd.prog p.1 := by
  simp only [tiT_aw, List.mem_cons, List.not_mem_nil, or_false, forall_eq_or_imp, forall_eq]
  exact ⟨ti3.symm, ti4.symm, ti9.symm, ti22.symm, ti23.symm, ti27.symm, ti31.symm, ti53.symm, ti55.symm, ti59.symm, ti61.symm, ti63.symm, ti64.symm, ti67.symm, ti69.symm, ti81.symm, ti86.symm, ti94.symm, ti97.symm, ti101.symm, ti102.symm, ti105.symm, ti107.symm, ti109.symm, ti111.symm, ti126.symm⟩
theorem tiE_aw : tiF_aw = TI.of Tryd.prog := by
  funext t
  unfold tiF_aw
  cases h : lk tiT_aw t with
  | none => rfl
  | some x => exact tiA_aw _ (lk_mem h)
noncomputable def fnT_aw : List (Nat × Fn) := [(5, ⟨Tryd.f5.ntmps, (Tryd.f5.body).getD .skip, Tryd.f5.results.toList, ⟨true, true, fun _ => false, fun _ => none⟩⟩), (11, ⟨Tryd.f11.ntmps, (Tryd.f11.body).getD .skip, Tryd.f11.results.toList, ⟨true, true, fun _ => false, fun _ => none⟩⟩), (18, ⟨Tryd.f18.ntmps, (Tryd.f18.body).getD .skip, Tryd.f18.results.toList, ⟨true, true, fun _ => false, fun _ => none⟩⟩), (22, ⟨Tryd.f22.ntmps, (Tryd.f22.body).getD .skip, Tryd.f22.results.toList, ⟨true, true, fun _ => false, fun _ => none⟩⟩), (23, ⟨Tryd.f23.ntmps, (Tryd.f23.body).getD .skip, Tryd.f23.results.toList, ⟨true, true, fun _ => false, fun _ => none⟩⟩), (24, ⟨Tryd.f24.ntmps, (Tryd.f24.body).getD .skip, Tryd.f24.results.toList, ⟨true, true, fun _ => false, fun _ => none⟩⟩), (25, ⟨Tryd.f25.ntmps, (Tryd.f25.body).getD .skip, Tryd.f25.results.toList, ⟨true, true, fun _ => false, fun _ => none⟩⟩), (26, ⟨Tryd.f26.ntmps, (Tryd.f26.body).getD .skip, Tryd.f26.results.toList, ⟨true, false, fun _ => false, fun _ => none⟩⟩), (27, ⟨Tryd.f27.ntmps, (Tryd.f27.body).getD .skip, Tryd.f27.results.toList, ⟨true, true, fun _ => false, fun _ => none⟩⟩), (28, ⟨Tryd.f28.ntmps, (Tryd.f28.body).getD .skip, Tryd.f28.results.toList, ⟨true, true, fun _ => false, fun _ => none⟩⟩), (29, ⟨Tryd.f29.ntmps, (Tryd.f29.body).getD .skip, Tryd.f29.results.toList, ⟨true, true, fun r => Nat.beq r 7, fun _ => none⟩⟩), (31, ⟨Tryd.f31.ntmps, (Tryd.f31.body).getD .skip, Tryd.f31.results.toList, ⟨true, true, fun _ => false, fun _ => none⟩⟩), (32, ⟨Tryd.f32.ntmps, (Tryd.f32.body).getD .skip, Tryd.f32.results.toList, ⟨true, true, fun _ => false, fun _ => none⟩⟩), (33, ⟨Tryd.f33.ntmps, (Tryd.f33.body).getD .skip, Tryd.f33.results.toList, ⟨true, true, fun _ => false, fun _ => none⟩⟩), (34, ⟨Tryd.f34.ntmps, (Tryd.f34.body).getD .skip, Tryd.f34.results.toList, ⟨true, true, fun _ => false, fun _ => none⟩⟩), (35, ⟨Tryd.f35.ntmps, (Tryd.f35.body).getD .skip, Tryd.f35.results.toList, ⟨true, true, fun _ => false, fun _ => none⟩⟩), (36, ⟨Tryd.f36.ntmps, (Tryd.f36.body).getD .skip, Tryd.f36.results.toList, ⟨true, true, fun _ => false, fun _ => none⟩⟩), (38, ⟨Tryd.f38.ntmps, (Tryd.f38.body).getD .skip, Tryd.f38.results.toList, ⟨true, true, fun _ => false, fun _ => none⟩⟩), (43, ⟨Tryd.f43.ntmps, (Tryd.f43.body).getD .skip, Tryd.f43.results.toList, ⟨true, true, fun _ => false, fun _ => none⟩⟩), (44, ⟨Tryd.f44.ntmps, (Tryd.f44.body).getD .skip, Tryd.f44.results.toList, ⟨true, true, fun _ => false, fun _ => none⟩⟩), (45, ⟨Tryd.f45.ntmps, (Tryd.f45.body).getD .skip, Tryd.f45.results.toList, ⟨true, true, fun _ => false, fun _ => none⟩⟩), (46, ⟨Tryd.f46.ntmps, (Tryd.f46.body).getD .skip, Tryd.f46.results.toList, ⟨true, true, fun _ => false, fun _ => none⟩⟩), (47, ⟨Tryd.f47.ntmps, (Tryd.f47.body).getD .skip, Tryd.f47.results.toList, ⟨true, true, fun _ => false, fun _ => none⟩⟩), (48, ⟨Tryd.f48.ntmps, (Tryd.f48.body).getD .skip, Tryd.f48.results.toList, ⟨true, true, fun _ => false, fun r => if r = 1 then some [(2, 6), (3, 6)] else none⟩⟩), (49, ⟨Tryd.f49.ntmps, (Tryd.f49.body).getD .skip, Tryd.f49.results.toList, ⟨true, true, fun _ => false, fun _ => none⟩⟩), (50, ⟨Tryd.f50.ntmps, (Tryd.f50.body).getD .skip, Tryd.f50.results.toList, ⟨true, true, fun _ => false, fun _ => none⟩⟩), (51, ⟨Tryd.f51.ntmps, (Tryd.f51.body).getD .skip, Tryd.f51.results.toList, ⟨true, true, fun _ => false, fun _ => none⟩⟩), (52, ⟨Tryd.f52.ntmps, (Tryd.f52.body).getD .skip, Tryd.f52.results.toList, ⟨true, true, fun _ => false, fun _ => none⟩⟩), (53, ⟨Tryd.f53.ntmps, (Tryd.f53.body).getD .skip, Tryd.f53.results.toList, ⟨true, true, fun _ => false, fun _ => none⟩⟩), (54, ⟨Tryd.f54.ntmps, (Tryd.f54.body).getD .skip, Tryd.f54.results.toList, ⟨true, true, fun _ => false, fun _ => none⟩⟩), (55, ⟨Tryd.f55.ntmps, (Tryd.f55.body).getD .skip, Tryd.f55.results.toList, ⟨true, true, fun _ => false, fun _ => none⟩⟩), (56, ⟨Tryd.f56.ntmps, (Tryd.f56.body).getD .skip, Tryd.f56.results.toList, ⟨true, true, fun _ => false, fun _ => none⟩⟩), (59, ⟨Tryd.f59.ntmps, (Tryd.f59.body).getD .skip, Tryd.f59.results.toList, ⟨true, true, fun _ => false, fun _ => none⟩⟩), (60, ⟨Tryd.f60.ntmps, (Tryd.f60.body).getD .skip, Tryd.f60.results.toList, ⟨true, true, fun _ => false, fun _ => none⟩⟩), (65, ⟨Tryd.f65.ntmps, (Tryd.f65.body).getD .skip, Tryd.f65.results.toList, ⟨true, true, fun _ => false, fun _ => none⟩⟩), (66, ⟨Tryd.f66.ntmps, (Tryd.f66.body).getD .skip, Tryd.f66.results.toList, ⟨true, true, fun _ => false, fun _ => none⟩⟩), (67, ⟨Tryd.f67.ntmps, (Tryd.f67.body).getD .skip, Tryd.f67.results.toList, ⟨true, true, fun _ => false, fun _ => none⟩⟩), (68, ⟨Tryd.f68.ntmps, (Tryd.f68.body).getD .skip, Tryd.f68.results.toList, ⟨true, true, fun _ => false, fun _ => none⟩⟩), (69, ⟨Tryd.f69.ntmps, (Tryd.f69.body).getD .skip, Tryd.f69.results.toList, ⟨true, true, fun _ => false, fun _ => none⟩⟩), (70, ⟨Tryd.f70.ntmps, (Tryd.f70.body).getD .skip, Tryd.f70.results.toList, ⟨true, true, fun _ => false, fun _ => none⟩⟩), (71, ⟨Tryd.f71.ntmps, (Tryd.f71.body).getD .skip, Tryd.f71.results.toList, ⟨true, true, fun _ => false, fun _ => none⟩⟩), (72, ⟨Tryd.f72.ntmps, (Tryd.f72.body).getD .skip, Tryd.f72.results.toList, ⟨true, true, fun _ => false, fun _ => none⟩⟩), (73, ⟨Tryd.f73.ntmps, (Tryd.f73.body).getD .skip, Tryd.f73.results.toList, ⟨true, true, fun _ => false, fun _ => none⟩⟩), (74, ⟨Tryd.f74.ntmps, (Tryd.f74.body).getD .skip, Tryd.f74.results.toList, ⟨true, true, fun _ => false, fun _ => none⟩⟩)]
theorem fo_aw_5 : FnOK Tryd.prog 5 ⟨Tryd.f5.ntmps, (Tryd.f5.body).getD .skip, Tryd.f5.results.toList, ⟨true, true, fun _ => false, fun _ => none⟩⟩ := ⟨⟨Tryd.f5, Tryd.func5, rfl, by rw [Tryd.f5]; simp, rfl, rfl⟩, by kernel_rfl⟩
theorem fo_aw_11 : FnOK Tryd.prog 11 ⟨Tryd.f11.ntmps, (Tryd.f11.body).getD .skip, Tryd.f11.results.toList, ⟨true, true, fun _ => false, fun _ => none⟩⟩ := ⟨⟨Tryd.f11, Tryd.func11, rfl, by rw [Tryd.f11]; simp, rfl, rfl⟩, by kernel_rfl⟩
theorem fo_aw_18 : FnOK Tryd.prog 18 ⟨Tryd.f18.ntmps, (Tryd.f18.body).getD .skip, Tryd.f18.results.toList, ⟨true, true, fun _ => false, fun _ => none⟩⟩ := ⟨⟨Tryd.f18, Tryd.func18, rfl, by rw [Tryd.f18]; simp, rfl, rfl⟩, by kernel_rfl⟩
theorem fo_aw_22 : FnOK Tryd.prog 22 ⟨Tryd.f22.ntmps, (Tryd.f22.body).getD .skip, Tryd.f22.results.toList, ⟨true, true, fun _ => false, fun _ => none⟩⟩ := ⟨⟨Tryd.f22, Tryd.func22, rfl, by rw [Tryd.f22]; simp, rfl, rfl⟩, by kernel_rfl⟩
theorem fo_aw_23 : FnOK Tryd.prog 23 ⟨Tryd.f23.ntmps, (Tryd.f23.body).getD .skip, Tryd.f23.results.toList, ⟨true, true, fun _ => false, fun _ => none⟩⟩ := ⟨⟨Tryd.f23, Tryd.func23, rfl, by rw [Tryd.f23]; simp, rfl, rfl⟩, by kernel_rfl⟩
theorem fo_aw_24 : FnOK Tryd.prog 24 ⟨Tryd.f24.ntmps, (Tryd.f24.body).getD .skip, Tryd.f24.results.toList, ⟨true, true, fun _ => false, fun _ => none⟩⟩ := ⟨⟨Tryd.f24, Tryd.func24, rfl, by rw [Tryd.f24]; simp, rfl, rfl⟩, by kernel_rfl⟩
theorem fo_aw_25 : FnOK Tryd.prog 25 ⟨Tryd.f25.ntmps, (Tryd.f25.body).getD .skip, Tryd.f25.results.toList, ⟨true, true, fun _ => false, fun _ => none⟩⟩ := ⟨⟨Tryd.f25, Tryd.func25, rfl, by rw [Tryd.f25]; simp, rfl, rfl⟩, by kernel_rfl⟩
theorem fo_aw_26 : FnOK Tryd.prog 26 ⟨Tryd.f26.ntmps, (Tryd.f26.body).getD .skip, Tryd.f26.results.toList, ⟨true, false, fun _ => false, fun _ => none⟩⟩ := ⟨⟨Tryd.f26, Tryd.func26, rfl, by rw [Tryd.f26]; simp, rfl, rfl⟩, by kernel_rfl⟩
theorem fo_aw_27 : FnOK Tryd.prog 27 ⟨Tryd.f27.ntmps, (Tryd.f27.body).getD .skip, Tryd.f27.results.toList, ⟨true, true, fun _ => false, fun _ => none⟩⟩ := ⟨⟨Tryd.f27, Tryd.func27, rfl, by rw [Tryd.f27]; simp, rfl, rfl⟩, by kernel_rfl⟩
theorem fo_aw_28 : FnOK Tryd.prog 28 ⟨Tryd.f28.ntmps, (Tryd.f28.body).getD .skip, Tryd.f28.results.toList, ⟨true, true, fun _ => false, fun _ => none⟩⟩ := ⟨⟨Tryd.f28, Tryd.func28, rfl, by rw [Tryd.f28]; simp, rfl, rfl⟩, by kernel_rfl⟩
theorem fo_aw_29 : FnOK Tryd.prog 29 ⟨Tryd.f29.ntmps, (Tryd.f29.body).getD .skip, Tryd.f29.results.toList, ⟨true, true, fun r => Nat.beq r 7, fun _ => none⟩⟩ := ⟨⟨Tryd.f29, Tryd.func29, rfl, by rw [Tryd.f29]; simp, rfl, rfl⟩, by kernel_rfl⟩
theorem fo_aw_31 : FnOK Tryd.prog 31 ⟨Tryd.f31.ntmps, (Tryd.f31.body).getD .skip, Tryd.f31.results.toList, ⟨true, true, fun _ => false, fun _ => none⟩⟩ := ⟨⟨Tryd.f31, Tryd.func31, rfl, by rw [Tryd.f31]; simp, rfl, rfl⟩, by kernel_rfl⟩
theorem fo_aw_32 : FnOK Tryd.prog 32 ⟨Tryd.f32.ntmps, (Tryd.f32.body).getD .skip, Tryd.f32.results.toList, ⟨true, true, fun _ => false, fun _ => none⟩⟩ := ⟨⟨Tryd.f32, Tryd.func32, rfl, by rw [Tryd.f32]; simp, rfl, rfl⟩, by kernel_rfl⟩
theorem fo_aw_33 : FnOK Tryd.prog 33 ⟨Tryd.f33.ntmps, (Tryd.f33.body).getD .skip, Tryd.f33.results.toList, ⟨true, true, fun _ => false, fun _ => none⟩⟩ := ⟨⟨Tryd.f33, Tryd.func33, rfl, by rw [Tryd.f33]; simp, rfl, rfl⟩, by kernel_rfl⟩
theorem fo_aw_34 : FnOK Tryd.prog 34 ⟨Tryd.f34.ntmps, (Tryd.f34.body).getD .skip, Tryd.f34.results.toList, ⟨true, true, fun _ => false, fun _ => none⟩⟩ := ⟨⟨Tryd.f34, Tryd.func34, rfl, by rw [Tryd.f34]; simp, rfl, rfl⟩, by kernel_rfl⟩
theorem fo_aw_35 : FnOK Tryd.prog 35 ⟨Tryd.f35.ntmps, (Tryd.f35.body).getD .skip, Tryd.f35.results.toList, ⟨true, true, fun _ => false, fun _ => none⟩⟩ := ⟨⟨Tryd.f35, Tryd.func35, rfl, by rw [Tryd.f35]; simp, rfl, rfl⟩, by kernel_rfl⟩
theorem fo_aw_36 : FnOK Tryd.prog 36 ⟨Tryd.f36.ntmps, (Tryd.f36.body).getD .skip, Tryd.f36.results.toList, ⟨true, true, fun _ => false, fun _ => none⟩⟩ := ⟨⟨Tryd.f36, Tryd.func36, rfl, by rw [Tryd.f36]; simp, rfl, rfl⟩, by kernel_rfl⟩
theorem fo_aw_38 : FnOK Tryd.prog 38 ⟨Tryd.f38.ntmps, (Tryd.f38.body).getD .skip, Tryd.f38.results.toList, ⟨true, true, fun _ => false, fun _ => none⟩⟩ := ⟨⟨Tryd.f38, Tryd.func38, rfl, by rw [Tryd.f38]; simp, rfl, rfl⟩, by kernel_rfl⟩
theorem fo_aw_43 : FnOK Tryd.prog 43 ⟨Tryd.f43.ntmps, (Tryd.f43.body).getD .skip, Tryd.f43.results.toList, ⟨true, true, fun _ => false, fun _ => none⟩⟩ := ⟨⟨Tryd.f43, Tryd.func43, rfl, by rw [Tryd.f43]; simp, rfl, rfl⟩, by kernel_rfl⟩
theorem fo_aw_44 : FnOK Tryd.prog 44 ⟨Tryd.f44.ntmps, (Tryd.f44.body).getD .skip, Tryd.f44.results.toList, ⟨true, true, fun _ => false, fun _ => none⟩⟩ := ⟨⟨Tryd.f44, Tryd.func44, rfl, by rw [Tryd.f44]; simp, rfl, rfl⟩, by kernel_rfl⟩
theorem fo_aw_45 : FnOK Tryd.prog 45 ⟨Tryd.f45.ntmps, (Tryd.f45.body).getD .skip, Tryd.f45.results.toList, ⟨true, true, fun _ => false, fun _ => none⟩⟩ := ⟨⟨Tryd.f45, Tryd.func45, rfl, by rw [Tryd.f45]; simp, rfl, rfl⟩, by kernel_rfl⟩
theorem fo_aw_46 : FnOK Tryd.prog 46 ⟨Tryd.f46.ntmps, (Tryd.f46.body).getD .skip, Tryd.f46.results.toList, ⟨true, true, fun _ => false, fun _ => none⟩⟩ := ⟨⟨Tryd.f46, Tryd.func46, rfl, by rw [Tryd.f46]; simp, rfl, rfl⟩, by kernel_rfl⟩
theorem fo_aw_47 : FnOK Tryd.prog 47 ⟨Tryd.f47.ntmps, (Tryd.f47.body).getD .skip, Tryd.f47.results.toList, ⟨true, true, fun _ => false, fun _ => none⟩⟩ := ⟨⟨Tryd.f47, Tryd.func47, rfl, by rw [Tryd.f47]; simp, rfl, rfl⟩, by kernel_rfl⟩
theorem fo_aw_48 : FnOK Tryd.prog 48 ⟨Tryd.f48.ntmps, (Tryd.f48.body).getD .skip, Tryd.f48.results.toList, ⟨true, true, fun _ => false, fun r => if r = 1 then some [(2, 6), (3, 6)] else none⟩⟩ := ⟨⟨Tryd.f48, Tryd.func48, rfl, by rw [Tryd.f48]; simp, rfl, rfl⟩, by kernel_rfl⟩
theorem fo_aw_49 : FnOK Tryd.prog 49 ⟨Tryd.f49.ntmps, (Tryd.f49.body).getD .skip, Tryd.f49.results.toList, ⟨true, true, fun _ => false, fun _ => none⟩⟩ := ⟨⟨Tryd.f49, Tryd.func49, rfl, by rw [Tryd.f49]; simp, rfl, rfl⟩, by kernel_rfl⟩
theorem fo_aw_50 : FnOK Tryd.prog 50 ⟨Tryd.f50.ntmps, (Tryd.f50.body).getD .skip, Tryd.f50.results.toList, ⟨true, true, fun _ => false, fun _ => none⟩⟩ := ⟨⟨Tryd.f50, Tryd.func50, rfl, by rw [Tryd.f50]; simp, rfl, rfl⟩, by kernel_rfl⟩
theorem fo_aw_51 : FnOK Tryd.prog 51 ⟨Tryd.f51.ntmps, (Tryd.f51.body).getD .skip, Tryd.f51.results.toList, ⟨true, true, fun _ => false, fun _ => none⟩⟩ := ⟨⟨Tryd.f51, Tryd.func51, rfl, by rw [Tryd.f51]; simp, rfl, rfl⟩, by kernel_rfl⟩
theorem fo_aw_52 : FnOK Tryd.prog 52 ⟨Tryd.f52.ntmps, (Tryd.f52.body).getD .skip, Tryd.f52.results.toList, ⟨true, true, fun _ => false, fun _ => none⟩⟩ := ⟨⟨Tryd.f52, Tryd.func52, rfl, by rw [Tryd.f52]; simp, rfl, rfl⟩, by kernel_rfl⟩
theorem fo_aw_53 : FnOK Tryd.prog 53 ⟨Tryd.f53.ntmps, (Tryd.f53.body).getD .skip, Tryd.f53.results.toList, ⟨true, true, fun _ => false, fun _ => none⟩⟩ := ⟨⟨Tryd.f53, Tryd.func53, rfl, by rw [Tryd.f53]; simp, rfl, rfl⟩, by kernel_rfl⟩
theorem fo_aw_54 : FnOK Tryd.prog 54 ⟨Tryd.f54.ntmps, (Tryd.f54.body).getD .skip, Tryd.f54.results.toList, ⟨true, true, fun _ => false, fun _ => none⟩⟩ := ⟨⟨Tryd.f54, Tryd.func54, rfl, by rw [Tryd.f54]; simp, rfl, rfl⟩, by kernel_rfl⟩
theorem fo_aw_55 : FnOK Tryd.prog 55 ⟨Tryd.f55.ntmps, (Tryd.f55.body).getD .skip, Tryd.f55.results.toList, ⟨true, true, fun _ => false, fun _ => none⟩⟩ := ⟨⟨Tryd.f55, Tryd.func55, rfl, by rw [Tryd.f55]; simp, rfl, rfl⟩, by kernel_rfl⟩
theorem fo_aw_56 : FnOK Tryd.prog 56 ⟨Tryd.f56.ntmps, (Tryd.f56.body).getD .skip, Tryd.f56.results.toList, ⟨true, true, fun _ => false, fun _ => none⟩⟩ := ⟨⟨Tryd.f56, Tryd.func56, rfl, by rw [Tryd.f56]; simp, rfl, rfl⟩, by kernel_rfl⟩
theorem fo_aw_59 : FnOK Tryd.prog 59 ⟨Tryd.f59.ntmps, (Tryd.f59.body).getD .skip, Tryd.f59.results.toList, ⟨true, true, fun _ => false, fun _ => none⟩⟩ := ⟨⟨Tryd.f59, Tryd.func59, rfl, by rw [Tryd.f59]; simp, rfl, rfl⟩, by kernel_rfl⟩
theorem fo_aw_60 : FnOK Tryd.prog 60 ⟨Tryd.f60.ntmps, (Tryd.f60.body).getD .skip, Tryd.f60.results.toList, ⟨true, true, fun _ => false, fun _ => none⟩⟩ := ⟨⟨Tryd.f60, Tryd.func60, rfl, by rw [Tryd.f60]; simp, rfl, rfl⟩, by kernel_rfl⟩
theorem fo_aw_65 : FnOK Tryd.prog 65 ⟨Tryd.f65.ntmps, (Tryd.f65.body).getD .skip, Tryd.f65.results.toList, ⟨true, true, fun _ => false, fun _ => none⟩⟩ := ⟨⟨Tryd.f65, Tryd.func65, rfl, by rw [Tryd.f65]; simp, rfl, rfl⟩, by kernel_rfl⟩
theorem fo_aw_66 : FnOK Tryd.prog 66 ⟨Tryd.f66.ntmps, (Tryd.f66.body).getD .skip, Tryd.f66.results.toList, ⟨true, true, fun _ => false, fun _ => none⟩⟩ := ⟨⟨Tryd.f66, Tryd.func66, rfl, by rw [Tryd.f66]; simp, rfl, rfl⟩, by kernel_rfl⟩
theorem fo_aw_67 : FnOK Tryd.prog 67 ⟨Tryd.f67.ntmps, (Tryd.f67.body).getD .skip, Tryd.f67.results.toList, ⟨true, true, fun _ => false, fun _ => none⟩⟩ := ⟨⟨Tryd.f67, Tryd.func67, rfl, by rw [Tryd.f67]; simp, rfl, rfl⟩, by kernel_rfl⟩
theorem fo_aw_68 : FnOK Tryd.prog 68 ⟨Tryd.f68.ntmps, (Tryd.f68.body).getD .skip, Tryd.f68.results.toList, ⟨true, true, fun _ => false, fun _ => none⟩⟩ := ⟨⟨Tryd.f68, Tryd.func68, rfl, by rw [Tryd.f68]; simp, rfl, rfl⟩, by kernel_rfl⟩
theorem fo_aw_69 : FnOK Tryd.prog 69 ⟨Tryd.f69.ntmps, (Tryd.f69.body).getD .skip, Tryd.f69.results.toList, ⟨true, true, fun _ => false, fun _ => none⟩⟩ := ⟨⟨Tryd.f69, Tryd.func69, rfl, by rw [Tryd.f69]; simp, rfl, rfl⟩, by kernel_rfl⟩
theorem fo_aw_70 : FnOK Tryd.prog 70 ⟨Tryd.f70.ntmps, (Tryd.f70.body).getD .skip, Tryd.f70.results.toList, ⟨true, true, fun _ => false, fun _ => none⟩⟩ := ⟨⟨Tryd.f70, Tryd.func70, rfl, by rw [Tryd.f70]; simp, rfl, rfl⟩, by kernel_rfl⟩
theorem fo_aw_71 : FnOK Tryd.prog 71 ⟨Tryd.f71.ntmps, (Tryd.f71.body).getD .skip, Tryd.f71.results.toList, ⟨true, true, fun _ => false, fun _ => none⟩⟩ := ⟨⟨Tryd.f71, Tryd.func71, rfl, by rw [Tryd.f71]; simp, rfl, rfl⟩, by kernel_rfl⟩
theorem fo_aw_72 : FnOK Tryd.prog 72 ⟨Tryd.f72.ntmps, (Tryd.f72.body).getD .skip, Tryd.f72.results.toList, ⟨true, true, fun _ => false, fun _ => none⟩⟩ := ⟨⟨Tryd.f72, Tryd.func72, rfl, by rw [Tryd.f72]; simp, rfl, rfl⟩, by kernel_rfl⟩
theorem fo_aw_73 : FnOK Tryd.prog 73 ⟨Tryd.f73.ntmps, (Tryd.f73.body).getD .skip, Tryd.f73.results.toList, ⟨true, true, fun _ => false, fun _ => none⟩⟩ := ⟨⟨Tryd.f73, Tryd.func73, rfl, by rw [Tryd.f73]; simp, rfl, rfl⟩, by kernel_rfl⟩
theorem fo_aw_74 : FnOK Tryd.prog 74 ⟨Tryd.f74.ntmps, (Tryd.f74.body).getD .skip, Tryd.f74.results.toList, ⟨true, true, fun _ => false, fun _ => none⟩⟩ := ⟨⟨Tryd.f74, Tryd.func74, rfl, by rw [Tryd.f74]; simp, rfl, rfl⟩, by kernel_rfl⟩
theorem fnA_aw : ∀ p ∈ fnT_aw, FnOK Tryd.prog p.1 p.2 := by
  simp only [fnT_aw, List.mem_cons, List.not_mem_nil, or_false, forall_eq_or_imp, forall_eq]
  exact ⟨fo_aw_5, fo_aw_11, fo_aw_18, fo_aw_22, fo_aw_23, fo_aw_24, fo_aw_25, fo_aw_26, fo_aw_27, fo_aw_28, fo_aw_29, fo_aw_31, fo_aw_32, fo_aw_33, fo_aw_34, fo_aw_35, fo_aw_36, fo_aw_38, fo_aw_43, fo_aw_44, fo_aw_45, fo_aw_46, fo_aw_47, fo_aw_48, fo_aw_49, fo_aw_50, fo_aw_51, fo_aw_52, fo_aw_53, fo_aw_54, fo_aw_55, fo_aw_56, fo_aw_59, fo_aw_60, fo_aw_65, fo_aw_66, fo_aw_67, fo_aw_68, fo_aw_69, fo_aw_70, fo_aw_71, fo_aw_72, fo_aw_73, fo_aw_74⟩
theorem fnE_aw : ∀ f x, lk fnT_aw f = some x → FnOK Tryd.prog f x := fun f x h => fnA_aw _ (lk_mem h)
def rdgs : Nat → (Nat → SV) → Option (List Rdg)
  | 0, _ => some []
  | n + 1, e => match e 0 with
    | .agg 3 f => match f 0, f 1, f 2 with
      | .v (.int .i64 a), .v (.int .i64 b), .v (.int .i64 c) => (rdgs n (fun i => e (i + 1))).map (⟨a, b, c⟩ :: ·)
      | _, _, _ => none
    | _ => none
theorem rdgs_spec : ∀ (n : Nat) (e : Nat → SV) (l : List Rdg), rdgs n e = some l → l.length = n ∧ ∀ i, i < n → SV.le (e i) (encR (l.getD i default))
  | 0, e, l, h => by
    obtain rfl := Option.some.inj h
    exact ⟨rfl, fun i hi => by omega⟩
  | n + 1, e, l, h => by
    unfold rdgs at h
    split at h
    · rename_i f hf
      split at h
      · rename_i a b c h0 h1 h2
        cases hr : rdgs n (fun i => e (i + 1)) with
        | none => rw [hr] at h; cases h
        | some ys =>
          rw [hr] at h
          obtain rfl := Option.some.inj h
          obtain ⟨g1, g2⟩ := rdgs_spec n _ ys hr
          refine ⟨by simp [g1], fun i hi => ?_⟩
          cases i with
          | zero =>
            rw [hf]
            refine ⟨rfl, ⟨⟨trivial, ?_⟩, ?_⟩, ?_⟩
            · show SV.le (f 0) _
              rw [h0]; exact SV.le_refl _
            · show SV.le (f 1) _
              rw [h1]; exact SV.le_refl _
            · show SV.le (f 2) _
              rw [h2]; exact SV.le_refl _
          | succ i => exact g2 i (by omega)
      · cases h
    · cases h
def candX : List SV → Option SV
  | [.sl _ n 3 e, .v (.int .u64 z)] => match rdgs n e with
    | some l => if 0 ≤ z ∧ l.all Rdg.ok = true ∧ n ≤ 60 then some (encL encI 1 (cand l z.toNat)) else none
    | none => none
  | _ => none
theorem implX_cand : Impl Tryd.prog GW 37 (fun l => match candX l with | some r => ⟨True, r⟩ | none => noSpec) := by
  refine impl_le c_candidates fun svs hp => ?_
  unfold candX at hp ⊢
  split at hp
  · rename_i r hr
    split at hr
    · rename_i ex n e z
      split at hr
      · rename_i l hl
        split at hr
        · rename_i hc
          obtain ⟨h0, h1, h2⟩ := hc
          obtain rfl := Option.some.inj hr
          obtain ⟨g1, g2⟩ := rdgs_spec _ _ _ hl
          obtain ⟨z', rfl⟩ : ∃ z' : Nat, z = z' := ⟨z.toNat, by omega⟩
          refine ⟨[encL encR 3 l, .v (.int .u64 (z' : Int))], ⟨?_, SV.le_refl _, trivial⟩, ?_, ?_⟩
          · unfold encL
            rw [le_sl]
            exact ⟨g1.symm, rfl, fun i hi => g2 i hi⟩
          · rw [e_candidates]
            exact ⟨fun r hr => List.all_eq_true.1 h1 r hr, by omega⟩
          · rw [e_candidates]
            exact SV.le_refl _
        · cases hr
      · cases hr
    · cases hr
  · exact hp.elim
def baseY (f : FuncId) (l : List SV) : Option SV := if f = 37 then candX l else baseX f l
noncomputable def awX : FuncId → List SV → Option SV := callX tiF_aw baseY (lk fnT_aw) 100000 20
def isT : Option SV → Bool
  | some (.v (.bool true)) => true
  | _ => false
end Go.Am
