/- The types' table, and what the library's tables hold. -/
import Derived.Test.YtmmofgbjpmhgpaaDoorAm15
import Derived.Test.YtmmofgbjpmhgpaaDoorProg
import Derived.Test.YtmmofgbjpmhgpaaDoorChecked
import Derived.Lib.LaidTab
import Derived.Lib.ItoaMem
set_option linter.all false
set_option linter.unusedVariables false
set_option linter.unusedSimpArgs false
set_option linter.unnecessarySimpa false
namespace Go.Am
open Go Go.Proofs Go.RowKit
set_option maxRecDepth 100000
theorem ti2 : TI.of Tryd.prog 2 = ⟨1, false, 0, [], [], false, 8, .v (.int .i64 (0)), 0, 9, some .i64, false⟩ := by kernel_rfl
theorem ti3 : TI.of Tryd.prog 3 = ⟨1, false, 0, [], [], false, 8, .v (.int .i64 (0)), 0, 9, some .i64, false⟩ := by kernel_rfl
theorem ti4 : TI.of Tryd.prog 4 = ⟨1, false, 0, [], [], false, 1, .v (.bool false), 0, 4, none, false⟩ := by kernel_rfl
theorem ti5 : TI.of Tryd.prog 5 = ⟨1, false, 0, [], [], false, 1, .v (.int .u8 (0)), 0, 9, some .u8, false⟩ := by kernel_rfl
theorem ti6 : TI.of Tryd.prog 6 = ⟨1, false, 0, [], [], false, 1, .v (.int .u8 (0)), 0, 9, some .u8, false⟩ := by kernel_rfl
theorem ti7 : TI.of Tryd.prog 7 = ⟨4, true, 0, [0, 1, 2, 3], [2, 3, 4, 6], true, 24, .agg 4 (list [.v (.int .i64 (0)), .v (.int .i64 (0)), .v (.bool false), .v (.int .u8 (0))]), 0, 1, none, true⟩ := by kernel_rfl
theorem ti8 : TI.of Tryd.prog 8 = ⟨4, true, 0, [0, 1, 2, 3], [2, 3, 4, 6], true, 24, .agg 4 (list [.v (.int .i64 (0)), .v (.int .i64 (0)), .v (.bool false), .v (.int .u8 (0))]), 0, 1, none, true⟩ := by kernel_rfl
theorem ti9 : TI.of Tryd.prog 9 = ⟨1, false, 0, [], [], false, 16, .v (.string ⟨#[]⟩), 0, 5, none, false⟩ := by kernel_rfl
theorem ti10 : TI.of Tryd.prog 10 = ⟨1, false, 0, [], [], false, 16, .v (.string ⟨#[]⟩), 0, 5, none, false⟩ := by kernel_rfl
theorem ti11 : TI.of Tryd.prog 11 = ⟨1, false, 0, [], [], false, 16, .v (.string ⟨#[]⟩), 0, 5, none, false⟩ := by kernel_rfl
theorem ti12 : TI.of Tryd.prog 12 = ⟨1, false, 0, [], [], false, 8, .v (.int .u64 (0)), 0, 9, some .u64, false⟩ := by kernel_rfl
theorem ti13 : TI.of Tryd.prog 13 = ⟨2, true, 0, [0, 1], [9, 12], true, 24, .agg 2 (list [.v (.string ⟨#[]⟩), .v (.int .u64 (0))]), 0, 1, none, false⟩ := by kernel_rfl
theorem ti14 : TI.of Tryd.prog 14 = ⟨2, true, 0, [0, 1], [9, 12], true, 24, .agg 2 (list [.v (.string ⟨#[]⟩), .v (.int .u64 (0))]), 0, 1, none, false⟩ := by kernel_rfl
theorem ti15 : TI.of Tryd.prog 15 = ⟨1, false, 158, [], [], false, 8, .v (.pointer none), 0, 9, none, false⟩ := by kernel_rfl
theorem ti16 : TI.of Tryd.prog 16 = ⟨1, false, 161, [], [], false, 8, .v (.pointer none), 0, 9, none, false⟩ := by kernel_rfl
theorem ti17 : TI.of Tryd.prog 17 = ⟨1, false, 168, [], [], false, 8, .v (.pointer none), 0, 9, none, false⟩ := by kernel_rfl
theorem ti18 : TI.of Tryd.prog 18 = ⟨1, true, 0, [0], [17], true, 8, .agg 1 (list [.v (.pointer none)]), 0, 1, none, false⟩ := by kernel_rfl
theorem ti19 : TI.of Tryd.prog 19 = ⟨1, true, 0, [0], [17], true, 8, .agg 1 (list [.v (.pointer none)]), 0, 1, none, false⟩ := by kernel_rfl
theorem ti21 : TI.of Tryd.prog 21 = ⟨1, false, 0, [], [], false, 4, .v (.int .i32 (0)), 0, 9, some .i32, false⟩ := by kernel_rfl
theorem ti22 : TI.of Tryd.prog 22 = ⟨1, false, 31, [], [], false, 24, .v (.slice none 0 0), 0, 3, none, false⟩ := by kernel_rfl
theorem ti23 : TI.of Tryd.prog 23 = ⟨1, false, 3, [], [], false, 24, .v (.slice none 0 0), 0, 3, none, false⟩ := by kernel_rfl
theorem ti27 : TI.of Tryd.prog 27 = ⟨1, false, 0, [], [], false, 8, .v (.int .i64 (0)), 0, 9, some .i64, false⟩ := by kernel_rfl
theorem ti30 : TI.of Tryd.prog 30 = ⟨3, true, 0, [0, 1, 2], [3, 3, 3], true, 24, .agg 3 (list [.v (.int .i64 (0)), .v (.int .i64 (0)), .v (.int .i64 (0))]), 0, 1, none, true⟩ := by kernel_rfl
theorem ti31 : TI.of Tryd.prog 31 = ⟨3, true, 0, [0, 1, 2], [3, 3, 3], true, 24, .agg 3 (list [.v (.int .i64 (0)), .v (.int .i64 (0)), .v (.int .i64 (0))]), 0, 1, none, true⟩ := by kernel_rfl
theorem ti40 : TI.of Tryd.prog 40 = ⟨1, false, 86, [], [], false, 24, .v (.slice none 0 0), 0, 3, none, false⟩ := by kernel_rfl
theorem ti52 : TI.of Tryd.prog 52 = ⟨2, true, 0, [0, 1], [3, 3], true, 16, .agg 2 (list [.v (.int .i64 (0)), .v (.int .i64 (0))]), 0, 1, none, true⟩ := by kernel_rfl
theorem ti53 : TI.of Tryd.prog 53 = ⟨2, true, 0, [0, 1], [3, 3], true, 16, .agg 2 (list [.v (.int .i64 (0)), .v (.int .i64 (0))]), 0, 1, none, true⟩ := by kernel_rfl
theorem ti54 : TI.of Tryd.prog 54 = ⟨5, true, 0, [0, 2, 4], [53, 53, 3], true, 40, .agg 5 (list [.v (.int .i64 (0)), .v (.int .i64 (0)), .v (.int .i64 (0)), .v (.int .i64 (0)), .v (.int .i64 (0))]), 0, 1, none, true⟩ := by kernel_rfl
theorem ti55 : TI.of Tryd.prog 55 = ⟨5, true, 0, [0, 2, 4], [53, 53, 3], true, 40, .agg 5 (list [.v (.int .i64 (0)), .v (.int .i64 (0)), .v (.int .i64 (0)), .v (.int .i64 (0)), .v (.int .i64 (0))]), 0, 1, none, true⟩ := by kernel_rfl
theorem ti58 : TI.of Tryd.prog 58 = ⟨4, true, 0, [0, 2], [53, 53], true, 32, .agg 4 (list [.v (.int .i64 (0)), .v (.int .i64 (0)), .v (.int .i64 (0)), .v (.int .i64 (0))]), 0, 1, none, true⟩ := by kernel_rfl
theorem ti59 : TI.of Tryd.prog 59 = ⟨4, true, 0, [0, 2], [53, 53], true, 32, .agg 4 (list [.v (.int .i64 (0)), .v (.int .i64 (0)), .v (.int .i64 (0)), .v (.int .i64 (0))]), 0, 1, none, true⟩ := by kernel_rfl
theorem ti60 : TI.of Tryd.prog 60 = ⟨10, true, 0, [0, 4, 5, 6, 7, 8, 9], [59, 3, 3, 3, 3, 3, 3], true, 80, .agg 10 (list [.v (.int .i64 (0)), .v (.int .i64 (0)), .v (.int .i64 (0)), .v (.int .i64 (0)), .v (.int .i64 (0)), .v (.int .i64 (0)), .v (.int .i64 (0)), .v (.int .i64 (0)), .v (.int .i64 (0)), .v (.int .i64 (0))]), 0, 1, none, true⟩ := by kernel_rfl
theorem ti61 : TI.of Tryd.prog 61 = ⟨10, true, 0, [0, 4, 5, 6, 7, 8, 9], [59, 3, 3, 3, 3, 3, 3], true, 80, .agg 10 (list [.v (.int .i64 (0)), .v (.int .i64 (0)), .v (.int .i64 (0)), .v (.int .i64 (0)), .v (.int .i64 (0)), .v (.int .i64 (0)), .v (.int .i64 (0)), .v (.int .i64 (0)), .v (.int .i64 (0)), .v (.int .i64 (0))]), 0, 1, none, true⟩ := by kernel_rfl
theorem ti63 : TI.of Tryd.prog 63 = ⟨4, true, 53, [], [], false, 32, .agg 4 (list [.v (.int .i64 (0)), .v (.int .i64 (0)), .v (.int .i64 (0)), .v (.int .i64 (0))]), 2, 2, none, true⟩ := by kernel_rfl
theorem ti64 : TI.of Tryd.prog 64 = ⟨1, false, 101, [], [], false, 24, .v (.slice none 0 0), 0, 3, none, false⟩ := by kernel_rfl
theorem ti67 : TI.of Tryd.prog 67 = ⟨1, false, 53, [], [], false, 24, .v (.slice none 0 0), 0, 3, none, false⟩ := by kernel_rfl
theorem ti68 : TI.of Tryd.prog 68 = ⟨2, true, 0, [0, 1], [67, 67], true, 48, .agg 2 (list [.v (.slice none 0 0), .v (.slice none 0 0)]), 0, 1, none, true⟩ := by kernel_rfl
theorem ti69 : TI.of Tryd.prog 69 = ⟨2, true, 0, [0, 1], [67, 67], true, 48, .agg 2 (list [.v (.slice none 0 0), .v (.slice none 0 0)]), 0, 1, none, true⟩ := by kernel_rfl
theorem ti81 : TI.of Tryd.prog 81 = ⟨1, false, 0, [], [], false, 8, .v (.int .u64 (0)), 0, 9, some .u64, false⟩ := by kernel_rfl
theorem ti85 : TI.of Tryd.prog 85 = ⟨2, true, 0, [0, 1], [3, 3], true, 16, .agg 2 (list [.v (.int .i64 (0)), .v (.int .i64 (0))]), 0, 1, none, true⟩ := by kernel_rfl
theorem ti86 : TI.of Tryd.prog 86 = ⟨2, true, 0, [0, 1], [3, 3], true, 16, .agg 2 (list [.v (.int .i64 (0)), .v (.int .i64 (0))]), 0, 1, none, true⟩ := by kernel_rfl
theorem ti94 : TI.of Tryd.prog 94 = ⟨2, true, 0, [0, 1], [3, 3], true, 16, .agg 2 (list [.v (.int .i64 (0)), .v (.int .i64 (0))]), 0, 1, none, true⟩ := by kernel_rfl
theorem ti96 : TI.of Tryd.prog 96 = ⟨10, true, 0, [0], [61], true, 80, .agg 10 (list [.v (.int .i64 (0)), .v (.int .i64 (0)), .v (.int .i64 (0)), .v (.int .i64 (0)), .v (.int .i64 (0)), .v (.int .i64 (0)), .v (.int .i64 (0)), .v (.int .i64 (0)), .v (.int .i64 (0)), .v (.int .i64 (0))]), 0, 1, none, true⟩ := by kernel_rfl
theorem ti97 : TI.of Tryd.prog 97 = ⟨10, true, 0, [0], [61], true, 80, .agg 10 (list [.v (.int .i64 (0)), .v (.int .i64 (0)), .v (.int .i64 (0)), .v (.int .i64 (0)), .v (.int .i64 (0)), .v (.int .i64 (0)), .v (.int .i64 (0)), .v (.int .i64 (0)), .v (.int .i64 (0)), .v (.int .i64 (0))]), 0, 1, none, true⟩ := by kernel_rfl
theorem ti100 : TI.of Tryd.prog 100 = ⟨5, true, 0, [0, 1, 2, 3], [3, 3, 3, 86], true, 40, .agg 5 (list [.v (.int .i64 (0)), .v (.int .i64 (0)), .v (.int .i64 (0)), .v (.int .i64 (0)), .v (.int .i64 (0))]), 0, 1, none, true⟩ := by kernel_rfl
theorem ti101 : TI.of Tryd.prog 101 = ⟨5, true, 0, [0, 1, 2, 3], [3, 3, 3, 86], true, 40, .agg 5 (list [.v (.int .i64 (0)), .v (.int .i64 (0)), .v (.int .i64 (0)), .v (.int .i64 (0)), .v (.int .i64 (0))]), 0, 1, none, true⟩ := by kernel_rfl
theorem ti102 : TI.of Tryd.prog 102 = ⟨8, true, 53, [], [], false, 64, .agg 8 (list [.v (.int .i64 (0)), .v (.int .i64 (0)), .v (.int .i64 (0)), .v (.int .i64 (0)), .v (.int .i64 (0)), .v (.int .i64 (0)), .v (.int .i64 (0)), .v (.int .i64 (0))]), 4, 2, none, true⟩ := by kernel_rfl
theorem ti105 : TI.of Tryd.prog 105 = ⟨1, false, 9, [], [], false, 24, .v (.slice none 0 0), 0, 3, none, false⟩ := by kernel_rfl
theorem ti107 : TI.of Tryd.prog 107 = ⟨1, false, 126, [], [], false, 24, .v (.slice none 0 0), 0, 3, none, false⟩ := by kernel_rfl
theorem ti109 : TI.of Tryd.prog 109 = ⟨1, false, 101, [], [], false, 8, .v (.pointer none), 0, 9, none, false⟩ := by kernel_rfl
theorem ti111 : TI.of Tryd.prog 111 = ⟨1, false, 27, [], [], false, 24, .v (.slice none 0 0), 0, 3, none, false⟩ := by kernel_rfl
theorem ti126 : TI.of Tryd.prog 126 = ⟨1, false, 3, [], [], false, 8, .v (.pointer none), 0, 9, none, false⟩ := by kernel_rfl
theorem ti128 : TI.of Tryd.prog 128 = ⟨1, false, 131, [], [], false, 8, .v (.pointer none), 0, 9, none, false⟩ := by kernel_rfl
theorem ti129 : TI.of Tryd.prog 129 = ⟨1, false, 5, [], [], false, 24, .v (.slice none 0 0), 0, 3, none, false⟩ := by kernel_rfl
theorem ti130 : TI.of Tryd.prog 130 = ⟨2, true, 0, [0, 1], [128, 129], true, 32, .agg 2 (list [.v (.pointer none), .v (.slice none 0 0)]), 0, 1, none, true⟩ := by kernel_rfl
theorem ti131 : TI.of Tryd.prog 131 = ⟨2, true, 0, [0, 1], [128, 129], true, 32, .agg 2 (list [.v (.pointer none), .v (.slice none 0 0)]), 0, 1, none, true⟩ := by kernel_rfl
theorem ti139 : TI.of Tryd.prog 139 = ⟨1, false, 0, [], [], false, 4, .v (.int .u32 (0)), 0, 9, some .u32, false⟩ := by kernel_rfl
theorem ti141 : TI.of Tryd.prog 141 = ⟨1, false, 0, [], [], false, 8, .v (.int .u64 (0)), 0, 9, some .u64, false⟩ := by kernel_rfl
theorem ti143 : TI.of Tryd.prog 143 = ⟨1, false, 5, [], [], false, 8, .v (.pointer none), 0, 9, none, false⟩ := by kernel_rfl
theorem ti145 : TI.of Tryd.prog 145 = ⟨1, false, 0, [], [], false, 8, .v (.pointer none), 0, 9, none, false⟩ := by kernel_rfl
theorem ti148 : TI.of Tryd.prog 148 = ⟨24, true, 5, [], [], false, 24, .agg 24 (list [.v (.int .u8 (0)), .v (.int .u8 (0)), .v (.int .u8 (0)), .v (.int .u8 (0)), .v (.int .u8 (0)), .v (.int .u8 (0)), .v (.int .u8 (0)), .v (.int .u8 (0)), .v (.int .u8 (0)), .v (.int .u8 (0)), .v (.int .u8 (0)), .v (.int .u8 (0)), .v (.int .u8 (0)), .v (.int .u8 (0)), .v (.int .u8 (0)), .v (.int .u8 (0)), .v (.int .u8 (0)), .v (.int .u8 (0)), .v (.int .u8 (0)), .v (.int .u8 (0)), .v (.int .u8 (0)), .v (.int .u8 (0)), .v (.int .u8 (0)), .v (.int .u8 (0))]), 24, 2, none, true⟩ := by kernel_rfl
theorem ti153 : TI.of Tryd.prog 153 = ⟨20, true, 141, [], [], false, 160, .agg 20 (list [.v (.int .u64 (0)), .v (.int .u64 (0)), .v (.int .u64 (0)), .v (.int .u64 (0)), .v (.int .u64 (0)), .v (.int .u64 (0)), .v (.int .u64 (0)), .v (.int .u64 (0)), .v (.int .u64 (0)), .v (.int .u64 (0)), .v (.int .u64 (0)), .v (.int .u64 (0)), .v (.int .u64 (0)), .v (.int .u64 (0)), .v (.int .u64 (0)), .v (.int .u64 (0)), .v (.int .u64 (0)), .v (.int .u64 (0)), .v (.int .u64 (0)), .v (.int .u64 (0))]), 20, 2, none, true⟩ := by kernel_rfl
theorem ti154 : TI.of Tryd.prog 154 = ⟨65, true, 5, [], [], false, 65, .agg 65 (list [.v (.int .u8 (0)), .v (.int .u8 (0)), .v (.int .u8 (0)), .v (.int .u8 (0)), .v (.int .u8 (0)), .v (.int .u8 (0)), .v (.int .u8 (0)), .v (.int .u8 (0)), .v (.int .u8 (0)), .v (.int .u8 (0)), .v (.int .u8 (0)), .v (.int .u8 (0)), .v (.int .u8 (0)), .v (.int .u8 (0)), .v (.int .u8 (0)), .v (.int .u8 (0)), .v (.int .u8 (0)), .v (.int .u8 (0)), .v (.int .u8 (0)), .v (.int .u8 (0)), .v (.int .u8 (0)), .v (.int .u8 (0)), .v (.int .u8 (0)), .v (.int .u8 (0)), .v (.int .u8 (0)), .v (.int .u8 (0)), .v (.int .u8 (0)), .v (.int .u8 (0)), .v (.int .u8 (0)), .v (.int .u8 (0)), .v (.int .u8 (0)), .v (.int .u8 (0)), .v (.int .u8 (0)), .v (.int .u8 (0)), .v (.int .u8 (0)), .v (.int .u8 (0)), .v (.int .u8 (0)), .v (.int .u8 (0)), .v (.int .u8 (0)), .v (.int .u8 (0)), .v (.int .u8 (0)), .v (.int .u8 (0)), .v (.int .u8 (0)), .v (.int .u8 (0)), .v (.int .u8 (0)), .v (.int .u8 (0)), .v (.int .u8 (0)), .v (.int .u8 (0)), .v (.int .u8 (0)), .v (.int .u8 (0)), .v (.int .u8 (0)), .v (.int .u8 (0)), .v (.int .u8 (0)), .v (.int .u8 (0)), .v (.int .u8 (0)), .v (.int .u8 (0)), .v (.int .u8 (0)), .v (.int .u8 (0)), .v (.int .u8 (0)), .v (.int .u8 (0)), .v (.int .u8 (0)), .v (.int .u8 (0)), .v (.int .u8 (0)), .v (.int .u8 (0)), .v (.int .u8 (0))]), 65, 2, none, true⟩ := by kernel_rfl
theorem ti155 : TI.of Tryd.prog 155 = ⟨32, true, 5, [], [], false, 32, .agg 32 (list [.v (.int .u8 (0)), .v (.int .u8 (0)), .v (.int .u8 (0)), .v (.int .u8 (0)), .v (.int .u8 (0)), .v (.int .u8 (0)), .v (.int .u8 (0)), .v (.int .u8 (0)), .v (.int .u8 (0)), .v (.int .u8 (0)), .v (.int .u8 (0)), .v (.int .u8 (0)), .v (.int .u8 (0)), .v (.int .u8 (0)), .v (.int .u8 (0)), .v (.int .u8 (0)), .v (.int .u8 (0)), .v (.int .u8 (0)), .v (.int .u8 (0)), .v (.int .u8 (0)), .v (.int .u8 (0)), .v (.int .u8 (0)), .v (.int .u8 (0)), .v (.int .u8 (0)), .v (.int .u8 (0)), .v (.int .u8 (0)), .v (.int .u8 (0)), .v (.int .u8 (0)), .v (.int .u8 (0)), .v (.int .u8 (0)), .v (.int .u8 (0)), .v (.int .u8 (0))]), 32, 2, none, true⟩ := by kernel_rfl
theorem ti156 : TI.of Tryd.prog 156 = ⟨64, true, 5, [], [], false, 64, .agg 64 (list [.v (.int .u8 (0)), .v (.int .u8 (0)), .v (.int .u8 (0)), .v (.int .u8 (0)), .v (.int .u8 (0)), .v (.int .u8 (0)), .v (.int .u8 (0)), .v (.int .u8 (0)), .v (.int .u8 (0)), .v (.int .u8 (0)), .v (.int .u8 (0)), .v (.int .u8 (0)), .v (.int .u8 (0)), .v (.int .u8 (0)), .v (.int .u8 (0)), .v (.int .u8 (0)), .v (.int .u8 (0)), .v (.int .u8 (0)), .v (.int .u8 (0)), .v (.int .u8 (0)), .v (.int .u8 (0)), .v (.int .u8 (0)), .v (.int .u8 (0)), .v (.int .u8 (0)), .v (.int .u8 (0)), .v (.int .u8 (0)), .v (.int .u8 (0)), .v (.int .u8 (0)), .v (.int .u8 (0)), .v (.int .u8 (0)), .v (.int .u8 (0)), .v (.int .u8 (0)), .v (.int .u8 (0)), .v (.int .u8 (0)), .v (.int .u8 (0)), .v (.int .u8 (0)), .v (.int .u8 (0)), .v (.int .u8 (0)), .v (.int .u8 (0)), .v (.int .u8 (0)), .v (.int .u8 (0)), .v (.int .u8 (0)), .v (.int .u8 (0)), .v (.int .u8 (0)), .v (.int .u8 (0)), .v (.int .u8 (0)), .v (.int .u8 (0)), .v (.int .u8 (0)), .v (.int .u8 (0)), .v (.int .u8 (0)), .v (.int .u8 (0)), .v (.int .u8 (0)), .v (.int .u8 (0)), .v (.int .u8 (0)), .v (.int .u8 (0)), .v (.int .u8 (0)), .v (.int .u8 (0)), .v (.int .u8 (0)), .v (.int .u8 (0)), .v (.int .u8 (0)), .v (.int .u8 (0)), .v (.int .u8 (0)), .v (.int .u8 (0)), .v (.int .u8 (0))]), 64, 2, none, true⟩ := by kernel_rfl
theorem ti157 : TI.of Tryd.prog 157 = ⟨4, true, 0, [0, 1, 2, 3], [17, 17, 17, 9], true, 40, .agg 4 (list [.v (.pointer none), .v (.pointer none), .v (.pointer none), .v (.string ⟨#[]⟩)]), 0, 1, none, false⟩ := by kernel_rfl
theorem ti158 : TI.of Tryd.prog 158 = ⟨4, true, 0, [0, 1, 2, 3], [17, 17, 17, 9], true, 40, .agg 4 (list [.v (.pointer none), .v (.pointer none), .v (.pointer none), .v (.string ⟨#[]⟩)]), 0, 1, none, false⟩ := by kernel_rfl
theorem ti159 : TI.of Tryd.prog 159 = ⟨0, true, 16, [], [], false, 0, .agg 0 (list []), 0, 2, none, true⟩ := by kernel_rfl
theorem ti160 : TI.of Tryd.prog 160 = ⟨0, true, 0, [0], [159], false, 0, .agg 0 (list []), 0, 1, none, false⟩ := by kernel_rfl
theorem ti161 : TI.of Tryd.prog 161 = ⟨0, true, 0, [0], [159], false, 0, .agg 0 (list []), 0, 1, none, false⟩ := by kernel_rfl
theorem ti162 : TI.of Tryd.prog 162 = ⟨1, false, 0, [], [], false, 1, .v (.int .u8 (0)), 0, 9, some .u8, false⟩ := by kernel_rfl
theorem ti163 : TI.of Tryd.prog 163 = ⟨1, false, 0, [], [], false, 1, .v (.int .u8 (0)), 0, 9, some .u8, false⟩ := by kernel_rfl
theorem ti165 : TI.of Tryd.prog 165 = ⟨1, false, 0, [], [], false, 4, .v (.int .i32 (0)), 0, 9, some .i32, false⟩ := by kernel_rfl
theorem ti166 : TI.of Tryd.prog 166 = ⟨1, false, 0, [], [], false, 4, .v (.int .i32 (0)), 0, 9, some .i32, false⟩ := by kernel_rfl
theorem mixed : Tryd.prog.follows .mixedOrders = true := by kernel_rfl
/-- What is known of every world: the library's table of powers of ten. -/
def GW (w : World) : Prop := Lib.TabIs Tryd.prog w "internal/strconv.uint64pow10" .u64 Lib.pow10Tab
theorem tabIs_below {P : Program} {w w' : World} {name : String} {k : IntKind} {zs : List Int} (h : Lib.TabIs P w name k zs) (hb : Below w.heap.size w w') : Lib.TabIs P w' name k zs := by
  unfold Lib.TabIs World.var? at *
  cases hg : P.globalNamed name with
  | none => simp [hg] at h
  | some g =>
    simp only [hg, Option.bind_some] at h ⊢
    have hlt : g < w.heap.size := by
      rcases Nat.lt_or_ge g w.heap.size with h' | h'
      · exact h'
      · rw [Array.getElem?_eq_none h'] at h; simp at h
    rw [hb.block g hlt]
    exact h
theorem GW_mono (w w' : World) (h : GW w) (hb : Below w.heap.size w w') : GW w' := tabIs_below h hb
end Go.Am
