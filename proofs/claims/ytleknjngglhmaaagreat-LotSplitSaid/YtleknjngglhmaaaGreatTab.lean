/- The types of the seat's program that are wanted, and its regions that draw their order (written by a program of mine). -/
import Derived.Test.YtleknjngglhmaaaGreatRows
import Derived.Test.YtleknjngglhmaaaGreatVB
import Derived.KernelRfl
namespace Go.Proofs.YtleknjngglhmaaaGreat
open Go Go.RowKit
set_option linter.unusedVariables false
set_option linter.unusedSimpArgs false

def ti3 : TI := ⟨.int .i64, 1, .int .i64 0⟩
theorem tio3 : TIok Tryz.prog 3 ti3 := TIok.mk Tryz.underlying3 rfl (fun _ h => by cases h) (by kernel_rfl) (Tryz.underlying3)
def ti4 : TI := ⟨.bool, 1, .bool false⟩
theorem tio4 : TIok Tryz.prog 4 ti4 := TIok.mk Tryz.underlying4 rfl (fun _ h => by cases h) (by kernel_rfl) (Tryz.underlying4)
def ti5 : TI := ⟨.int .u8, 1, .int .u8 0⟩
theorem tio5 : TIok Tryz.prog 5 ti5 := TIok.mk Tryz.underlying5 rfl (fun _ h => by cases h) (by kernel_rfl) (Tryz.underlying5)
def ti9 : TI := ⟨.str, 1, .string ByteArray.empty⟩
theorem tio9 : TIok Tryz.prog 9 ti9 := TIok.mk Tryz.underlying9 rfl (fun _ h => by cases h) (by kernel_rfl) (Tryz.underlying9)
def ti22 : TI := ⟨.slice 3 1 8 (.int .i64 0), 1, .slice none 0 0⟩
theorem tio22 : TIok Tryz.prog 22 ti22 := TIok.mk Tryz.underlying22 rfl (fun _ h => by cases h) (by kernel_rfl) (slice_ok Tryz.underlying22 (by kernel_rfl))
def ti23 : TI := ⟨.slice 72 3 24 (.agg #[.int .i64 0, .int .i64 0, .int .i64 0]), 1, .slice none 0 0⟩
theorem tio23 : TIok Tryz.prog 23 ti23 := TIok.mk Tryz.underlying23 rfl (fun _ h => by cases h) (by kernel_rfl) (slice_ok Tryz.underlying23 (by kernel_rfl))
def ti29 : TI := ⟨.int .i64, 1, .int .i64 0⟩
theorem tio29 : TIok Tryz.prog 29 ti29 := TIok.mk Tryz.underlying29 rfl (fun _ h => by cases h) (by kernel_rfl) (Tryz.underlying29)
def ti34 : TI := ⟨.slice 43 5 64 (.agg #[.int .i64 0, .string ByteArray.empty, .int .i64 0, .int .i64 0, .slice none 0 0]), 1, .slice none 0 0⟩
theorem tio34 : TIok Tryz.prog 34 ti34 := TIok.mk Tryz.underlying34 rfl (fun _ h => by cases h) (by kernel_rfl) (slice_ok Tryz.underlying34 (by kernel_rfl))
def ti35 : TI := ⟨.slice 40 3 24 (.agg #[.int .i64 0, .int .i64 0, .int .i64 0]), 1, .slice none 0 0⟩
theorem tio35 : TIok Tryz.prog 35 ti35 := TIok.mk Tryz.underlying35 rfl (fun _ h => by cases h) (by kernel_rfl) (slice_ok Tryz.underlying35 (by kernel_rfl))
def ti37 : TI := ⟨.struct [(0, 1), (1, 1), (2, 1)], 3, .agg #[.slice none 0 0, .slice none 0 0, .int .i64 0]⟩
theorem tio37 : TIok Tryz.prog 37 ti37 := TIok.mk Tryz.underlying37 rfl (fun _ h => by cases h) (by kernel_rfl) (fields_ok Tryz.underlying37 (by kernel_rfl))
def ti40 : TI := ⟨.struct [(0, 1), (1, 1), (2, 1)], 3, .agg #[.int .i64 0, .int .i64 0, .int .i64 0]⟩
theorem tio40 : TIok Tryz.prog 40 ti40 := TIok.mk Tryz.underlying40 rfl (fun _ h => by cases h) (by kernel_rfl) (fields_ok Tryz.underlying40 (by kernel_rfl))
def ti43 : TI := ⟨.struct [(0, 1), (1, 1), (2, 1), (3, 1), (4, 1)], 5, .agg #[.int .i64 0, .string ByteArray.empty, .int .i64 0, .int .i64 0, .slice none 0 0]⟩
theorem tio43 : TIok Tryz.prog 43 ti43 := TIok.mk Tryz.underlying43 rfl (fun _ h => by cases h) (by kernel_rfl) (fields_ok Tryz.underlying43 (by kernel_rfl))
def ti51 : TI := ⟨.slice 53 2 16 (.agg #[.int .i64 0, .int .i64 0]), 1, .slice none 0 0⟩
theorem tio51 : TIok Tryz.prog 51 ti51 := TIok.mk Tryz.underlying51 rfl (fun _ h => by cases h) (by kernel_rfl) (slice_ok Tryz.underlying51 (by kernel_rfl))
def ti53 : TI := ⟨.struct [(0, 1), (1, 1)], 2, .agg #[.int .i64 0, .int .i64 0]⟩
theorem tio53 : TIok Tryz.prog 53 ti53 := TIok.mk Tryz.underlying53 rfl (fun _ h => by cases h) (by kernel_rfl) (fields_ok Tryz.underlying53 (by kernel_rfl))
def ti65 : TI := ⟨.cell, 1, .pointer none⟩
theorem tio65 : TIok Tryz.prog 65 ti65 := TIok.mk Tryz.underlying65 rfl (fun _ h => by cases h) (by kernel_rfl) (trivial)
def ti68 : TI := ⟨.struct [(0, 1), (1, 1)], 2, .agg #[.slice none 0 0, .int .i64 0]⟩
theorem tio68 : TIok Tryz.prog 68 ti68 := TIok.mk Tryz.underlying68 rfl (fun _ h => by cases h) (by kernel_rfl) (fields_ok Tryz.underlying68 (by kernel_rfl))
def ti69 : TI := ⟨.arr 4 3 1, 4, .agg #[.int .i64 0, .int .i64 0, .int .i64 0, .int .i64 0]⟩
theorem tio69 : TIok Tryz.prog 69 ti69 := TIok.mk Tryz.underlying69 rfl (fun _ h => by cases h) (by kernel_rfl) (arr_ok Tryz.underlying69 (by kernel_rfl))
def ti72 : TI := ⟨.struct [(0, 1), (1, 1), (2, 1)], 3, .agg #[.int .i64 0, .int .i64 0, .int .i64 0]⟩
theorem tio72 : TIok Tryz.prog 72 ti72 := TIok.mk Tryz.underlying72 rfl (fun _ h => by cases h) (by kernel_rfl) (fields_ok Tryz.underlying72 (by kernel_rfl))
def ti102 : TI := ⟨.slice 23 1 24 (.slice none 0 0), 1, .slice none 0 0⟩
theorem tio102 : TIok Tryz.prog 102 ti102 := TIok.mk Tryz.underlying102 rfl (fun _ h => by cases h) (by kernel_rfl) (slice_ok Tryz.underlying102 (by kernel_rfl))
def ti104 : TI := ⟨.slice 4 1 1 (.bool false), 1, .slice none 0 0⟩
theorem tio104 : TIok Tryz.prog 104 ti104 := TIok.mk Tryz.underlying104 rfl (fun _ h => by cases h) (by kernel_rfl) (slice_ok Tryz.underlying104 (by kernel_rfl))
def ti105 : TI := ⟨.cell, 1, .pointer none⟩
theorem tio105 : TIok Tryz.prog 105 ti105 := TIok.mk Tryz.underlying105 rfl (fun _ h => by cases h) (by kernel_rfl) (trivial)
def ti107 : TI := ⟨.slice 9 1 16 (.string ByteArray.empty), 1, .slice none 0 0⟩
theorem tio107 : TIok Tryz.prog 107 ti107 := TIok.mk Tryz.underlying107 rfl (fun _ h => by cases h) (by kernel_rfl) (slice_ok Tryz.underlying107 (by kernel_rfl))
def ti110 : TI := ⟨.slice 117 2 24 (.agg #[.string ByteArray.empty, .int .i64 0]), 1, .slice none 0 0⟩
theorem tio110 : TIok Tryz.prog 110 ti110 := TIok.mk Tryz.underlying110 rfl (fun _ h => by cases h) (by kernel_rfl) (slice_ok Tryz.underlying110 (by kernel_rfl))
def ti112 : TI := ⟨.struct [(0, 1), (1, 1), (2, 1), (3, 1)], 4, .agg #[.int .i64 0, .slice none 0 0, .slice none 0 0, .slice none 0 0]⟩
theorem tio112 : TIok Tryz.prog 112 ti112 := TIok.mk Tryz.underlying112 rfl (fun _ h => by cases h) (by kernel_rfl) (fields_ok Tryz.underlying112 (by kernel_rfl))
def ti113 : TI := ⟨.slice 112 4 80 (.agg #[.int .i64 0, .slice none 0 0, .slice none 0 0, .slice none 0 0]), 1, .slice none 0 0⟩
theorem tio113 : TIok Tryz.prog 113 ti113 := TIok.mk Tryz.underlying113 rfl (fun _ h => by cases h) (by kernel_rfl) (slice_ok Tryz.underlying113 (by kernel_rfl))
def ti117 : TI := ⟨.struct [(0, 1), (1, 1)], 2, .agg #[.string ByteArray.empty, .int .i64 0]⟩
theorem tio117 : TIok Tryz.prog 117 ti117 := TIok.mk Tryz.underlying117 rfl (fun _ h => by cases h) (by kernel_rfl) (fields_ok Tryz.underlying117 (by kernel_rfl))
def ti120 : TI := ⟨.cell, 1, .nilFunc⟩
theorem tio120 : TIok Tryz.prog 120 ti120 := TIok.mk Tryz.underlying120 rfl (fun _ h => by cases h) (by kernel_rfl) (trivial)
def ti121 : TI := ⟨.int .u64, 1, .int .u64 0⟩
theorem tio121 : TIok Tryz.prog 121 ti121 := TIok.mk Tryz.underlying121 rfl (fun _ h => by cases h) (by kernel_rfl) (Tryz.underlying121)
def ti124 : TI := ⟨.int .i64, 1, .int .i64 0⟩
theorem tio124 : TIok Tryz.prog 124 ti124 := TIok.mk Tryz.underlying124 rfl (fun _ h => by cases h) (by kernel_rfl) (Tryz.underlying124)
def ti127 : TI := ⟨.cell, 1, .nilFunc⟩
theorem tio127 : TIok Tryz.prog 127 ti127 := TIok.mk Tryz.underlying127 rfl (fun _ h => by cases h) (by kernel_rfl) (trivial)
def ti130 : TI := ⟨.slice 133 3 24 (.agg #[.int .i64 0, .int .u64 0, .int .u64 0]), 1, .slice none 0 0⟩
theorem tio130 : TIok Tryz.prog 130 ti130 := TIok.mk Tryz.underlying130 rfl (fun _ h => by cases h) (by kernel_rfl) (slice_ok Tryz.underlying130 (by kernel_rfl))
def ti133 : TI := ⟨.struct [(0, 1), (1, 1), (2, 1)], 3, .agg #[.int .i64 0, .int .u64 0, .int .u64 0]⟩
theorem tio133 : TIok Tryz.prog 133 ti133 := TIok.mk Tryz.underlying133 rfl (fun _ h => by cases h) (by kernel_rfl) (fields_ok Tryz.underlying133 (by kernel_rfl))
def ti134 : TI := ⟨.cell, 1, .nilFunc⟩
theorem tio134 : TIok Tryz.prog 134 ti134 := TIok.mk Tryz.underlying134 rfl (fun _ h => by cases h) (by kernel_rfl) (trivial)
def ti136 : TI := ⟨.struct [(0, 1)], 1, .agg #[.nilFunc]⟩
theorem tio136 : TIok Tryz.prog 136 ti136 := TIok.mk Tryz.underlying136 rfl (fun _ h => by cases h) (by kernel_rfl) (fields_ok Tryz.underlying136 (by kernel_rfl))
def ti146 : TI := ⟨.int .u64, 1, .int .u64 0⟩
theorem tio146 : TIok Tryz.prog 146 ti146 := TIok.mk Tryz.underlying146 rfl (fun _ h => by cases h) (by kernel_rfl) (Tryz.underlying146)
def ti149 : TI := ⟨.struct [(0, 1), (1, 1)], 2, .agg #[.int .u64 0, .int .u64 0]⟩
theorem tio149 : TIok Tryz.prog 149 ti149 := TIok.mk Tryz.underlying149 rfl (fun _ h => by cases h) (by kernel_rfl) (fields_ok Tryz.underlying149 (by kernel_rfl))
def ti157 : TI := ⟨.int .i64, 1, .int .i64 0⟩
theorem tio157 : TIok Tryz.prog 157 ti157 := TIok.mk Tryz.underlying157 rfl (fun _ h => by cases h) (by kernel_rfl) (Tryz.underlying157)
def ti165 : TI := ⟨.int .u32, 1, .int .u32 0⟩
theorem tio165 : TIok Tryz.prog 165 ti165 := TIok.mk Tryz.underlying165 rfl (fun _ h => by cases h) (by kernel_rfl) (Tryz.underlying165)
def ti178 : TI := ⟨.int .u64, 1, .int .u64 0⟩
theorem tio178 : TIok Tryz.prog 178 ti178 := TIok.mk Tryz.underlying178 rfl (fun _ h => by cases h) (by kernel_rfl) (Tryz.underlying178)
def ti182 : TI := ⟨.cell, 1, .pointer none⟩
theorem tio182 : TIok Tryz.prog 182 ti182 := TIok.mk Tryz.underlying182 rfl (fun _ h => by cases h) (by kernel_rfl) (trivial)
def tT : List (Nat × TI) := [(3, ti3), (4, ti4), (5, ti5), (9, ti9), (22, ti22), (23, ti23), (29, ti29), (34, ti34), (35, ti35), (37, ti37), (40, ti40), (43, ti43), (51, ti51), (53, ti53), (65, ti65), (68, ti68), (69, ti69), (72, ti72), (102, ti102), (104, ti104), (105, ti105), (107, ti107), (110, ti110), (112, ti112), (113, ti113), (117, ti117), (120, ti120), (121, ti121), (124, ti124), (127, ti127), (130, ti130), (133, ti133), (134, ti134), (136, ti136), (146, ti146), (149, ti149), (157, ti157), (165, ti165), (178, ti178), (182, ti182)]
theorem tT_ok : ∀ t ti, lk t tT = some ti → TIok Tryz.prog t ti := tiAll [(3, ti3), (4, ti4), (5, ti5), (9, ti9), (22, ti22), (23, ti23), (29, ti29), (34, ti34), (35, ti35), (37, ti37), (40, ti40), (43, ti43), (51, ti51), (53, ti53), (65, ti65), (68, ti68), (69, ti69), (72, ti72), (102, ti102), (104, ti104), (105, ti105), (107, ti107), (110, ti110), (112, ti112), (113, ti113), (117, ti117), (120, ti120), (121, ti121), (124, ti124), (127, ti127), (130, ti130), (133, ti133), (134, ti134), (136, ti136), (146, ti146), (149, ti149), (157, ti157), (165, ti165), (178, ti178), (182, ti182)] (⟨tio3, ⟨tio4, ⟨tio5, ⟨tio9, ⟨tio22, ⟨tio23, ⟨tio29, ⟨tio34, ⟨tio35, ⟨tio37, ⟨tio40, ⟨tio43, ⟨tio51, ⟨tio53, ⟨tio65, ⟨tio68, ⟨tio69, ⟨tio72, ⟨tio102, ⟨tio104, ⟨tio105, ⟨tio107, ⟨tio110, ⟨tio112, ⟨tio113, ⟨tio117, ⟨tio120, ⟨tio121, ⟨tio124, ⟨tio127, ⟨tio130, ⟨tio133, ⟨tio134, ⟨tio136, ⟨tio146, ⟨tio149, ⟨tio157, ⟨tio165, ⟨tio178, ⟨tio182, trivial⟩⟩⟩⟩⟩⟩⟩⟩⟩⟩⟩⟩⟩⟩⟩⟩⟩⟩⟩⟩⟩⟩⟩⟩⟩⟩⟩⟩⟩⟩⟩⟩⟩⟩⟩⟩⟩⟩⟩⟩)
theorem mixed : Tryz.prog.follows .mixedOrders = true := by kernel_rfl
def dr0 : List (Nat × (List Nat × List (Option Nat × Option Nat))) := []
def dr1 : List (Nat × (List Nat × List (Option Nat × Option Nat))) := []
def dr2 : List (Nat × (List Nat × List (Option Nat × Option Nat))) := []
def dr3 : List (Nat × (List Nat × List (Option Nat × Option Nat))) := []
def dr4 : List (Nat × (List Nat × List (Option Nat × Option Nat))) := [(4, [0, 1, 0, 0, 8, 24, 60, 127, 255], [(some 22, none), (some 23, none), (some 24, none), (some 25, none), (some 26, none), (some 27, none), (some 28, none), (some 11, none), (some 2, none)]), (6, [0, 1, 0, 0, 8, 24, 60, 127, 255, 0, 1023], [(some 33, none), (some 34, none), (some 35, none), (some 36, none), (some 37, none), (some 38, none), (some 39, none), (some 40, none), (some 41, none), (some 13, some 13), (none, some 13)]), (7, [0, 1, 0, 4, 0, 16, 48, 124, 51, 511], [(some 42, none), (some 43, none), (some 44, none), (some 45, none), (some 46, none), (some 47, none), (some 48, none), (some 49, none), (some 2, none), (some 3, none)]), (12, [0, 0, 2, 7, 15, 31, 63, 127, 127, 127, 895, 1919, 4095, 8191, 16383, 32767, 65535, 131071, 262143, 524287, 1048575, 1048575, 4194303, 8388607, 16777215, 33554431], [(some 63, none), (some 64, none), (some 65, none), (some 66, none), (some 67, none), (some 68, none), (some 69, none), (some 70, none), (some 71, none), (some 72, none), (some 73, none), (some 74, none), (some 75, none), (some 76, none), (some 77, none), (some 78, none), (some 79, none), (some 80, none), (some 81, none), (some 82, none), (some 83, none), (some 84, none), (some 85, none), (some 86, none), (some 87, none), (some 88, none)])]
def dr5 : List (Nat × (List Nat × List (Option Nat × Option Nat))) := [(7, [0, 1, 0, 4, 15, 31], [(some 47, none), (some 48, none), (some 49, none), (some 50, none), (some 3, none), (some 4, none)])]
def dr6 : List (Nat × (List Nat × List (Option Nat × Option Nat))) := [(4, [0, 1, 0, 0, 8, 24, 60, 127, 255, 0, 1023], [(some 32, none), (some 33, none), (some 34, none), (some 35, none), (some 36, none), (some 37, none), (some 38, none), (some 39, none), (some 40, none), (some 10, some 10), (none, some 10)]), (8, [0, 1, 0, 4, 0, 16, 0, 112, 0, 256, 768, 0, 2048, 0, 14336, 32512, 65520, 0, 131072, 393216, 1048575, 2097151, 4194303, 4194303, 8388607, 33554431], [(some 58, none), (some 59, none), (some 60, none), (some 61, none), (some 62, none), (some 63, none), (some 64, none), (some 65, none), (some 66, none), (some 67, none), (some 68, none), (some 69, none), (some 70, none), (some 71, none), (some 72, none), (some 73, none), (some 74, some 74), (some 75, none), (some 76, none), (some 77, none), (some 78, none), (some 57, none), (some 79, none), (some 80, none), (some 11, none), (some 12, none)]), (18, [0, 1, 3, 0, 8, 31, 63, 127], [(some 166, none), (some 167, none), (some 168, none), (some 169, none), (some 170, none), (some 171, none), (some 23, none), (some 24, none)])]
def dr7 : List (Nat × (List Nat × List (Option Nat × Option Nat))) := [(11, [0, 0, 2, 0, 8, 24, 62, 25, 255], [(some 59, none), (some 60, none), (some 61, none), (some 62, none), (some 63, none), (some 64, none), (some 65, none), (some 2, none), (some 3, none)])]
def dr8 : List (Nat × (List Nat × List (Option Nat × Option Nat))) := [(4, [0, 1, 0, 0, 8, 24, 60, 127, 255, 0, 1023], [(some 21, none), (some 22, none), (some 23, none), (some 24, none), (some 25, none), (some 26, none), (some 27, none), (some 28, none), (some 29, none), (some 8, some 8), (none, some 8)])]
def dr9 : List (Nat × (List Nat × List (Option Nat × Option Nat))) := [(6, [0, 1, 3, 0, 8, 0, 56, 120, 255, 511], [(some 22, none), (some 23, none), (some 24, none), (some 25, none), (some 26, some 12), (some 27, none), (some 28, some 12), (some 29, none), (some 30, none), (some 7, none)])]
def dr10 : List (Nat × (List Nat × List (Option Nat × Option Nat))) := []
def dr11 : List (Nat × (List Nat × List (Option Nat × Option Nat))) := []
def dr12 : List (Nat × (List Nat × List (Option Nat × Option Nat))) := []
def dr13 : List (Nat × (List Nat × List (Option Nat × Option Nat))) := []
def dr14 : List (Nat × (List Nat × List (Option Nat × Option Nat))) := []
def dr15 : List (Nat × (List Nat × List (Option Nat × Option Nat))) := [(19, [0, 0, 0, 6, 14, 30, 0, 0, 192, 448, 960, 2046, 4094, 8191, 16383], [(some 77, none), (some 78, none), (some 79, none), (some 80, none), (some 81, none), (some 82, none), (some 83, none), (some 84, none), (some 85, none), (some 86, none), (some 87, none), (some 88, none), (some 89, some 89), (some 90, some 90), (some 16, none)]), (25, [0, 0, 0, 4, 15, 0, 0, 96, 224, 511, 1023, 2047, 2047, 4095, 16383], [(some 101, none), (some 102, none), (some 103, none), (some 104, none), (some 105, none), (some 106, none), (some 107, none), (some 108, none), (some 109, none), (some 110, none), (some 100, none), (some 111, none), (some 112, none), (some 22, none), (some 23, none)])]
def dr16 : List (Nat × (List Nat × List (Option Nat × Option Nat))) := [(6, [0, 0, 3, 7, 0, 0, 48, 112, 255], [(some 17, none), (some 18, none), (some 19, none), (some 20, none), (some 21, none), (some 22, none), (some 23, none), (some 24, none), (some 25, none)])]
def dr17 : List (Nat × (List Nat × List (Option Nat × Option Nat))) := []
def dr18 : List (Nat × (List Nat × List (Option Nat × Option Nat))) := []
def dr19 : List (Nat × (List Nat × List (Option Nat × Option Nat))) := []
def dr20 : List (Nat × (List Nat × List (Option Nat × Option Nat))) := []
def dr21 : List (Nat × (List Nat × List (Option Nat × Option Nat))) := []
def dr22 : List (Nat × (List Nat × List (Option Nat × Option Nat))) := [(18, [0, 1, 3, 7, 15, 0, 32, 96, 255], [(some 40, none), (some 41, none), (some 42, some 42), (some 43, none), (some 44, none), (some 45, none), (some 46, none), (some 47, none), (some 48, none)]), (24, [0, 0, 3, 7, 15, 0, 0, 64, 224, 480, 992, 2047], [(some 56, none), (some 57, none), (some 58, none), (some 59, none), (some 60, none), (some 61, none), (some 62, none), (some 63, none), (some 64, none), (some 65, none), (some 66, none), (some 67, none)])]
def dr23 : List (Nat × (List Nat × List (Option Nat × Option Nat))) := [(22, [0, 0, 3, 7, 15, 31, 63, 0, 0, 384, 896, 1920, 3968, 8191], [(some 91, none), (some 92, none), (some 93, none), (some 94, none), (some 95, none), (some 96, none), (some 97, none), (some 98, none), (some 99, none), (some 100, none), (some 101, none), (some 102, none), (some 103, none), (some 104, none)]), (27, [0, 0, 3, 7, 15, 0, 0, 64, 224, 480, 992, 2047], [(some 111, none), (some 112, none), (some 113, none), (some 114, none), (some 115, none), (some 116, none), (some 117, none), (some 118, none), (some 119, none), (some 120, none), (some 121, none), (some 122, none)]), (37, [0, 0, 3, 7, 15, 31, 63, 127, 127, 511, 1023, 2047, 4095, 8191, 16383, 32767, 32767, 131071, 262143, 524287, 32767, 32767, 3178495, 7372799, 15761407, 33554431, 67108863], [(some 141, none), (some 142, none), (some 143, none), (some 144, none), (some 145, none), (some 146, none), (some 147, none), (some 148, none), (some 149, none), (some 150, none), (some 151, none), (some 152, none), (some 153, none), (some 154, none), (some 155, none), (some 156, none), (some 157, none), (some 158, none), (some 159, none), (some 160, none), (some 161, none), (some 162, none), (some 163, none), (some 164, none), (some 165, none), (some 166, none), (some 167, none)])]
def dr24 : List (Nat × (List Nat × List (Option Nat × Option Nat))) := []
def dr25 : List (Nat × (List Nat × List (Option Nat × Option Nat))) := []
def dr26 : List (Nat × (List Nat × List (Option Nat × Option Nat))) := []
def dr27 : List (Nat × (List Nat × List (Option Nat × Option Nat))) := [(27, [0, 0, 3, 7, 15, 0, 0, 96, 224, 480, 1023], [(some 120, none), (some 121, none), (some 122, none), (some 123, none), (some 124, none), (some 125, none), (some 126, none), (some 127, none), (some 128, none), (some 129, none), (some 130, none)]), (44, [0, 0, 0, 6, 14, 30, 0, 64, 0, 0, 768, 1792, 3840, 0, 8192, 0, 65534, 131070, 262143, 524287], [(some 176, none), (some 177, none), (some 178, none), (some 179, none), (some 180, none), (some 181, none), (some 182, none), (some 183, none), (some 184, none), (some 185, none), (some 186, none), (some 187, none), (some 188, none), (some 189, none), (some 190, none), (some 191, none), (some 192, none), (some 193, some 193), (some 194, some 194), (some 21, none)])]
def dr28 : List (Nat × (List Nat × List (Option Nat × Option Nat))) := [(6, [0, 0, 3, 7, 0, 0, 48, 112, 255, 511], [(some 17, none), (some 18, none), (some 19, none), (some 20, none), (some 21, none), (some 22, none), (some 23, none), (some 24, none), (some 25, none), (some 26, none)])]
def dr29 : List (Nat × (List Nat × List (Option Nat × Option Nat))) := []
def dr30 : List (Nat × (List Nat × List (Option Nat × Option Nat))) := [(5, [0, 0, 0, 6, 14, 30, 63, 0, 0, 0, 768, 1792, 3840, 7936, 16256, 16255, 65535], [(some 13, none), (some 14, none), (some 15, none), (some 16, none), (some 17, none), (some 18, none), (some 19, none), (some 20, none), (some 21, none), (some 22, none), (some 23, none), (some 24, none), (some 25, none), (some 26, none), (some 27, none), (some 4, none), (some 5, none)])]
def dr31 : List (Nat × (List Nat × List (Option Nat × Option Nat))) := []
def dr32 : List (Nat × (List Nat × List (Option Nat × Option Nat))) := []
def dr33 : List (Nat × (List Nat × List (Option Nat × Option Nat))) := [(14, [0, 0, 3, 0, 0, 24, 56, 127], [(some 57, none), (some 58, none), (some 59, none), (some 60, none), (some 61, none), (some 62, none), (some 63, none), (some 64, none)]), (39, [0, 0, 3, 0, 8, 31, 63, 127], [(some 147, none), (some 148, none), (some 149, none), (some 150, none), (some 151, some 151), (some 152, none), (some 6, none), (some 7, none)])]
def dr34 : List (Nat × (List Nat × List (Option Nat × Option Nat))) := []
def dr35 : List (Nat × (List Nat × List (Option Nat × Option Nat))) := [(1, [0, 1, 3, 7, 0, 16, 48, 112, 240, 511, 1023], [(some 3, none), (some 4, none), (some 5, none), (some 6, none), (some 7, none), (some 8, none), (some 9, none), (some 10, none), (some 11, none), (some 12, none), (some 2, none)])]
def dr36 : List (Nat × (List Nat × List (Option Nat × Option Nat))) := [(1, [0, 1, 3, 7, 0, 16, 48, 112, 240, 511], [(some 5, none), (some 6, none), (some 7, none), (some 8, none), (some 9, none), (some 10, none), (some 11, none), (some 12, none), (some 13, none), (some 14, none)]), (4, [0, 1, 3, 7, 0, 16, 48, 112, 240, 511, 1023, 0, 4095, 8191], [(some 22, none), (some 23, none), (some 24, none), (some 25, none), (some 26, none), (some 27, none), (some 28, none), (some 29, none), (some 30, none), (some 31, none), (some 32, none), (some 33, none), (some 34, none), (some 4, none)])]
def dr37 : List (Nat × (List Nat × List (Option Nat × Option Nat))) := [(11, [0, 0, 0, 4, 15, 0, 0, 64, 224, 511], [(some 26, none), (some 27, none), (some 28, none), (some 29, none), (some 30, none), (some 31, none), (some 32, none), (some 33, none), (some 34, none), (some 35, none)])]
def dr38 : List (Nat × (List Nat × List (Option Nat × Option Nat))) := [(5, [0, 0, 0, 6, 14, 30, 63, 0, 0, 384, 896, 1920, 4095, 8191], [(some 11, none), (some 12, none), (some 13, none), (some 14, none), (some 15, none), (some 16, none), (some 17, none), (some 18, none), (some 19, none), (some 20, none), (some 21, none), (some 22, none), (some 23, none), (some 3, none)])]
def dr39 : List (Nat × (List Nat × List (Option Nat × Option Nat))) := []
def dr40 : List (Nat × (List Nat × List (Option Nat × Option Nat))) := []
def dr41 : List (Nat × (List Nat × List (Option Nat × Option Nat))) := []
def dr42 : List (Nat × (List Nat × List (Option Nat × Option Nat))) := []
def dr43 : List (Nat × (List Nat × List (Option Nat × Option Nat))) := []
def dr44 : List (Nat × (List Nat × List (Option Nat × Option Nat))) := []
def dr45 : List (Nat × (List Nat × List (Option Nat × Option Nat))) := [(6, [0, 1, 3, 7, 7, 23, 63, 127, 255, 7, 7, 1543, 3591, 7687, 16383, 32767, 65535, 131071, 131071, 393215, 1048575, 2097151, 4194303, 131071, 131071, 25296895, 58851327, 125960191, 268435455, 536870911], [(some 14, none), (some 15, none), (some 16, none), (some 17, none), (some 18, none), (some 19, none), (some 20, none), (some 21, none), (some 22, none), (some 23, none), (some 24, none), (some 25, none), (some 26, none), (some 27, none), (some 28, none), (some 29, none), (some 30, none), (some 31, none), (some 32, none), (some 33, none), (some 34, none), (some 35, none), (some 36, none), (some 37, none), (some 38, none), (some 39, none), (some 40, none), (some 41, none), (some 42, none), (some 43, none)])]
def dr46 : List (Nat × (List Nat × List (Option Nat × Option Nat))) := []
def dr47 : List (Nat × (List Nat × List (Option Nat × Option Nat))) := [(27, [0, 0, 3, 7, 15, 31, 63, 127, 255, 511, 511, 511, 3583, 7679, 511, 32767, 511, 511, 511, 393727, 918015, 511, 4194303, 8388607, 16777215, 33554431], [(some 82, none), (some 83, none), (some 84, none), (some 85, none), (some 86, none), (some 87, none), (some 88, none), (some 89, none), (some 90, none), (some 91, none), (some 92, none), (some 93, none), (some 94, none), (some 95, none), (some 96, none), (some 97, none), (some 98, none), (some 99, none), (some 100, none), (some 101, none), (some 102, none), (some 103, none), (some 104, none), (some 105, none), (some 106, none), (some 107, none)])]
def dr48 : List (Nat × (List Nat × List (Option Nat × Option Nat))) := [(20, [0, 1, 3, 7, 0, 16, 48, 112, 0, 0, 768, 1792, 3840, 0, 16383, 32767, 65535, 65535, 131071, 524287], [(some 104, none), (some 105, none), (some 106, none), (some 107, none), (some 108, none), (some 109, none), (some 110, none), (some 111, none), (some 112, none), (some 113, none), (some 114, some 5001), (some 115, none), (some 116, none), (some 117, none), (some 118, none), (some 103, none), (some 119, none), (some 120, none), (some 4, none), (some 5, none)]), (22, [0, 0, 2, 6, 14, 0, 32, 96, 224, 0, 992, 2016, 4094, 8191, 16383, 32767], [(some 123, none), (some 124, none), (some 125, none), (some 126, none), (some 127, none), (some 128, none), (some 129, none), (some 130, none), (some 131, none), (some 132, none), (some 133, none), (some 134, some 134), (some 135, some 1000000), (some 136, none), (some 137, none), (none, some 5000)]), (26, [0, 1, 3, 7, 0, 0, 32, 112, 0, 0, 752, 2032, 4080, 8191, 16383, 32767, 32767, 65535, 262143], [(some 142, none), (some 143, none), (some 144, none), (some 145, none), (some 146, none), (some 147, none), (some 148, some 5001), (some 149, none), (some 150, some 150), (some 151, none), (some 152, some 5001), (some 153, none), (some 154, none), (some 155, none), (some 141, none), (some 156, none), (some 157, none), (some 4, none), (some 5, none)]), (33, [0, 1, 3, 7, 0, 31, 0, 64, 192, 448, 960, 0, 2048, 6144, 14336, 0, 63488, 129024, 260096, 0, 1046528, 2097088, 4194303, 8388607], [(some 196, none), (some 197, none), (some 198, none), (some 199, none), (some 200, none), (some 201, none), (some 202, none), (some 203, none), (some 204, none), (some 205, none), (some 206, none), (some 207, none), (some 208, none), (some 209, none), (some 210, none), (some 211, none), (some 212, none), (some 213, none), (some 214, none), (some 215, none), (some 216, none), (some 217, none), (some 218, some 218), (some 11, none)]), (34, [0, 1, 3, 7, 0, 0, 0, 64, 192, 511, 1023, 2047, 2047, 4095, 16383], [(some 220, none), (some 221, none), (some 222, none), (some 223, none), (some 224, none), (some 225, none), (some 226, none), (some 227, some 5001), (some 228, none), (some 229, none), (some 219, none), (some 230, none), (some 231, none), (some 4, none), (some 5, none)]), (37, [0, 1, 3, 7, 0, 0, 32, 112, 0, 0, 752, 2032, 4080, 0, 8192, 24576, 57344, 131071, 262143, 524287, 524287, 1048575, 4194303], [(some 235, none), (some 236, none), (some 237, none), (some 238, none), (some 239, none), (some 240, none), (some 241, some 5001), (some 242, none), (some 243, none), (some 244, none), (some 245, some 5001), (some 246, none), (some 247, some 247), (some 248, none), (some 249, none), (some 250, none), (some 251, none), (some 252, none), (some 234, none), (some 253, none), (some 254, none), (some 4, none), (some 5, none)]), (8, [0, 1, 3, 7, 0, 16, 48, 127, 255], [(some 44, none), (some 45, none), (some 46, none), (some 47, none), (some 48, none), (some 49, none), (some 50, none), (some 51, none), (some 14, none)]), (15, [0, 1, 3, 7, 0, 0, 32, 96, 224, 0, 992, 2016, 4064, 0, 8192, 24576, 57344, 122880, 262112, 0, 0, 2097151, 4194303, 8388607, 8388607, 16777215, 67108863], [(some 71, none), (some 72, none), (some 73, none), (some 74, none), (some 75, none), (some 76, none), (some 77, none), (some 78, none), (some 79, none), (some 80, none), (some 81, none), (some 82, none), (some 83, none), (some 84, none), (some 85, none), (some 86, none), (some 87, none), (some 88, none), (some 89, none), (some 90, none), (some 91, none), (some 92, none), (some 70, none), (some 93, none), (some 94, none), (some 4, none), (some 5, none)])]
def dr49 : List (Nat × (List Nat × List (Option Nat × Option Nat))) := []
def dr50 : List (Nat × (List Nat × List (Option Nat × Option Nat))) := []
def dr51 : List (Nat × (List Nat × List (Option Nat × Option Nat))) := []
def dr52 : List (Nat × (List Nat × List (Option Nat × Option Nat))) := []
def dr53 : List (Nat × (List Nat × List (Option Nat × Option Nat))) := []
def dr54 : List (Nat × (List Nat × List (Option Nat × Option Nat))) := [(7, [0, 0, 3, 7, 0, 0, 48, 112, 255], [(some 19, none), (some 20, none), (some 21, none), (some 22, none), (some 23, none), (some 24, none), (some 25, none), (some 26, none), (some 27, none)])]
def dr55 : List (Nat × (List Nat × List (Option Nat × Option Nat))) := []
def dr56 : List (Nat × (List Nat × List (Option Nat × Option Nat))) := []
def dr57 : List (Nat × (List Nat × List (Option Nat × Option Nat))) := []
def dr58 : List (Nat × (List Nat × List (Option Nat × Option Nat))) := []
def dr59 : List (Nat × (List Nat × List (Option Nat × Option Nat))) := []
def dr60 : List (Nat × (List Nat × List (Option Nat × Option Nat))) := []
def dr61 : List (Nat × (List Nat × List (Option Nat × Option Nat))) := [(1, [0, 0, 3, 0, 15, 0, 0, 96, 31, 511], [(some 12, none), (some 13, none), (some 14, none), (some 15, none), (some 16, none), (some 17, none), (some 18, none), (some 19, none), (some 7, none), (some 8, none)])]
def dr62 : List (Nat × (List Nat × List (Option Nat × Option Nat))) := [(6, [0, 0, 2, 7, 15, 31, 31, 127, 255, 511, 31, 31, 3103, 7199, 15391, 32767, 65535], [(some 17, none), (some 18, none), (some 19, none), (some 20, none), (some 21, none), (some 22, none), (some 23, none), (some 24, none), (some 25, none), (some 26, none), (some 27, none), (some 28, none), (some 29, none), (some 30, none), (some 31, none), (some 32, none), (some 33, none)]), (8, [0, 0, 0, 6, 15, 0, 0, 96, 224, 480, 1023, 0, 0, 6144, 16383, 32767], [(some 36, some 36), (some 37, none), (some 38, none), (some 39, none), (some 40, some 36), (some 41, none), (some 42, none), (some 43, none), (some 44, none), (some 45, some 45), (some 46, some 36), (some 47, none), (some 48, none), (some 49, none), (some 50, some 36), (some 5, none)])]
def dr63 : List (Nat × (List Nat × List (Option Nat × Option Nat))) := []
def dr64 : List (Nat × (List Nat × List (Option Nat × Option Nat))) := []
def dr65 : List (Nat × (List Nat × List (Option Nat × Option Nat))) := []
def dr66 : List (Nat × (List Nat × List (Option Nat × Option Nat))) := []
def dr67 : List (Nat × (List Nat × List (Option Nat × Option Nat))) := [(12, [0, 1, 0, 4, 12, 28, 63, 127, 255, 511, 255, 1279, 3327, 7423, 16383, 32767], [(some 35, none), (some 36, none), (some 37, none), (some 38, none), (some 39, none), (some 40, none), (some 41, none), (some 42, none), (some 43, none), (some 44, none), (some 45, none), (some 46, none), (some 47, none), (some 48, none), (some 49, none), (some 50, none)]), (22, [0, 0, 2, 6, 14, 0, 0, 64, 192, 448, 0, 2047, 4095, 8191], [(some 71, none), (some 72, none), (some 73, none), (some 74, none), (some 75, none), (some 76, none), (some 77, none), (some 78, none), (some 79, none), (some 80, none), (some 81, none), (some 82, none), (none, some 4), (some 5, none)])]
def dr68 : List (Nat × (List Nat × List (Option Nat × Option Nat))) := []
def dr69 : List (Nat × (List Nat × List (Option Nat × Option Nat))) := []
def dr70 : List (Nat × (List Nat × List (Option Nat × Option Nat))) := []
def dr71 : List (Nat × (List Nat × List (Option Nat × Option Nat))) := [(6, [0, 0, 3, 7, 15, 0, 0, 64, 224, 480, 992, 2047, 4095, 8191, 8191, 32767, 65535, 131071, 8191, 8191, 532479, 1843199, 3940351, 8134655, 16777215, 33554431], [(some 15, none), (some 16, none), (some 17, none), (some 18, none), (some 19, none), (some 20, none), (some 21, none), (some 22, none), (some 23, none), (some 24, none), (some 25, none), (some 26, none), (some 27, none), (some 28, none), (some 29, none), (some 30, none), (some 31, none), (some 32, none), (some 33, none), (some 34, none), (some 35, none), (some 36, none), (some 37, none), (some 38, none), (some 39, none), (some 40, none)])]
def dr72 : List (Nat × (List Nat × List (Option Nat × Option Nat))) := [(5, [0, 1, 0, 0, 12, 28, 63, 127], [(some 18, none), (some 19, none), (some 20, none), (some 21, none), (some 22, none), (some 23, none), (some 24, none), (some 10, none)])]
def dr73 : List (Nat × (List Nat × List (Option Nat × Option Nat))) := []
def dr74 : List (Nat × (List Nat × List (Option Nat × Option Nat))) := []
def dr75 : List (Nat × (List Nat × List (Option Nat × Option Nat))) := [(4, [0, 1, 3, 7, 7, 23, 63, 127, 255, 7, 519, 2047, 4095, 8191, 16383, 16383, 49151, 131071, 262143, 524287, 16383, 1064959, 4194303, 8388607], [(some 14, none), (some 15, none), (some 16, none), (some 17, none), (some 18, none), (some 19, none), (some 20, none), (some 21, none), (some 22, none), (some 23, none), (some 24, none), (some 25, none), (some 26, none), (some 27, none), (some 28, none), (some 29, none), (some 30, none), (some 31, none), (some 32, none), (some 33, none), (some 34, none), (some 35, none), (some 36, none), (some 37, none)])]
def dr76 : List (Nat × (List Nat × List (Option Nat × Option Nat))) := []
def dr77 : List (Nat × (List Nat × List (Option Nat × Option Nat))) := []
def dr78 : List (Nat × (List Nat × List (Option Nat × Option Nat))) := []
def dr79 : List (Nat × (List Nat × List (Option Nat × Option Nat))) := []
def dr80 : List (Nat × (List Nat × List (Option Nat × Option Nat))) := []
def dr81 : List (Nat × (List Nat × List (Option Nat × Option Nat))) := [(3, [0, 1, 3, 7, 0, 0, 32, 96, 224, 480, 1008, 2047, 4095, 8191, 16383], [(some 11, none), (some 12, none), (some 13, none), (some 14, none), (some 15, none), (some 16, none), (some 17, none), (some 18, none), (some 19, none), (some 20, none), (some 21, none), (some 22, none), (some 23, none), (some 24, none), (some 4, none)])]
def dr82 : List (Nat × (List Nat × List (Option Nat × Option Nat))) := [(2, [0, 1, 3, 7, 15, 0, 32, 96, 224, 0, 512, 1536, 3584, 8160, 0, 32767, 0, 65536, 196608, 458752, 0, 1048576, 3145728, 7340032, 16711680, 0, 33554432, 100663296, 234881024, 503316480, 0, 2147418112, 0, 4294967296, 12884901888, 30064771072, 64424509440, 0, 137438953472, 412316860416, 962072674304, 0, 2199023255552, 6597069766656, 15393162788864, 35046933135360, 0, 140733193388032, 281474976710655, 562949953421311], [(some 3, none), (some 4, none), (some 5, none), (some 6, none), (some 7, some 7), (some 8, none), (some 9, none), (some 10, none), (some 11, none), (some 12, none), (some 13, none), (some 14, none), (some 15, none), (some 16, some 16), (some 17, some 17), (some 18, none), (some 19, none), (some 20, none), (some 21, none), (some 22, none), (some 23, none), (some 24, none), (some 25, none), (some 26, none), (some 27, some 27), (some 28, none), (some 29, none), (some 30, none), (some 31, none), (some 32, some 32), (some 33, some 33), (some 34, none), (some 35, none), (some 36, none), (some 37, none), (some 38, none), (some 39, some 39), (some 40, none), (some 41, none), (some 42, none), (some 43, none), (some 44, none), (some 45, none), (some 46, none), (some 47, none), (some 48, some 48), (some 49, some 49), (some 50, none), (some 51, some 51), (some 0, none)])]
def dr83 : List (Nat × (List Nat × List (Option Nat × Option Nat))) := [(21, [0, 0, 3, 0, 0, 24, 56, 127], [(some 106, none), (some 107, none), (some 108, none), (some 109, none), (some 110, none), (some 111, none), (some 112, none), (some 113, none)]), (26, [0, 0, 3, 0, 0, 24, 56, 127, 255, 511, 511, 511, 3583, 7679, 16383, 32767], [(some 120, none), (some 121, none), (some 122, none), (some 123, none), (some 124, none), (some 125, none), (some 126, none), (some 127, none), (some 128, none), (some 129, none), (some 130, none), (some 131, none), (some 132, none), (some 133, none), (some 134, none), (some 135, none)]), (48, [0, 0, 2, 0, 14, 30, 62, 127, 0, 0, 512, 0, 3584, 7680, 15872, 32512, 65535], [(some 213, none), (some 214, none), (some 215, none), (some 216, none), (some 217, none), (some 218, none), (some 219, none), (some 220, none), (some 221, none), (some 222, none), (some 223, none), (some 224, none), (some 225, none), (some 226, none), (some 227, none), (some 228, none), (some 229, none)]), (61, [0, 0, 0, 6, 14, 30, 63, 0, 0, 384, 896, 1920, 4095, 8191], [(some 261, none), (some 262, none), (some 263, none), (some 264, none), (some 265, none), (some 266, none), (some 267, none), (some 268, none), (some 269, none), (some 270, none), (some 271, none), (some 272, none), (some 273, none), (some 26, none)]), (73, [0, 0, 3, 7, 0, 16, 0, 112, 240, 496, 0, 0, 2048, 0, 14336, 30720, 63488, 130048, 0, 0, 0, 0, 3670016, 8388607, 0, 33554431], [(some 305, none), (some 306, none), (some 307, none), (some 308, none), (some 309, none), (some 310, none), (some 311, none), (some 312, none), (some 313, none), (some 314, none), (some 315, none), (some 316, none), (some 317, none), (some 318, none), (some 319, none), (some 320, none), (some 321, none), (some 322, none), (some 323, none), (some 324, none), (some 325, none), (some 326, none), (some 327, none), (some 328, none), (some 35, some 35), (none, some 35)])]
def dr84 : List (Nat × (List Nat × List (Option Nat × Option Nat))) := []
def dr85 : List (Nat × (List Nat × List (Option Nat × Option Nat))) := []
def dr86 : List (Nat × (List Nat × List (Option Nat × Option Nat))) := []
def dr87 : List (Nat × (List Nat × List (Option Nat × Option Nat))) := []
def dr88 : List (Nat × (List Nat × List (Option Nat × Option Nat))) := []
def dr89 : List (Nat × (List Nat × List (Option Nat × Option Nat))) := []
def dr90 : List (Nat × (List Nat × List (Option Nat × Option Nat))) := []
def dr91 : List (Nat × (List Nat × List (Option Nat × Option Nat))) := []
def dr92 : List (Nat × (List Nat × List (Option Nat × Option Nat))) := []
def dr93 : List (Nat × (List Nat × List (Option Nat × Option Nat))) := [(1, [0, 1, 0, 4, 15, 0, 32, 0, 128, 511, 1023, 2047, 4095], [(some 5, none), (some 6, none), (some 7, none), (some 8, none), (some 9, none), (some 10, none), (some 11, none), (some 12, none), (some 13, none), (some 14, none), (some 15, some 15), (some 16, none), (some 4, none)])]
def dr94 : List (Nat × (List Nat × List (Option Nat × Option Nat))) := []
def dr95 : List (Nat × (List Nat × List (Option Nat × Option Nat))) := []
def dr96 : List (Nat × (List Nat × List (Option Nat × Option Nat))) := []
def dr97 : List (Nat × (List Nat × List (Option Nat × Option Nat))) := []
def dr98 : List (Nat × (List Nat × List (Option Nat × Option Nat))) := []
def dr99 : List (Nat × (List Nat × List (Option Nat × Option Nat))) := []
def dr100 : List (Nat × (List Nat × List (Option Nat × Option Nat))) := []
def dr101 : List (Nat × (List Nat × List (Option Nat × Option Nat))) := []
def dr102 : List (Nat × (List Nat × List (Option Nat × Option Nat))) := []
def dr103 : List (Nat × (List Nat × List (Option Nat × Option Nat))) := [(6, [0, 0, 3, 7, 15, 0, 0, 96, 224, 480, 1023, 2047], [(some 21, none), (some 22, none), (some 23, none), (some 24, none), (some 25, none), (some 26, none), (some 27, none), (some 28, none), (some 29, none), (some 30, none), (some 31, none), (some 10, none)]), (10, [0, 0, 3, 7, 15, 0, 0, 96, 224, 480, 0, 2016, 0, 0, 12288, 28672, 61440, 0, 258048, 524287, 0, 2097151], [(some 47, none), (some 48, none), (some 49, none), (some 50, none), (some 51, none), (some 52, none), (some 53, none), (some 54, none), (some 55, none), (some 56, none), (some 57, none), (some 58, none), (some 59, none), (some 60, none), (some 61, none), (some 62, none), (some 63, none), (some 64, none), (some 65, none), (some 66, none), (some 13, some 13), (none, some 13)]), (12, [0, 1, 3, 7, 7, 23, 63, 127, 255, 7, 519, 2047, 4095, 8191, 16383, 16383, 49151, 131071, 262143, 524287, 16383, 1064959, 4194303, 8388607], [(some 69, none), (some 70, none), (some 71, none), (some 72, none), (some 73, none), (some 74, none), (some 75, none), (some 76, none), (some 77, none), (some 78, none), (some 79, none), (some 80, none), (some 81, none), (some 82, none), (some 83, none), (some 84, none), (some 85, none), (some 86, none), (some 87, none), (some 88, none), (some 89, none), (some 90, none), (some 91, none), (some 92, none)])]
def dr104 : List (Nat × (List Nat × List (Option Nat × Option Nat))) := []
def dr106 : List (Nat × (List Nat × List (Option Nat × Option Nat))) := []
def dr107 : List (Nat × (List Nat × List (Option Nat × Option Nat))) := []
def dr108 : List (Nat × (List Nat × List (Option Nat × Option Nat))) := []
def dr109 : List (Nat × (List Nat × List (Option Nat × Option Nat))) := []
def dr110 : List (Nat × (List Nat × List (Option Nat × Option Nat))) := []
def dr112 : List (Nat × (List Nat × List (Option Nat × Option Nat))) := []
def dr113 : List (Nat × (List Nat × List (Option Nat × Option Nat))) := []
def dr114 : List (Nat × (List Nat × List (Option Nat × Option Nat))) := []
def dr115 : List (Nat × (List Nat × List (Option Nat × Option Nat))) := []
def dr116 : List (Nat × (List Nat × List (Option Nat × Option Nat))) := [(4, [0, 0, 3, 7, 15, 31, 63, 127, 255, 255, 1023, 2047, 4095, 8191, 16383, 32767, 65535, 65535, 262143, 524287, 1048575, 2097151, 4194303, 8388607, 16777215, 33554431, 67108863, 134217727, 134217727, 536870911, 1073741823, 2147483647, 134217727, 134217727, 8724152319, 30198988799, 64558727167, 133278203903, 274877906943, 549755813887, 1099511627775], [(some 10, none), (some 11, none), (some 12, none), (some 13, none), (some 14, none), (some 15, none), (some 16, none), (some 17, none), (some 18, none), (some 19, none), (some 20, none), (some 21, none), (some 22, none), (some 23, none), (some 24, none), (some 25, none), (some 26, none), (some 27, none), (some 28, none), (some 29, none), (some 30, none), (some 31, none), (some 32, none), (some 33, none), (some 34, none), (some 35, none), (some 36, none), (some 37, none), (some 38, none), (some 39, none), (some 40, none), (some 41, none), (some 42, none), (some 43, none), (some 44, none), (some 45, none), (some 46, none), (some 47, none), (some 48, none), (some 49, none), (some 50, none)])]
def dr125 : List (Nat × (List Nat × List (Option Nat × Option Nat))) := []
def dr126 : List (Nat × (List Nat × List (Option Nat × Option Nat))) := []
def dr128 : List (Nat × (List Nat × List (Option Nat × Option Nat))) := []
def dr129 : List (Nat × (List Nat × List (Option Nat × Option Nat))) := []
def dr138 : List (Nat × (List Nat × List (Option Nat × Option Nat))) := []
def dr141 : List (Nat × (List Nat × List (Option Nat × Option Nat))) := []
def dr145 : List (Nat × (List Nat × List (Option Nat × Option Nat))) := []
def dr163 : List (Nat × (List Nat × List (Option Nat × Option Nat))) := []
def dr164 : List (Nat × (List Nat × List (Option Nat × Option Nat))) := []
def dr165 : List (Nat × (List Nat × List (Option Nat × Option Nat))) := []
def dr166 : List (Nat × (List Nat × List (Option Nat × Option Nat))) := []
def dr167 : List (Nat × (List Nat × List (Option Nat × Option Nat))) := []
def dr168 : List (Nat × (List Nat × List (Option Nat × Option Nat))) := []
def dr169 : List (Nat × (List Nat × List (Option Nat × Option Nat))) := []
def dr170 : List (Nat × (List Nat × List (Option Nat × Option Nat))) := []
def dr171 : List (Nat × (List Nat × List (Option Nat × Option Nat))) := []
def dr172 : List (Nat × (List Nat × List (Option Nat × Option Nat))) := []
def dr173 : List (Nat × (List Nat × List (Option Nat × Option Nat))) := []
def dr174 : List (Nat × (List Nat × List (Option Nat × Option Nat))) := []
def dr175 : List (Nat × (List Nat × List (Option Nat × Option Nat))) := []
def dr176 : List (Nat × (List Nat × List (Option Nat × Option Nat))) := []
def dr177 : List (Nat × (List Nat × List (Option Nat × Option Nat))) := []
def dr178 : List (Nat × (List Nat × List (Option Nat × Option Nat))) := []
def dr179 : List (Nat × (List Nat × List (Option Nat × Option Nat))) := []
def dr180 : List (Nat × (List Nat × List (Option Nat × Option Nat))) := []
end Go.Proofs.YtleknjngglhmaaaGreat
