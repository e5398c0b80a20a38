/- The types of the seat's program that are wanted, and its regions that draw their order (written by a program of mine). -/
import Derived.Test.YteilknlokjfelaaRows
import Derived.Test.YteilknlokjfelaaVs
import Derived.KernelRfl
namespace Go.Proofs.Yteilknlokjfelaa
open Go Go.RowKit
set_option linter.unusedVariables false
set_option linter.unusedSimpArgs false

def ti3 : TI := ⟨.int .i64, 1, .int .i64 0⟩
theorem tio3 : TIok Try.prog 3 ti3 := TIok.mk Try.underlying3 rfl (fun _ h => by cases h) (by kernel_rfl) (Try.underlying3)
def ti4 : TI := ⟨.bool, 1, .bool false⟩
theorem tio4 : TIok Try.prog 4 ti4 := TIok.mk Try.underlying4 rfl (fun _ h => by cases h) (by kernel_rfl) (Try.underlying4)
def ti5 : TI := ⟨.int .u8, 1, .int .u8 0⟩
theorem tio5 : TIok Try.prog 5 ti5 := TIok.mk Try.underlying5 rfl (fun _ h => by cases h) (by kernel_rfl) (Try.underlying5)
def ti9 : TI := ⟨.str, 1, .string ByteArray.empty⟩
theorem tio9 : TIok Try.prog 9 ti9 := TIok.mk Try.underlying9 rfl (fun _ h => by cases h) (by kernel_rfl) (Try.underlying9)
def ti22 : TI := ⟨.slice 3 1 8 (.int .i64 0), 1, .slice none 0 0⟩
theorem tio22 : TIok Try.prog 22 ti22 := TIok.mk Try.underlying22 rfl (fun _ h => by cases h) (by kernel_rfl) (slice_ok Try.underlying22 (by kernel_rfl))
def ti23 : TI := ⟨.slice 39 2 16 (.agg #[.int .i64 0, .int .i64 0]), 1, .slice none 0 0⟩
theorem tio23 : TIok Try.prog 23 ti23 := TIok.mk Try.underlying23 rfl (fun _ h => by cases h) (by kernel_rfl) (slice_ok Try.underlying23 (by kernel_rfl))
def ti25 : TI := ⟨.struct [(0, 1), (1, 1), (2, 1), (3, 1)], 4, .agg #[.int .i64 0, .int .i64 0, .int .i64 0, .slice none 0 0]⟩
theorem tio25 : TIok Try.prog 25 ti25 := TIok.mk Try.underlying25 rfl (fun _ h => by cases h) (by kernel_rfl) (fields_ok Try.underlying25 (by kernel_rfl))
def ti27 : TI := ⟨.int .i64, 1, .int .i64 0⟩
theorem tio27 : TIok Try.prog 27 ti27 := TIok.mk Try.underlying27 rfl (fun _ h => by cases h) (by kernel_rfl) (Try.underlying27)
def ti39 : TI := ⟨.struct [(0, 1), (1, 1)], 2, .agg #[.int .i64 0, .int .i64 0]⟩
theorem tio39 : TIok Try.prog 39 ti39 := TIok.mk Try.underlying39 rfl (fun _ h => by cases h) (by kernel_rfl) (fields_ok Try.underlying39 (by kernel_rfl))
def ti45 : TI := ⟨.slice 72 3 24 (.agg #[.int .i64 0, .int .i64 0, .int .i64 0]), 1, .slice none 0 0⟩
theorem tio45 : TIok Try.prog 45 ti45 := TIok.mk Try.underlying45 rfl (fun _ h => by cases h) (by kernel_rfl) (slice_ok Try.underlying45 (by kernel_rfl))
def ti47 : TI := ⟨.slice 27 1 8 (.int .i64 0), 1, .slice none 0 0⟩
theorem tio47 : TIok Try.prog 47 ti47 := TIok.mk Try.underlying47 rfl (fun _ h => by cases h) (by kernel_rfl) (slice_ok Try.underlying47 (by kernel_rfl))
def ti52 : TI := ⟨.cell, 1, .pointer none⟩
theorem tio52 : TIok Try.prog 52 ti52 := TIok.mk Try.underlying52 rfl (fun _ h => by cases h) (by kernel_rfl) (trivial)
def ti55 : TI := ⟨.struct [(0, 1), (1, 1)], 2, .agg #[.slice none 0 0, .int .i64 0]⟩
theorem tio55 : TIok Try.prog 55 ti55 := TIok.mk Try.underlying55 rfl (fun _ h => by cases h) (by kernel_rfl) (fields_ok Try.underlying55 (by kernel_rfl))
def ti59 : TI := ⟨.int .u64, 1, .int .u64 0⟩
theorem tio59 : TIok Try.prog 59 ti59 := TIok.mk Try.underlying59 rfl (fun _ h => by cases h) (by kernel_rfl) (Try.underlying59)
def ti62 : TI := ⟨.int .i64, 1, .int .i64 0⟩
theorem tio62 : TIok Try.prog 62 ti62 := TIok.mk Try.underlying62 rfl (fun _ h => by cases h) (by kernel_rfl) (Try.underlying62)
def ti72 : TI := ⟨.struct [(0, 1), (1, 1), (2, 1)], 3, .agg #[.int .i64 0, .int .i64 0, .int .i64 0]⟩
theorem tio72 : TIok Try.prog 72 ti72 := TIok.mk Try.underlying72 rfl (fun _ h => by cases h) (by kernel_rfl) (fields_ok Try.underlying72 (by kernel_rfl))
def ti76 : TI := ⟨.struct [(0, 1), (1, 1)], 2, .agg #[.int .u64 0, .int .u64 0]⟩
theorem tio76 : TIok Try.prog 76 ti76 := TIok.mk Try.underlying76 rfl (fun _ h => by cases h) (by kernel_rfl) (fields_ok Try.underlying76 (by kernel_rfl))
def ti84 : TI := ⟨.int .u64, 1, .int .u64 0⟩
theorem tio84 : TIok Try.prog 84 ti84 := TIok.mk Try.underlying84 rfl (fun _ h => by cases h) (by kernel_rfl) (Try.underlying84)
def tT : List (Nat × TI) := [(3, ti3), (4, ti4), (5, ti5), (9, ti9), (22, ti22), (23, ti23), (25, ti25), (27, ti27), (39, ti39), (45, ti45), (47, ti47), (52, ti52), (55, ti55), (59, ti59), (62, ti62), (72, ti72), (76, ti76), (84, ti84)]
theorem tT_ok : ∀ t ti, lk t tT = some ti → TIok Try.prog t ti := tiAll [(3, ti3), (4, ti4), (5, ti5), (9, ti9), (22, ti22), (23, ti23), (25, ti25), (27, ti27), (39, ti39), (45, ti45), (47, ti47), (52, ti52), (55, ti55), (59, ti59), (62, ti62), (72, ti72), (76, ti76), (84, ti84)] (⟨tio3, ⟨tio4, ⟨tio5, ⟨tio9, ⟨tio22, ⟨tio23, ⟨tio25, ⟨tio27, ⟨tio39, ⟨tio45, ⟨tio47, ⟨tio52, ⟨tio55, ⟨tio59, ⟨tio62, ⟨tio72, ⟨tio76, ⟨tio84, trivial⟩⟩⟩⟩⟩⟩⟩⟩⟩⟩⟩⟩⟩⟩⟩⟩⟩⟩)
theorem mixed : Try.prog.follows .mixedOrders = true := by kernel_rfl
def dr0 : List (Nat × (List Nat × List (Option Nat × Option Nat))) := []
def dr1 : List (Nat × (List Nat × List (Option Nat × Option Nat))) := []
def dr2 : List (Nat × (List Nat × List (Option Nat × Option Nat))) := []
def dr3 : List (Nat × (List Nat × List (Option Nat × Option Nat))) := [(4, [0, 1, 0, 7, 15, 31, 63, 127, 63, 511, 1023, 2047, 4095, 8191, 16383, 32767], [(some 13, none), (some 14, none), (some 15, none), (some 16, none), (some 17, none), (some 18, none), (some 19, none), (some 20, none), (some 21, none), (some 22, none), (some 23, none), (some 24, none), (some 25, none), (some 26, none), (some 27, none), (some 6, none)])]
def dr4 : List (Nat × (List Nat × List (Option Nat × Option Nat))) := []
def dr5 : List (Nat × (List Nat × List (Option Nat × Option Nat))) := [(24, [0, 0, 2, 6, 15, 31, 63, 127, 63, 511, 1023, 63, 2111, 63, 14399, 30783, 65535, 131071], [(some 123, none), (some 124, none), (some 125, none), (some 126, none), (some 127, none), (some 128, none), (some 129, none), (some 130, none), (some 131, none), (some 132, none), (some 133, none), (some 134, none), (some 135, none), (some 136, none), (some 137, none), (some 138, none), (some 139, none), (some 140, none)])]
def dr6 : List (Nat × (List Nat × List (Option Nat × Option Nat))) := [(2, [0, 0, 2, 7, 15, 31, 31, 0, 191, 511], [(some 13, none), (some 14, none), (some 15, none), (some 16, none), (some 12, none), (some 17, none), (some 18, none), (some 6, some 6), (none, some 6), (some 7, none)])]
def dr7 : List (Nat × (List Nat × List (Option Nat × Option Nat))) := []
def dr8 : List (Nat × (List Nat × List (Option Nat × Option Nat))) := []
def dr9 : List (Nat × (List Nat × List (Option Nat × Option Nat))) := [(9, [0, 0, 0, 0, 8, 30, 63, 127, 255, 255, 0, 1535, 4095], [(some 34, none), (some 35, none), (some 36, none), (some 37, none), (some 38, none), (some 39, none), (some 40, none), (some 33, none), (some 41, none), (some 42, none), (some 12, some 12), (none, some 12), (some 13, none)])]
def dr10 : List (Nat × (List Nat × List (Option Nat × Option Nat))) := [(9, [0, 1, 0, 4, 15, 31, 63], [(some 49, none), (some 50, none), (some 51, none), (some 52, some 10), (some 53, none), (some 54, none), (none, some 4)])]
def dr11 : List (Nat × (List Nat × List (Option Nat × Option Nat))) := [(14, [0, 1, 0, 7, 15, 31, 0, 64, 0, 256, 960, 1984, 4032, 8191], [(some 71, none), (some 72, none), (some 73, none), (some 74, none), (some 75, none), (some 76, none), (some 77, none), (some 78, none), (some 79, none), (some 80, none), (some 81, none), (some 82, none), (some 83, none), (some 84, none)]), (16, [0, 1, 3, 0, 8, 31], [(some 85, none), (some 86, none), (some 87, none), (some 88, none), (some 89, none), (some 90, none)])]
def dr12 : List (Nat × (List Nat × List (Option Nat × Option Nat))) := [(16, [0, 1, 0, 7, 15, 31, 0, 64, 0, 256, 960, 1984, 4032, 8191], [(some 80, none), (some 81, none), (some 82, none), (some 83, none), (some 84, none), (some 85, none), (some 86, none), (some 87, none), (some 88, none), (some 89, none), (some 90, none), (some 91, none), (some 92, none), (some 93, none)])]
def dr13 : List (Nat × (List Nat × List (Option Nat × Option Nat))) := []
def dr14 : List (Nat × (List Nat × List (Option Nat × Option Nat))) := []
def dr15 : List (Nat × (List Nat × List (Option Nat × Option Nat))) := []
def dr16 : List (Nat × (List Nat × List (Option Nat × Option Nat))) := []
def dr17 : List (Nat × (List Nat × List (Option Nat × Option Nat))) := []
def dr18 : List (Nat × (List Nat × List (Option Nat × Option Nat))) := []
def dr19 : List (Nat × (List Nat × List (Option Nat × Option Nat))) := [(16, [0, 1, 3, 0, 8, 31], [(some 75, none), (some 76, none), (some 77, none), (some 78, none), (some 79, none), (some 80, none)])]
def dr20 : List (Nat × (List Nat × List (Option Nat × Option Nat))) := []
def dr21 : List (Nat × (List Nat × List (Option Nat × Option Nat))) := []
def dr22 : List (Nat × (List Nat × List (Option Nat × Option Nat))) := [(11, [0, 1, 0, 7, 0, 16, 63], [(some 58, none), (some 59, none), (some 60, none), (some 61, none), (some 62, none), (some 63, none), (some 64, none)])]
def dr23 : List (Nat × (List Nat × List (Option Nat × Option Nat))) := []
def dr24 : List (Nat × (List Nat × List (Option Nat × Option Nat))) := []
def dr25 : List (Nat × (List Nat × List (Option Nat × Option Nat))) := []
def dr26 : List (Nat × (List Nat × List (Option Nat × Option Nat))) := []
def dr27 : List (Nat × (List Nat × List (Option Nat × Option Nat))) := []
def dr28 : List (Nat × (List Nat × List (Option Nat × Option Nat))) := [(11, [0, 0, 0, 6, 14, 30, 0, 0, 192, 448, 960, 2047, 4095, 8191, 8191, 16383, 65535], [(some 28, none), (some 29, none), (some 30, none), (some 31, none), (some 32, none), (some 33, none), (some 34, none), (some 35, none), (some 36, none), (some 37, none), (some 38, none), (some 39, none), (some 27, none), (some 40, none), (some 41, none), (none, some 8), (some 9, none)]), (13, [0, 0, 0, 6, 14, 30, 63, 127, 255, 255, 511, 2047], [(some 45, none), (some 46, none), (some 47, none), (some 48, none), (some 49, none), (some 50, none), (some 51, none), (some 44, none), (some 52, none), (some 53, none), (none, some 8), (some 9, none)]), (15, [0, 0, 0, 6, 14, 30, 63, 127, 255, 255, 511, 2047], [(some 57, none), (some 58, none), (some 59, none), (some 60, none), (some 61, none), (some 62, none), (some 63, none), (some 56, none), (some 64, none), (some 65, none), (none, some 8), (some 9, none)])]
def dr29 : List (Nat × (List Nat × List (Option Nat × Option Nat))) := [(6, [0, 0, 3, 7, 0, 0, 48, 112, 255], [(some 17, none), (some 18, none), (some 19, none), (some 20, none), (some 21, none), (some 22, none), (some 23, none), (some 24, none), (some 25, none)])]
def dr30 : List (Nat × (List Nat × List (Option Nat × Option Nat))) := []
def dr31 : List (Nat × (List Nat × List (Option Nat × Option Nat))) := [(1, [0, 1, 3, 7, 0, 16, 48, 112, 240, 511], [(some 5, none), (some 6, none), (some 7, none), (some 8, none), (some 9, none), (some 10, none), (some 11, none), (some 12, none), (some 13, none), (some 14, none)]), (4, [0, 1, 3, 7, 0, 16, 48, 112, 240, 511, 1023, 0, 4095, 8191], [(some 22, none), (some 23, none), (some 24, none), (some 25, none), (some 26, none), (some 27, none), (some 28, none), (some 29, none), (some 30, none), (some 31, none), (some 32, none), (some 33, none), (some 34, none), (some 4, none)])]
def dr32 : List (Nat × (List Nat × List (Option Nat × Option Nat))) := [(1, [0, 1, 3, 7, 0, 16, 48, 112, 240, 511, 1023], [(some 3, none), (some 4, none), (some 5, none), (some 6, none), (some 7, none), (some 8, none), (some 9, none), (some 10, none), (some 11, none), (some 12, none), (some 2, none)])]
def dr33 : List (Nat × (List Nat × List (Option Nat × Option Nat))) := []
def dr34 : List (Nat × (List Nat × List (Option Nat × Option Nat))) := []
def dr35 : List (Nat × (List Nat × List (Option Nat × Option Nat))) := []
def dr36 : List (Nat × (List Nat × List (Option Nat × Option Nat))) := []
def dr37 : List (Nat × (List Nat × List (Option Nat × Option Nat))) := []
def dr38 : List (Nat × (List Nat × List (Option Nat × Option Nat))) := [(6, [0, 0, 3, 7, 0, 0, 48, 112, 255], [(some 17, none), (some 18, none), (some 19, none), (some 20, none), (some 21, none), (some 22, none), (some 23, none), (some 24, none), (some 25, none)])]
def dr39 : List (Nat × (List Nat × List (Option Nat × Option Nat))) := []
def dr40 : List (Nat × (List Nat × List (Option Nat × Option Nat))) := [(2, [0, 0, 2, 7, 15, 31, 31, 127, 255, 511, 31, 1055, 4095, 8191], [(some 6, none), (some 7, none), (some 8, none), (some 9, none), (some 10, none), (some 11, none), (some 12, none), (some 13, none), (some 14, none), (some 15, none), (some 16, none), (some 17, none), (some 18, none), (some 19, none)]), (4, [0, 0, 0, 6, 15, 0, 32, 127, 0, 0, 768, 2047, 4095], [(some 22, some 22), (some 23, none), (some 24, none), (some 25, none), (some 26, some 22), (some 27, none), (some 28, some 28), (some 29, some 22), (some 30, none), (some 31, none), (some 32, none), (some 33, some 22), (some 4, none)])]
def dr41 : List (Nat × (List Nat × List (Option Nat × Option Nat))) := []
def dr42 : List (Nat × (List Nat × List (Option Nat × Option Nat))) := []
def dr43 : List (Nat × (List Nat × List (Option Nat × Option Nat))) := []
def dr44 : List (Nat × (List Nat × List (Option Nat × Option Nat))) := []
def dr45 : List (Nat × (List Nat × List (Option Nat × Option Nat))) := []
def dr46 : List (Nat × (List Nat × List (Option Nat × Option Nat))) := []
def dr47 : List (Nat × (List Nat × List (Option Nat × Option Nat))) := []
def dr48 : List (Nat × (List Nat × List (Option Nat × Option Nat))) := [(6, [0, 0, 3, 0, 0, 24, 7, 127], [(some 28, none), (some 29, none), (some 30, none), (some 31, none), (some 32, none), (some 33, none), (some 6, none), (some 7, none)])]
def dr49 : List (Nat × (List Nat × List (Option Nat × Option Nat))) := []
def dr50 : List (Nat × (List Nat × List (Option Nat × Option Nat))) := []
def dr51 : List (Nat × (List Nat × List (Option Nat × Option Nat))) := []
def dr52 : List (Nat × (List Nat × List (Option Nat × Option Nat))) := []
def dr53 : List (Nat × (List Nat × List (Option Nat × Option Nat))) := []
def dr54 : List (Nat × (List Nat × List (Option Nat × Option Nat))) := []
def dr55 : List (Nat × (List Nat × List (Option Nat × Option Nat))) := []
def dr56 : List (Nat × (List Nat × List (Option Nat × Option Nat))) := []
def dr57 : List (Nat × (List Nat × List (Option Nat × Option Nat))) := []
def dr58 : List (Nat × (List Nat × List (Option Nat × Option Nat))) := []
def dr59 : List (Nat × (List Nat × List (Option Nat × Option Nat))) := []
def dr60 : List (Nat × (List Nat × List (Option Nat × Option Nat))) := []
def dr61 : List (Nat × (List Nat × List (Option Nat × Option Nat))) := []
def dr62 : List (Nat × (List Nat × List (Option Nat × Option Nat))) := []
def dr63 : List (Nat × (List Nat × List (Option Nat × Option Nat))) := []
def dr64 : List (Nat × (List Nat × List (Option Nat × Option Nat))) := []
def dr65 : List (Nat × (List Nat × List (Option Nat × Option Nat))) := []
def dr66 : List (Nat × (List Nat × List (Option Nat × Option Nat))) := []
def dr67 : List (Nat × (List Nat × List (Option Nat × Option Nat))) := []
def dr68 : List (Nat × (List Nat × List (Option Nat × Option Nat))) := []
def dr69 : List (Nat × (List Nat × List (Option Nat × Option Nat))) := []
def dr70 : List (Nat × (List Nat × List (Option Nat × Option Nat))) := []
end Go.Proofs.Yteilknlokjfelaa
