/- The types of the seat's program that are wanted, and its regions that draw their order (written by a program of mine). -/
import Derived.Test.YtdibfkncofckiaaRows
import Derived.Test.YtdibfkncofckiaaVs
import Derived.KernelRfl
namespace Go.Proofs.Ytdibfkncofckiaa
open Go Go.RowKit
set_option linter.unusedVariables false
set_option linter.unusedSimpArgs false

def ti3 : TI := ⟨.int .i64, 1, .int .i64 0⟩
theorem tio3 : TIok Try.prog 3 ti3 := TIok.mk Try.underlying3 rfl (fun _ h => by cases h) (by kernel_rfl) (Try.underlying3)
def ti5 : TI := ⟨.int .u8, 1, .int .u8 0⟩
theorem tio5 : TIok Try.prog 5 ti5 := TIok.mk Try.underlying5 rfl (fun _ h => by cases h) (by kernel_rfl) (Try.underlying5)
def ti9 : TI := ⟨.str, 1, .string ByteArray.empty⟩
theorem tio9 : TIok Try.prog 9 ti9 := TIok.mk Try.underlying9 rfl (fun _ h => by cases h) (by kernel_rfl) (Try.underlying9)
def ti23 : TI := ⟨.int .i64, 1, .int .i64 0⟩
theorem tio23 : TIok Try.prog 23 ti23 := TIok.mk Try.underlying23 rfl (fun _ h => by cases h) (by kernel_rfl) (Try.underlying23)
def ti29 : TI := ⟨.slice 3 1 8 (.int .i64 0), 1, .slice none 0 0⟩
theorem tio29 : TIok Try.prog 29 ti29 := TIok.mk Try.underlying29 rfl (fun _ h => by cases h) (by kernel_rfl) (slice_ok Try.underlying29 (by kernel_rfl))
def ti30 : TI := ⟨.slice 46 3 24 (.agg #[.int .i64 0, .int .i64 0, .int .i64 0]), 1, .slice none 0 0⟩
theorem tio30 : TIok Try.prog 30 ti30 := TIok.mk Try.underlying30 rfl (fun _ h => by cases h) (by kernel_rfl) (slice_ok Try.underlying30 (by kernel_rfl))
def ti31 : TI := ⟨.slice 39 3 24 (.agg #[.int .i64 0, .int .i64 0, .int .i64 0]), 1, .slice none 0 0⟩
theorem tio31 : TIok Try.prog 31 ti31 := TIok.mk Try.underlying31 rfl (fun _ h => by cases h) (by kernel_rfl) (slice_ok Try.underlying31 (by kernel_rfl))
def ti33 : TI := ⟨.cell, 1, .pointer none⟩
theorem tio33 : TIok Try.prog 33 ti33 := TIok.mk Try.underlying33 rfl (fun _ h => by cases h) (by kernel_rfl) (trivial)
def ti35 : TI := ⟨.struct [(0, 1), (1, 1)], 2, .agg #[.slice none 0 0, .int .i64 0]⟩
theorem tio35 : TIok Try.prog 35 ti35 := TIok.mk Try.underlying35 rfl (fun _ h => by cases h) (by kernel_rfl) (fields_ok Try.underlying35 (by kernel_rfl))
def ti39 : TI := ⟨.struct [(0, 1), (1, 1), (2, 1)], 3, .agg #[.int .i64 0, .int .i64 0, .int .i64 0]⟩
theorem tio39 : TIok Try.prog 39 ti39 := TIok.mk Try.underlying39 rfl (fun _ h => by cases h) (by kernel_rfl) (fields_ok Try.underlying39 (by kernel_rfl))
def ti46 : TI := ⟨.struct [(0, 1), (1, 1), (2, 1)], 3, .agg #[.int .i64 0, .int .i64 0, .int .i64 0]⟩
theorem tio46 : TIok Try.prog 46 ti46 := TIok.mk Try.underlying46 rfl (fun _ h => by cases h) (by kernel_rfl) (fields_ok Try.underlying46 (by kernel_rfl))
def ti48 : TI := ⟨.arr 4 3 1, 4, .agg #[.int .i64 0, .int .i64 0, .int .i64 0, .int .i64 0]⟩
theorem tio48 : TIok Try.prog 48 ti48 := TIok.mk Try.underlying48 rfl (fun _ h => by cases h) (by kernel_rfl) (arr_ok Try.underlying48 (by kernel_rfl))
def ti50 : TI := ⟨.int .u64, 1, .int .u64 0⟩
theorem tio50 : TIok Try.prog 50 ti50 := TIok.mk Try.underlying50 rfl (fun _ h => by cases h) (by kernel_rfl) (Try.underlying50)
def ti53 : TI := ⟨.int .i64, 1, .int .i64 0⟩
theorem tio53 : TIok Try.prog 53 ti53 := TIok.mk Try.underlying53 rfl (fun _ h => by cases h) (by kernel_rfl) (Try.underlying53)
def ti64 : TI := ⟨.struct [(0, 1), (1, 1)], 2, .agg #[.int .u64 0, .int .u64 0]⟩
theorem tio64 : TIok Try.prog 64 ti64 := TIok.mk Try.underlying64 rfl (fun _ h => by cases h) (by kernel_rfl) (fields_ok Try.underlying64 (by kernel_rfl))
def ti66 : TI := ⟨.slice 30 1 24 (.slice none 0 0), 1, .slice none 0 0⟩
theorem tio66 : TIok Try.prog 66 ti66 := TIok.mk Try.underlying66 rfl (fun _ h => by cases h) (by kernel_rfl) (slice_ok Try.underlying66 (by kernel_rfl))
def ti71 : TI := ⟨.int .u64, 1, .int .u64 0⟩
theorem tio71 : TIok Try.prog 71 ti71 := TIok.mk Try.underlying71 rfl (fun _ h => by cases h) (by kernel_rfl) (Try.underlying71)
def ti84 : TI := ⟨.int .i64, 1, .int .i64 0⟩
theorem tio84 : TIok Try.prog 84 ti84 := TIok.mk Try.underlying84 rfl (fun _ h => by cases h) (by kernel_rfl) (Try.underlying84)
def ti91 : TI := ⟨.int .u32, 1, .int .u32 0⟩
theorem tio91 : TIok Try.prog 91 ti91 := TIok.mk Try.underlying91 rfl (fun _ h => by cases h) (by kernel_rfl) (Try.underlying91)
def ti92 : TI := ⟨.int .u64, 1, .int .u64 0⟩
theorem tio92 : TIok Try.prog 92 ti92 := TIok.mk Try.underlying92 rfl (fun _ h => by cases h) (by kernel_rfl) (Try.underlying92)
def ti96 : TI := ⟨.cell, 1, .pointer none⟩
theorem tio96 : TIok Try.prog 96 ti96 := TIok.mk Try.underlying96 rfl (fun _ h => by cases h) (by kernel_rfl) (trivial)
def tT : List (Nat × TI) := [(3, ti3), (5, ti5), (9, ti9), (23, ti23), (29, ti29), (30, ti30), (31, ti31), (33, ti33), (35, ti35), (39, ti39), (46, ti46), (48, ti48), (50, ti50), (53, ti53), (64, ti64), (66, ti66), (71, ti71), (84, ti84), (91, ti91), (92, ti92), (96, ti96)]
theorem tT_ok : ∀ t ti, lk t tT = some ti → TIok Try.prog t ti := tiAll [(3, ti3), (5, ti5), (9, ti9), (23, ti23), (29, ti29), (30, ti30), (31, ti31), (33, ti33), (35, ti35), (39, ti39), (46, ti46), (48, ti48), (50, ti50), (53, ti53), (64, ti64), (66, ti66), (71, ti71), (84, ti84), (91, ti91), (92, ti92), (96, ti96)] (⟨tio3, ⟨tio5, ⟨tio9, ⟨tio23, ⟨tio29, ⟨tio30, ⟨tio31, ⟨tio33, ⟨tio35, ⟨tio39, ⟨tio46, ⟨tio48, ⟨tio50, ⟨tio53, ⟨tio64, ⟨tio66, ⟨tio71, ⟨tio84, ⟨tio91, ⟨tio92, ⟨tio96, trivial⟩⟩⟩⟩⟩⟩⟩⟩⟩⟩⟩⟩⟩⟩⟩⟩⟩⟩⟩⟩⟩)
theorem mixed : Try.prog.follows .mixedOrders = true := by kernel_rfl
def dr0 : List (Nat × (List Nat × List (Option Nat × Option Nat))) := []
def dr1 : List (Nat × (List Nat × List (Option Nat × Option Nat))) := []
def dr2 : List (Nat × (List Nat × List (Option Nat × Option Nat))) := []
def dr3 : List (Nat × (List Nat × List (Option Nat × Option Nat))) := []
def dr4 : List (Nat × (List Nat × List (Option Nat × Option Nat))) := []
def dr5 : List (Nat × (List Nat × List (Option Nat × Option Nat))) := []
def dr6 : List (Nat × (List Nat × List (Option Nat × Option Nat))) := []
def dr7 : List (Nat × (List Nat × List (Option Nat × Option Nat))) := []
def dr8 : List (Nat × (List Nat × List (Option Nat × Option Nat))) := []
def dr9 : List (Nat × (List Nat × List (Option Nat × Option Nat))) := []
def dr10 : List (Nat × (List Nat × List (Option Nat × Option Nat))) := [(6, [0, 1, 3, 0, 8, 0, 56, 120, 255, 511], [(some 22, none), (some 23, none), (some 24, none), (some 25, none), (some 26, some 12), (some 27, none), (some 28, some 12), (some 29, none), (some 30, none), (some 7, none)])]
def dr11 : List (Nat × (List Nat × List (Option Nat × Option Nat))) := [(1, [0, 1, 3, 7, 0, 16, 48, 112, 240, 511], [(some 5, none), (some 6, none), (some 7, none), (some 8, none), (some 9, none), (some 10, none), (some 11, none), (some 12, none), (some 13, none), (some 14, none)]), (4, [0, 1, 3, 7, 0, 16, 48, 112, 240, 511, 1023, 0, 4095, 8191], [(some 22, none), (some 23, none), (some 24, none), (some 25, none), (some 26, none), (some 27, none), (some 28, none), (some 29, none), (some 30, none), (some 31, none), (some 32, none), (some 33, none), (some 34, none), (some 4, none)])]
def dr12 : List (Nat × (List Nat × List (Option Nat × Option Nat))) := []
def dr13 : List (Nat × (List Nat × List (Option Nat × Option Nat))) := []
def dr14 : List (Nat × (List Nat × List (Option Nat × Option Nat))) := []
def dr15 : List (Nat × (List Nat × List (Option Nat × Option Nat))) := [(12, [0, 0, 3, 7, 15, 0, 0, 64, 224, 480, 992, 2047], [(some 42, none), (some 43, none), (some 44, none), (some 45, none), (some 46, none), (some 47, none), (some 48, none), (some 49, none), (some 50, none), (some 51, none), (some 52, none), (some 53, none)])]
def dr16 : List (Nat × (List Nat × List (Option Nat × Option Nat))) := [(11, [0, 0, 3, 7, 15, 0, 0, 64, 224, 480, 992, 2047], [(some 66, none), (some 67, none), (some 68, none), (some 69, none), (some 70, none), (some 71, none), (some 72, none), (some 73, none), (some 74, none), (some 75, none), (some 76, none), (some 77, none)])]
def dr17 : List (Nat × (List Nat × List (Option Nat × Option Nat))) := []
def dr18 : List (Nat × (List Nat × List (Option Nat × Option Nat))) := []
def dr19 : List (Nat × (List Nat × List (Option Nat × Option Nat))) := []
def dr20 : List (Nat × (List Nat × List (Option Nat × Option Nat))) := [(1, [0, 0, 3, 0, 15, 0, 0, 96, 31, 511], [(some 12, none), (some 13, none), (some 14, none), (some 15, none), (some 16, none), (some 17, none), (some 18, none), (some 19, none), (some 7, none), (some 8, none)])]
def dr21 : List (Nat × (List Nat × List (Option Nat × Option Nat))) := []
def dr22 : List (Nat × (List Nat × List (Option Nat × Option Nat))) := [(1, [0, 1, 3, 7, 0, 16, 48, 112, 240, 511, 1023], [(some 3, none), (some 4, none), (some 5, none), (some 6, none), (some 7, none), (some 8, none), (some 9, none), (some 10, none), (some 11, none), (some 12, none), (some 2, none)])]
def dr23 : List (Nat × (List Nat × List (Option Nat × Option Nat))) := []
def dr24 : List (Nat × (List Nat × List (Option Nat × Option Nat))) := [(8, [0, 0, 3, 7, 15, 0, 0, 96, 224, 480, 0, 1024, 0, 4096, 16383, 32767, 65535, 65535, 131071, 524287], [(some 29, none), (some 30, none), (some 31, none), (some 32, none), (some 33, none), (some 34, none), (some 35, none), (some 36, none), (some 37, none), (some 38, none), (some 39, none), (some 40, none), (some 41, none), (some 42, none), (some 43, none), (some 28, none), (some 44, none), (some 45, none), (some 11, none), (some 12, none)])]
def dr25 : List (Nat × (List Nat × List (Option Nat × Option Nat))) := [(11, [0, 0, 0, 4, 15, 0, 0, 64, 224, 511], [(some 26, none), (some 27, none), (some 28, none), (some 29, none), (some 30, none), (some 31, none), (some 32, none), (some 33, none), (some 34, none), (some 35, none)])]
def dr26 : List (Nat × (List Nat × List (Option Nat × Option Nat))) := [(8, [0, 0, 3, 7, 15, 0, 32, 127], [(some 30, none), (some 31, none), (some 32, none), (some 33, none), (some 34, none), (some 35, none), (some 36, none), (some 37, none)]), (10, [0, 1, 0, 4, 0, 0, 48, 112, 240, 0, 0, 1536, 3584, 7680, 16383, 32767, 65535, 65535, 131071, 524287], [(some 39, none), (some 40, none), (some 41, none), (some 42, none), (some 43, none), (some 44, none), (some 45, none), (some 46, none), (some 47, none), (some 48, none), (some 49, none), (some 50, none), (some 51, none), (some 52, none), (some 53, none), (some 38, none), (some 54, none), (some 55, none), (some 10, none), (some 11, none)])]
def dr27 : List (Nat × (List Nat × List (Option Nat × Option Nat))) := []
def dr28 : List (Nat × (List Nat × List (Option Nat × Option Nat))) := []
def dr29 : List (Nat × (List Nat × List (Option Nat × Option Nat))) := [(6, [0, 0, 3, 7, 15, 0, 0, 64, 224, 480, 992, 2047, 4095, 8191, 8191, 32767, 65535, 131071, 8191, 8191, 532479, 1843199, 3940351, 8134655, 16777215, 33554431], [(some 15, none), (some 16, none), (some 17, none), (some 18, none), (some 19, none), (some 20, none), (some 21, none), (some 22, none), (some 23, none), (some 24, none), (some 25, none), (some 26, none), (some 27, none), (some 28, none), (some 29, none), (some 30, none), (some 31, none), (some 32, none), (some 33, none), (some 34, none), (some 35, none), (some 36, none), (some 37, none), (some 38, none), (some 39, none), (some 40, none)])]
def dr30 : List (Nat × (List Nat × List (Option Nat × Option Nat))) := []
def dr31 : List (Nat × (List Nat × List (Option Nat × Option Nat))) := []
def dr32 : List (Nat × (List Nat × List (Option Nat × Option Nat))) := []
def dr33 : List (Nat × (List Nat × List (Option Nat × Option Nat))) := []
def dr34 : List (Nat × (List Nat × List (Option Nat × Option Nat))) := [(7, [0, 0, 3, 7, 0, 0, 48, 112, 255], [(some 19, none), (some 20, none), (some 21, none), (some 22, none), (some 23, none), (some 24, none), (some 25, none), (some 26, none), (some 27, none)])]
def dr35 : List (Nat × (List Nat × List (Option Nat × Option Nat))) := []
def dr36 : List (Nat × (List Nat × List (Option Nat × Option Nat))) := []
def dr37 : List (Nat × (List Nat × List (Option Nat × Option Nat))) := []
def dr38 : List (Nat × (List Nat × List (Option Nat × Option Nat))) := []
def dr39 : List (Nat × (List Nat × List (Option Nat × Option Nat))) := []
def dr40 : List (Nat × (List Nat × List (Option Nat × Option Nat))) := [(1, [0, 1, 0, 4, 15, 0, 32, 0, 128, 511, 1023, 2047, 4095], [(some 5, none), (some 6, none), (some 7, none), (some 8, none), (some 9, none), (some 10, none), (some 11, none), (some 12, none), (some 13, none), (some 14, none), (some 15, some 15), (some 16, none), (some 4, none)])]
def dr41 : List (Nat × (List Nat × List (Option Nat × Option Nat))) := []
def dr42 : List (Nat × (List Nat × List (Option Nat × Option Nat))) := []
def dr43 : List (Nat × (List Nat × List (Option Nat × Option Nat))) := []
def dr44 : List (Nat × (List Nat × List (Option Nat × Option Nat))) := [(6, [0, 0, 3, 0, 0, 24, 7, 127], [(some 28, none), (some 29, none), (some 30, none), (some 31, none), (some 32, none), (some 33, none), (some 6, none), (some 7, none)])]
def dr45 : List (Nat × (List Nat × List (Option Nat × Option Nat))) := []
def dr46 : List (Nat × (List Nat × List (Option Nat × Option Nat))) := []
def dr47 : List (Nat × (List Nat × List (Option Nat × Option Nat))) := []
def dr48 : List (Nat × (List Nat × List (Option Nat × Option Nat))) := [(17, [0, 1, 3, 7, 7, 7, 39, 119, 247, 7, 7, 1543, 3591, 8191, 16383, 32767, 65535], [(some 81, none), (some 82, none), (some 83, none), (some 84, none), (some 85, none), (some 86, none), (some 87, none), (some 88, none), (some 89, none), (some 90, none), (some 91, none), (some 92, none), (some 93, none), (some 94, none), (some 95, none), (some 96, none), (some 97, none)])]
def dr49 : List (Nat × (List Nat × List (Option Nat × Option Nat))) := []
def dr50 : List (Nat × (List Nat × List (Option Nat × Option Nat))) := []
def dr51 : List (Nat × (List Nat × List (Option Nat × Option Nat))) := [(4, [0, 0, 3, 7, 15, 15, 15, 111, 239, 15, 15, 1039, 3599, 7695, 16383, 32767, 65535], [(some 18, none), (some 19, none), (some 20, none), (some 21, none), (some 22, none), (some 23, none), (some 24, none), (some 25, none), (some 26, none), (some 27, none), (some 28, none), (some 29, none), (some 30, none), (some 31, none), (some 32, none), (some 33, none), (some 34, none)]), (6, [0, 0, 0, 0, 8, 0, 0, 64, 224, 480, 0, 0, 3072, 7168, 16355, 32739, 65535, 131071], [(some 37, none), (some 38, none), (some 39, none), (some 40, none), (some 41, none), (some 42, none), (some 43, none), (some 44, none), (some 45, none), (some 46, none), (some 47, none), (some 48, none), (some 49, none), (some 50, none), (some 51, none), (none, none), (some 52, none), (none, none)])]
def dr52 : List (Nat × (List Nat × List (Option Nat × Option Nat))) := [(10, [0, 0, 0, 0, 0, 24, 0, 0, 0, 384, 960, 1984, 0, 0, 12288, 28672, 65475, 131011, 262143, 524287], [(some 36, none), (some 37, none), (some 38, none), (some 39, none), (some 40, none), (some 41, none), (some 42, none), (some 43, none), (some 44, none), (some 45, none), (some 46, none), (some 47, none), (some 48, none), (some 49, none), (some 50, none), (some 51, none), (some 52, none), (none, none), (some 53, none), (none, none)])]
def dr53 : List (Nat × (List Nat × List (Option Nat × Option Nat))) := [(10, [0, 0, 0, 0, 0, 24, 0, 0, 0, 384, 960, 1984, 0, 0, 12288, 28672, 65475, 131011, 2047, 524287], [(some 49, none), (some 50, none), (some 51, none), (some 52, none), (some 53, none), (some 54, none), (some 55, none), (some 56, none), (some 57, none), (some 58, none), (some 59, none), (some 60, none), (some 61, none), (some 62, none), (some 63, none), (some 64, none), (some 65, none), (none, none), (some 66, none), (none, none)])]
def dr54 : List (Nat × (List Nat × List (Option Nat × Option Nat))) := []
def dr55 : List (Nat × (List Nat × List (Option Nat × Option Nat))) := [(3, [0, 0, 0, 0, 0, 0, 48, 112, 0, 0, 768, 1792, 4083, 8179, 16383, 32767], [(some 16, none), (some 17, none), (some 18, none), (some 19, none), (some 20, none), (some 21, none), (some 22, none), (some 23, none), (some 24, none), (some 25, none), (some 26, none), (some 27, none), (some 28, none), (none, none), (some 29, none), (none, none)])]
def dr56 : List (Nat × (List Nat × List (Option Nat × Option Nat))) := [(5, [0, 0, 3, 7, 15, 15, 15, 111, 239, 15, 15, 1039, 3599, 7695, 16383, 32767, 65535, 131071], [(some 19, none), (some 20, none), (some 21, none), (some 22, none), (some 23, none), (some 24, none), (some 25, none), (some 26, none), (some 27, none), (some 28, none), (some 29, none), (some 30, none), (some 31, none), (some 32, none), (some 33, none), (some 34, none), (some 35, none), (some 36, none)]), (11, [0, 0, 0, 0, 8, 0, 0, 64, 224, 480, 0, 0, 3072, 7168, 16355, 32739, 65535, 131071], [(some 46, none), (some 47, none), (some 48, none), (some 49, none), (some 50, none), (some 51, none), (some 52, none), (some 53, none), (some 54, none), (some 55, none), (some 56, none), (some 57, none), (some 58, none), (some 59, none), (some 60, none), (none, none), (some 61, none), (none, none)]), (16, [0, 0, 0, 6, 14, 0, 0, 64, 224, 480, 1023, 2047, 4095], [(some 72, none), (some 73, none), (some 74, none), (some 75, none), (some 76, none), (some 77, none), (some 78, none), (some 79, none), (some 80, none), (some 81, none), (some 82, none), (some 83, none), (some 84, none)]), (17, [0, 0, 0, 0, 8, 0, 0, 64, 224, 480, 0, 0, 3072, 7168, 3, 17379, 31, 131071], [(some 85, none), (some 86, none), (some 87, none), (some 88, none), (some 89, none), (some 90, none), (some 91, none), (some 92, none), (some 93, none), (some 94, none), (some 95, none), (some 96, none), (some 97, none), (some 98, none), (some 99, none), (none, none), (some 100, none), (none, none)]), (22, [0, 0, 0, 6, 14, 0, 0, 64, 224, 480, 1023, 2047, 4095], [(some 112, none), (some 113, none), (some 114, none), (some 115, none), (some 116, none), (some 117, none), (some 118, none), (some 119, none), (some 120, none), (some 121, none), (some 122, none), (some 123, none), (some 124, none)]), (23, [0, 0, 0, 0, 8, 0, 0, 64, 224, 480, 0, 0, 3072, 7168, 3, 17379, 31, 131071], [(some 125, none), (some 126, none), (some 127, none), (some 128, none), (some 129, none), (some 130, none), (some 131, none), (some 132, none), (some 133, none), (some 134, none), (some 135, none), (some 136, none), (some 137, none), (some 138, none), (some 139, none), (none, none), (some 140, none), (none, none)])]
def dr57 : List (Nat × (List Nat × List (Option Nat × Option Nat))) := [(1, [0, 0, 0, 0, 0, 0, 48, 112, 0, 0, 768, 1792, 4083, 8179, 16383, 32767], [(some 13, none), (some 14, none), (some 15, none), (some 16, none), (some 17, none), (some 18, none), (some 19, none), (some 20, none), (some 21, none), (some 22, none), (some 23, none), (some 24, none), (some 25, none), (none, none), (some 26, none), (none, none)]), (3, [0, 0, 3, 7, 15, 15, 15, 111, 239, 15, 15, 1551, 3599, 8191, 16383, 32767, 65535], [(some 31, none), (some 32, none), (some 33, none), (some 34, none), (some 35, none), (some 36, none), (some 37, none), (some 38, none), (some 39, none), (some 40, none), (some 41, none), (some 42, none), (some 43, none), (some 44, none), (some 45, none), (some 46, none), (some 47, none)]), (5, [0, 0, 3, 7, 15, 15, 15, 111, 239, 15, 15, 1551, 3599, 8191, 16383, 32767], [(some 50, none), (some 51, none), (some 52, none), (some 53, none), (some 54, none), (some 55, none), (some 56, none), (some 57, none), (some 58, none), (some 59, none), (some 60, none), (some 61, none), (some 62, none), (some 63, none), (some 64, none), (some 65, none)]), (8, [0, 0, 0, 0, 0, 0, 48, 112, 0, 0, 768, 1792, 4083, 8179, 16383, 32767], [(some 71, none), (some 72, none), (some 73, none), (some 74, none), (some 75, none), (some 76, none), (some 77, none), (some 78, none), (some 79, none), (some 80, none), (some 81, none), (some 82, none), (some 83, none), (none, none), (some 84, none), (none, none)])]
def dr58 : List (Nat × (List Nat × List (Option Nat × Option Nat))) := [(1, [0, 0, 0, 0, 0, 0, 48, 112, 0, 0, 768, 1792, 4083, 8179, 16383, 32767], [(some 14, none), (some 15, none), (some 16, none), (some 17, none), (some 18, none), (some 19, none), (some 20, none), (some 21, none), (some 22, none), (some 23, none), (some 24, none), (some 25, none), (some 26, none), (none, none), (some 27, none), (none, none)]), (3, [0, 0, 3, 7, 15, 15, 15, 111, 239, 15, 15, 1551, 3599, 8191, 16383, 32767], [(some 32, none), (some 33, none), (some 34, none), (some 35, none), (some 36, none), (some 37, none), (some 38, none), (some 39, none), (some 40, none), (some 41, none), (some 42, none), (some 43, none), (some 44, none), (some 45, none), (some 46, none), (some 47, none)]), (5, [0, 0, 3, 7, 15, 15, 15, 111, 239, 15, 15, 1551, 3599, 8191, 16383, 32767, 65535], [(some 50, none), (some 51, none), (some 52, none), (some 53, none), (some 54, none), (some 55, none), (some 56, none), (some 57, none), (some 58, none), (some 59, none), (some 60, none), (some 61, none), (some 62, none), (some 63, none), (some 64, none), (some 65, none), (some 66, none)]), (8, [0, 0, 0, 0, 0, 0, 48, 112, 0, 0, 768, 1792, 4083, 8179, 16383, 32767], [(some 72, none), (some 73, none), (some 74, none), (some 75, none), (some 76, none), (some 77, none), (some 78, none), (some 79, none), (some 80, none), (some 81, none), (some 82, none), (some 83, none), (some 84, none), (none, none), (some 85, none), (none, none)]), (10, [0, 0, 0, 0, 0, 0, 48, 112, 0, 0, 768, 1792, 4083, 8179, 16383, 32767], [(some 87, none), (some 88, none), (some 89, none), (some 90, none), (some 91, none), (some 92, none), (some 93, none), (some 94, none), (some 95, none), (some 96, none), (some 97, none), (some 98, none), (some 99, none), (none, none), (some 100, none), (none, none)]), (13, [0, 0, 3, 7, 15, 15, 15, 111, 239, 15, 15, 1551, 3599, 8191, 16383, 32767], [(some 105, none), (some 106, none), (some 107, none), (some 108, none), (some 109, none), (some 110, none), (some 111, none), (some 112, none), (some 113, none), (some 114, none), (some 115, none), (some 116, none), (some 117, none), (some 118, none), (some 119, none), (some 120, none)]), (15, [0, 0, 3, 7, 15, 15, 15, 111, 239, 15, 15, 1551, 3599, 8191, 16383, 32767, 65535], [(some 123, none), (some 124, none), (some 125, none), (some 126, none), (some 127, none), (some 128, none), (some 129, none), (some 130, none), (some 131, none), (some 132, none), (some 133, none), (some 134, none), (some 135, none), (some 136, none), (some 137, none), (some 138, none), (some 139, none)]), (18, [0, 0, 0, 0, 0, 0, 48, 112, 0, 0, 768, 1792, 4083, 8179, 16383, 32767], [(some 145, none), (some 146, none), (some 147, none), (some 148, none), (some 149, none), (some 150, none), (some 151, none), (some 152, none), (some 153, none), (some 154, none), (some 155, none), (some 156, none), (some 157, none), (none, none), (some 158, none), (none, none)]), (21, [0, 0, 0, 0, 0, 0, 48, 112, 0, 0, 768, 1792, 4083, 8179, 16383, 32767], [(some 163, none), (some 164, none), (some 165, none), (some 166, none), (some 167, none), (some 168, none), (some 169, none), (some 170, none), (some 171, none), (some 172, none), (some 173, none), (some 174, none), (some 175, none), (none, none), (some 176, none), (none, none)])]
def dr59 : List (Nat × (List Nat × List (Option Nat × Option Nat))) := []
def dr60 : List (Nat × (List Nat × List (Option Nat × Option Nat))) := []
def dr61 : List (Nat × (List Nat × List (Option Nat × Option Nat))) := [(3, [0, 1, 0, 7, 15, 31, 31, 31, 31, 415, 991, 2015, 31, 31, 31, 24607, 57375, 127007, 258079, 524287, 1048575, 2097151], [(some 19, none), (some 20, none), (some 21, none), (some 22, none), (some 23, none), (some 24, none), (some 25, none), (some 26, none), (some 27, none), (some 28, none), (some 29, none), (some 30, none), (some 31, none), (some 32, none), (some 33, none), (some 34, none), (some 35, none), (some 36, none), (some 37, none), (some 38, none), (some 39, none), (some 40, none)]), (5, [0, 0, 0, 0, 12, 30, 62, 0, 0, 0, 768, 1920, 3968, 8191, 16383, 32767], [(some 43, none), (some 44, none), (some 45, none), (some 46, none), (some 47, none), (some 48, none), (some 49, none), (some 50, none), (some 51, none), (some 52, none), (some 53, none), (some 54, none), (some 55, none), (some 56, none), (some 57, none), (some 58, none)]), (6, [0, 0, 0, 6, 0, 0, 0, 96, 0, 0, 0, 1536, 3840, 7936, 0, 0, 0, 98304, 245760, 507904, 7951, 1064719, 2047, 8388607], [(some 59, none), (some 60, none), (some 61, none), (some 62, none), (some 63, none), (some 64, none), (some 65, none), (some 66, none), (some 67, none), (some 68, none), (some 69, none), (some 70, none), (some 71, none), (some 72, none), (some 73, none), (some 74, none), (some 75, none), (some 76, none), (some 77, none), (some 78, none), (some 79, none), (none, none), (some 80, none), (none, none)])]
def dr62 : List (Nat × (List Nat × List (Option Nat × Option Nat))) := []
def dr63 : List (Nat × (List Nat × List (Option Nat × Option Nat))) := [(1, [0, 1, 3, 0, 8, 24, 56, 127, 255, 511], [(some 3, none), (some 4, none), (some 5, none), (some 6, none), (some 7, none), (some 8, none), (some 9, none), (some 10, none), (some 11, none), (none, some 5000)]), (2, [0, 1, 3, 0, 8, 24, 56, 127, 255, 511], [(some 12, none), (some 13, none), (some 14, none), (some 15, none), (some 16, none), (some 17, none), (some 18, none), (some 19, none), (some 20, none), (none, some 5000)]), (3, [0, 1, 3, 0, 8, 24, 56, 127, 255, 511], [(some 21, none), (some 22, none), (some 23, none), (some 24, none), (some 25, none), (some 26, none), (some 27, none), (some 28, none), (some 29, none), (none, some 5000)])]
def dr64 : List (Nat × (List Nat × List (Option Nat × Option Nat))) := []
def dr65 : List (Nat × (List Nat × List (Option Nat × Option Nat))) := []
def dr66 : List (Nat × (List Nat × List (Option Nat × Option Nat))) := [(1, [0, 0, 0, 6, 14, 0, 0, 96, 224, 511, 1023], [(some 12, none), (some 13, none), (some 14, none), (some 15, none), (some 16, none), (some 17, none), (some 18, none), (some 19, none), (some 20, none), (some 21, none), (some 22, none)])]
def dr67 : List (Nat × (List Nat × List (Option Nat × Option Nat))) := []
def dr68 : List (Nat × (List Nat × List (Option Nat × Option Nat))) := []
def dr69 : List (Nat × (List Nat × List (Option Nat × Option Nat))) := []
def dr70 : List (Nat × (List Nat × List (Option Nat × Option Nat))) := []
def dr71 : List (Nat × (List Nat × List (Option Nat × Option Nat))) := []
def dr72 : List (Nat × (List Nat × List (Option Nat × Option Nat))) := []
def dr73 : List (Nat × (List Nat × List (Option Nat × Option Nat))) := []
def dr74 : List (Nat × (List Nat × List (Option Nat × Option Nat))) := []
def dr75 : List (Nat × (List Nat × List (Option Nat × Option Nat))) := []
def dr76 : List (Nat × (List Nat × List (Option Nat × Option Nat))) := []
def dr77 : List (Nat × (List Nat × List (Option Nat × Option Nat))) := []
def dr78 : List (Nat × (List Nat × List (Option Nat × Option Nat))) := []
def dr79 : List (Nat × (List Nat × List (Option Nat × Option Nat))) := []
def dr80 : List (Nat × (List Nat × List (Option Nat × Option Nat))) := []
def dr81 : List (Nat × (List Nat × List (Option Nat × Option Nat))) := []
def dr82 : List (Nat × (List Nat × List (Option Nat × Option Nat))) := []
def dr83 : List (Nat × (List Nat × List (Option Nat × Option Nat))) := []
end Go.Proofs.Ytdibfkncofckiaa
