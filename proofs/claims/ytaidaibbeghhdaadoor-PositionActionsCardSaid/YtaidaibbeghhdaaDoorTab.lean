/- The types of the seat's program that are wanted, and its regions that draw their order (written by a program of mine). -/
import Derived.Test.YtaidaibbeghhdaaDoorRows
import Derived.Test.YtaidaibbeghhdaaDoorVp
import Derived.Test.YtaidaibbeghhdaaDoorVq
import Derived.KernelRfl
namespace Go.Proofs.YtaidaibbeghhdaaDoor
open Go Go.RowKit
set_option linter.unusedVariables false
set_option linter.unusedSimpArgs false

def ti3 : TI := ⟨.int .i64, 1, .int .i64 0⟩
theorem tio3 : TIok Tryd.prog 3 ti3 := TIok.mk Tryd.underlying3 rfl (fun _ h => by cases h) (by kernel_rfl) (Tryd.underlying3)
def ti4 : TI := ⟨.bool, 1, .bool false⟩
theorem tio4 : TIok Tryd.prog 4 ti4 := TIok.mk Tryd.underlying4 rfl (fun _ h => by cases h) (by kernel_rfl) (Tryd.underlying4)
def ti5 : TI := ⟨.int .u8, 1, .int .u8 0⟩
theorem tio5 : TIok Tryd.prog 5 ti5 := TIok.mk Tryd.underlying5 rfl (fun _ h => by cases h) (by kernel_rfl) (Tryd.underlying5)
def ti9 : TI := ⟨.str, 1, .string ByteArray.empty⟩
theorem tio9 : TIok Tryd.prog 9 ti9 := TIok.mk Tryd.underlying9 rfl (fun _ h => by cases h) (by kernel_rfl) (Tryd.underlying9)
def ti24 : TI := ⟨.struct [(0, 1), (1, 1), (2, 1), (3, 1)], 4, .agg #[.int .i64 0, .int .i64 0, .int .i64 0, .int .i64 0]⟩
theorem tio24 : TIok Tryd.prog 24 ti24 := TIok.mk Tryd.underlying24 rfl (fun _ h => by cases h) (by kernel_rfl) (fields_ok Tryd.underlying24 (by kernel_rfl))
def ti25 : TI := ⟨.int .i64, 1, .int .i64 0⟩
theorem tio25 : TIok Tryd.prog 25 ti25 := TIok.mk Tryd.underlying25 rfl (fun _ h => by cases h) (by kernel_rfl) (Tryd.underlying25)
def ti39 : TI := ⟨.struct [], 0, .agg #[]⟩
theorem tio39 : TIok Tryd.prog 39 ti39 := TIok.mk Tryd.underlying39 rfl (fun _ h => by cases h) (by kernel_rfl) (fields_ok Tryd.underlying39 (by kernel_rfl))
def ti41 : TI := ⟨.struct [(0, 1)], 1, .agg #[.int .i64 0]⟩
theorem tio41 : TIok Tryd.prog 41 ti41 := TIok.mk Tryd.underlying41 rfl (fun _ h => by cases h) (by kernel_rfl) (fields_ok Tryd.underlying41 (by kernel_rfl))
def ti42 : TI := ⟨.struct [], 0, .agg #[]⟩
theorem tio42 : TIok Tryd.prog 42 ti42 := TIok.mk Tryd.underlying42 rfl (fun _ h => by cases h) (by kernel_rfl) (fields_ok Tryd.underlying42 (by kernel_rfl))
def ti43 : TI := ⟨.struct [], 0, .agg #[]⟩
theorem tio43 : TIok Tryd.prog 43 ti43 := TIok.mk Tryd.underlying43 rfl (fun _ h => by cases h) (by kernel_rfl) (fields_ok Tryd.underlying43 (by kernel_rfl))
def ti44 : TI := ⟨.int .u64, 1, .int .u64 0⟩
theorem tio44 : TIok Tryd.prog 44 ti44 := TIok.mk Tryd.underlying44 rfl (fun _ h => by cases h) (by kernel_rfl) (Tryd.underlying44)
def ti47 : TI := ⟨.int .i64, 1, .int .i64 0⟩
theorem tio47 : TIok Tryd.prog 47 ti47 := TIok.mk Tryd.underlying47 rfl (fun _ h => by cases h) (by kernel_rfl) (Tryd.underlying47)
def ti51 : TI := ⟨.struct [(0, 1), (1, 1), (2, 1)], 3, .agg #[.int .i64 0, .int .i64 0, .int .i64 0]⟩
theorem tio51 : TIok Tryd.prog 51 ti51 := TIok.mk Tryd.underlying51 rfl (fun _ h => by cases h) (by kernel_rfl) (fields_ok Tryd.underlying51 (by kernel_rfl))
def ti52 : TI := ⟨.arr 36 51 3, 108, .agg #[.int .i64 0, .int .i64 0, .int .i64 0, .int .i64 0, .int .i64 0, .int .i64 0, .int .i64 0, .int .i64 0, .int .i64 0, .int .i64 0, .int .i64 0, .int .i64 0, .int .i64 0, .int .i64 0, .int .i64 0, .int .i64 0, .int .i64 0, .int .i64 0, .int .i64 0, .int .i64 0, .int .i64 0, .int .i64 0, .int .i64 0, .int .i64 0, .int .i64 0, .int .i64 0, .int .i64 0, .int .i64 0, .int .i64 0, .int .i64 0, .int .i64 0, .int .i64 0, .int .i64 0, .int .i64 0, .int .i64 0, .int .i64 0, .int .i64 0, .int .i64 0, .int .i64 0, .int .i64 0, .int .i64 0, .int .i64 0, .int .i64 0, .int .i64 0, .int .i64 0, .int .i64 0, .int .i64 0, .int .i64 0, .int .i64 0, .int .i64 0, .int .i64 0, .int .i64 0, .int .i64 0, .int .i64 0, .int .i64 0, .int .i64 0, .int .i64 0, .int .i64 0, .int .i64 0, .int .i64 0, .int .i64 0, .int .i64 0, .int .i64 0, .int .i64 0, .int .i64 0, .int .i64 0, .int .i64 0, .int .i64 0, .int .i64 0, .int .i64 0, .int .i64 0, .int .i64 0, .int .i64 0, .int .i64 0, .int .i64 0, .int .i64 0, .int .i64 0, .int .i64 0, .int .i64 0, .int .i64 0, .int .i64 0, .int .i64 0, .int .i64 0, .int .i64 0, .int .i64 0, .int .i64 0, .int .i64 0, .int .i64 0, .int .i64 0, .int .i64 0, .int .i64 0, .int .i64 0, .int .i64 0, .int .i64 0, .int .i64 0, .int .i64 0, .int .i64 0, .int .i64 0, .int .i64 0, .int .i64 0, .int .i64 0, .int .i64 0, .int .i64 0, .int .i64 0, .int .i64 0, .int .i64 0, .int .i64 0, .int .i64 0]⟩
theorem tio52 : TIok Tryd.prog 52 ti52 := TIok.mk Tryd.underlying52 rfl (fun _ h => by cases h) (by kernel_rfl) (arr_ok Tryd.underlying52 (by kernel_rfl))
def ti53 : TI := ⟨.struct [], 0, .agg #[]⟩
theorem tio53 : TIok Tryd.prog 53 ti53 := TIok.mk Tryd.underlying53 rfl (fun _ h => by cases h) (by kernel_rfl) (fields_ok Tryd.underlying53 (by kernel_rfl))
def ti55 : TI := ⟨.struct [(0, 1), (1, 1), (2, 1)], 3, .agg #[.int .i64 0, .int .i64 0, .int .i64 0]⟩
theorem tio55 : TIok Tryd.prog 55 ti55 := TIok.mk Tryd.underlying55 rfl (fun _ h => by cases h) (by kernel_rfl) (fields_ok Tryd.underlying55 (by kernel_rfl))
def ti61 : TI := ⟨.struct [(0, 1), (1, 1)], 2, .agg #[.int .u64 0, .int .u64 0]⟩
theorem tio61 : TIok Tryd.prog 61 ti61 := TIok.mk Tryd.underlying61 rfl (fun _ h => by cases h) (by kernel_rfl) (fields_ok Tryd.underlying61 (by kernel_rfl))
def ti63 : TI := ⟨.arr 12 3 1, 12, .agg #[.int .i64 0, .int .i64 0, .int .i64 0, .int .i64 0, .int .i64 0, .int .i64 0, .int .i64 0, .int .i64 0, .int .i64 0, .int .i64 0, .int .i64 0, .int .i64 0]⟩
theorem tio63 : TIok Tryd.prog 63 ti63 := TIok.mk Tryd.underlying63 rfl (fun _ h => by cases h) (by kernel_rfl) (arr_ok Tryd.underlying63 (by kernel_rfl))
def ti70 : TI := ⟨.int .u64, 1, .int .u64 0⟩
theorem tio70 : TIok Tryd.prog 70 ti70 := TIok.mk Tryd.underlying70 rfl (fun _ h => by cases h) (by kernel_rfl) (Tryd.underlying70)
def tT : List (Nat × TI) := [(3, ti3), (4, ti4), (5, ti5), (9, ti9), (24, ti24), (25, ti25), (39, ti39), (41, ti41), (42, ti42), (43, ti43), (44, ti44), (47, ti47), (51, ti51), (52, ti52), (53, ti53), (55, ti55), (61, ti61), (63, ti63), (70, ti70)]
theorem tT_ok : ∀ t ti, lk t tT = some ti → TIok Tryd.prog t ti := tiAll [(3, ti3), (4, ti4), (5, ti5), (9, ti9), (24, ti24), (25, ti25), (39, ti39), (41, ti41), (42, ti42), (43, ti43), (44, ti44), (47, ti47), (51, ti51), (52, ti52), (53, ti53), (55, ti55), (61, ti61), (63, ti63), (70, ti70)] (⟨tio3, ⟨tio4, ⟨tio5, ⟨tio9, ⟨tio24, ⟨tio25, ⟨tio39, ⟨tio41, ⟨tio42, ⟨tio43, ⟨tio44, ⟨tio47, ⟨tio51, ⟨tio52, ⟨tio53, ⟨tio55, ⟨tio61, ⟨tio63, ⟨tio70, trivial⟩⟩⟩⟩⟩⟩⟩⟩⟩⟩⟩⟩⟩⟩⟩⟩⟩⟩⟩)
theorem mixed : Tryd.prog.follows .mixedOrders = true := by kernel_rfl
def dr0 : List (Nat × (List Nat × List (Option Nat × Option Nat))) := []
def dr1 : List (Nat × (List Nat × List (Option Nat × Option Nat))) := []
def dr2 : List (Nat × (List Nat × List (Option Nat × Option Nat))) := []
def dr3 : List (Nat × (List Nat × List (Option Nat × Option Nat))) := []
def dr4 : List (Nat × (List Nat × List (Option Nat × Option Nat))) := []
def dr5 : List (Nat × (List Nat × List (Option Nat × Option Nat))) := []
def dr6 : List (Nat × (List Nat × List (Option Nat × Option Nat))) := []
def dr7 : List (Nat × (List Nat × List (Option Nat × Option Nat))) := [(7, [0, 1, 3, 7, 15, 31, 63, 127, 255, 127, 1023, 2047, 127, 127, 12415, 32767, 65535], [(some 50, none), (some 51, none), (some 52, none), (some 53, none), (some 54, none), (some 55, none), (some 56, none), (some 57, none), (some 58, none), (some 59, none), (some 60, none), (some 61, none), (some 62, none), (some 63, none), (some 64, none), (some 65, none), (some 66, none)])]
def dr8 : List (Nat × (List Nat × List (Option Nat × Option Nat))) := []
def dr9 : List (Nat × (List Nat × List (Option Nat × Option Nat))) := []
def dr10 : List (Nat × (List Nat × List (Option Nat × Option Nat))) := []
def dr11 : List (Nat × (List Nat × List (Option Nat × Option Nat))) := []
def dr12 : List (Nat × (List Nat × List (Option Nat × Option Nat))) := []
def dr13 : List (Nat × (List Nat × List (Option Nat × Option Nat))) := []
def dr14 : List (Nat × (List Nat × List (Option Nat × Option Nat))) := []
def dr15 : List (Nat × (List Nat × List (Option Nat × Option Nat))) := []
def dr16 : List (Nat × (List Nat × List (Option Nat × Option Nat))) := []
def dr17 : List (Nat × (List Nat × List (Option Nat × Option Nat))) := []
def dr18 : List (Nat × (List Nat × List (Option Nat × Option Nat))) := []
def dr19 : List (Nat × (List Nat × List (Option Nat × Option Nat))) := []
def dr20 : List (Nat × (List Nat × List (Option Nat × Option Nat))) := [(9, [0, 1, 0, 4, 0, 16, 60, 127, 255, 511], [(some 48, none), (some 49, none), (some 50, none), (some 51, none), (some 52, none), (some 53, none), (some 54, none), (some 55, none), (some 56, none), (none, some 6)])]
def dr21 : List (Nat × (List Nat × List (Option Nat × Option Nat))) := [(6, [0, 1, 0, 4, 0, 16, 60, 127, 255, 511], [(some 41, none), (some 42, none), (some 43, none), (some 44, none), (some 45, none), (some 46, none), (some 47, none), (some 48, none), (some 49, none), (none, some 6)])]
def dr22 : List (Nat × (List Nat × List (Option Nat × Option Nat))) := []
def dr23 : List (Nat × (List Nat × List (Option Nat × Option Nat))) := [(1, [0, 0, 3, 0, 15, 0, 0, 96, 31, 511], [(some 12, none), (some 13, none), (some 14, none), (some 15, none), (some 16, none), (some 17, none), (some 18, none), (some 19, none), (some 7, none), (some 8, none)])]
def dr24 : List (Nat × (List Nat × List (Option Nat × Option Nat))) := []
def dr25 : List (Nat × (List Nat × List (Option Nat × Option Nat))) := []
def dr26 : List (Nat × (List Nat × List (Option Nat × Option Nat))) := []
def dr27 : List (Nat × (List Nat × List (Option Nat × Option Nat))) := [(3, [0, 1, 3, 7, 15, 31, 15, 79, 15, 271, 975, 2047, 4095], [(some 25, none), (some 26, none), (some 27, none), (some 28, none), (some 29, none), (some 30, none), (some 31, none), (some 32, none), (some 33, none), (some 34, none), (some 35, none), (some 36, none), (some 37, none)])]
def dr28 : List (Nat × (List Nat × List (Option Nat × Option Nat))) := []
def dr29 : List (Nat × (List Nat × List (Option Nat × Option Nat))) := []
def dr30 : List (Nat × (List Nat × List (Option Nat × Option Nat))) := [(1, [0, 1, 3, 7, 15, 31, 63, 127, 255, 511, 1023, 2047, 4095, 8191, 16383, 32767, 65535, 131071, 262143, 524287, 1048575, 2097151, 4194303, 8388607, 16777215, 33554431, 16777215, 83886079, 16777215, 285212671, 1023410175, 2147483647, 4294967295], [(some 7, none), (some 8, none), (some 9, none), (some 10, none), (some 11, none), (some 12, none), (some 13, none), (some 14, none), (some 15, none), (some 16, none), (some 17, none), (some 18, none), (some 19, none), (some 20, none), (some 21, none), (some 22, none), (some 23, none), (some 24, none), (some 25, none), (some 26, none), (some 27, none), (some 28, none), (some 29, none), (some 30, none), (some 31, none), (some 32, none), (some 33, none), (some 34, none), (some 35, none), (some 36, none), (some 37, none), (some 38, none), (some 39, none)])]
def dr31 : List (Nat × (List Nat × List (Option Nat × Option Nat))) := []
def dr32 : List (Nat × (List Nat × List (Option Nat × Option Nat))) := []
def dr33 : List (Nat × (List Nat × List (Option Nat × Option Nat))) := []
def dr34 : List (Nat × (List Nat × List (Option Nat × Option Nat))) := []
def dr35 : List (Nat × (List Nat × List (Option Nat × Option Nat))) := []
def dr36 : List (Nat × (List Nat × List (Option Nat × Option Nat))) := []
def dr37 : List (Nat × (List Nat × List (Option Nat × Option Nat))) := [(6, [0, 0, 3, 0, 0, 24, 7, 127], [(some 28, none), (some 29, none), (some 30, none), (some 31, none), (some 32, none), (some 33, none), (some 6, none), (some 7, none)])]
def dr38 : List (Nat × (List Nat × List (Option Nat × Option Nat))) := []
def dr39 : List (Nat × (List Nat × List (Option Nat × Option Nat))) := []
def dr40 : List (Nat × (List Nat × List (Option Nat × Option Nat))) := []
def dr41 : List (Nat × (List Nat × List (Option Nat × Option Nat))) := []
def dr42 : List (Nat × (List Nat × List (Option Nat × Option Nat))) := []
def dr43 : List (Nat × (List Nat × List (Option Nat × Option Nat))) := []
def dr44 : List (Nat × (List Nat × List (Option Nat × Option Nat))) := []
def dr45 : List (Nat × (List Nat × List (Option Nat × Option Nat))) := []
def dr46 : List (Nat × (List Nat × List (Option Nat × Option Nat))) := []
def dr47 : List (Nat × (List Nat × List (Option Nat × Option Nat))) := []
def dr48 : List (Nat × (List Nat × List (Option Nat × Option Nat))) := []
def dr49 : List (Nat × (List Nat × List (Option Nat × Option Nat))) := []
def dr50 : List (Nat × (List Nat × List (Option Nat × Option Nat))) := []
def dr51 : List (Nat × (List Nat × List (Option Nat × Option Nat))) := []
def dr52 : List (Nat × (List Nat × List (Option Nat × Option Nat))) := []
def dr53 : List (Nat × (List Nat × List (Option Nat × Option Nat))) := []
def dr54 : List (Nat × (List Nat × List (Option Nat × Option Nat))) := []
def dr55 : List (Nat × (List Nat × List (Option Nat × Option Nat))) := []
def dr56 : List (Nat × (List Nat × List (Option Nat × Option Nat))) := []
def dr57 : List (Nat × (List Nat × List (Option Nat × Option Nat))) := []
def dr58 : List (Nat × (List Nat × List (Option Nat × Option Nat))) := []
def dr59 : List (Nat × (List Nat × List (Option Nat × Option Nat))) := []
def dr60 : List (Nat × (List Nat × List (Option Nat × Option Nat))) := []
def dr61 : List (Nat × (List Nat × List (Option Nat × Option Nat))) := []
def dr62 : List (Nat × (List Nat × List (Option Nat × Option Nat))) := []
end Go.Proofs.YtaidaibbeghhdaaDoor
