/- The types of the seat's program that are wanted, and its regions that draw their order (written by a program of mine). -/
import Derived.Test.YtdfnnbamkaldmaaRows
import Derived.Test.YtdfnnbamkaldmaaVB
import Derived.KernelRfl
namespace Go.Proofs.Ytdfnnbamkaldmaa
open Go Go.RowKit
set_option linter.unusedVariables false
set_option linter.unusedSimpArgs false

def ti3 : TI := ⟨.int .i64, 1, .int .i64 0⟩
theorem tio3 : TIok Try.prog 3 ti3 := TIok.mk Try.underlying3 rfl (fun _ h => by cases h) (by kernel_rfl) (Try.underlying3)
def ti5 : TI := ⟨.int .u8, 1, .int .u8 0⟩
theorem tio5 : TIok Try.prog 5 ti5 := TIok.mk Try.underlying5 rfl (fun _ h => by cases h) (by kernel_rfl) (Try.underlying5)
def ti9 : TI := ⟨.str, 1, .string ByteArray.empty⟩
theorem tio9 : TIok Try.prog 9 ti9 := TIok.mk Try.underlying9 rfl (fun _ h => by cases h) (by kernel_rfl) (Try.underlying9)
def ti22 : TI := ⟨.slice 3 1 8 (.int .i64 0), 1, .slice none 0 0⟩
theorem tio22 : TIok Try.prog 22 ti22 := TIok.mk Try.underlying22 rfl (fun _ h => by cases h) (by kernel_rfl) (slice_ok Try.underlying22 (by kernel_rfl))
def ti23 : TI := ⟨.slice 27 3 32 (.agg #[.string ByteArray.empty, .int .i64 0, .int .i64 0]), 1, .slice none 0 0⟩
theorem tio23 : TIok Try.prog 23 ti23 := TIok.mk Try.underlying23 rfl (fun _ h => by cases h) (by kernel_rfl) (slice_ok Try.underlying23 (by kernel_rfl))
def ti27 : TI := ⟨.struct [(0, 1), (1, 1), (2, 1)], 3, .agg #[.string ByteArray.empty, .int .i64 0, .int .i64 0]⟩
theorem tio27 : TIok Try.prog 27 ti27 := TIok.mk Try.underlying27 rfl (fun _ h => by cases h) (by kernel_rfl) (fields_ok Try.underlying27 (by kernel_rfl))
def ti28 : TI := ⟨.int .i64, 1, .int .i64 0⟩
theorem tio28 : TIok Try.prog 28 ti28 := TIok.mk Try.underlying28 rfl (fun _ h => by cases h) (by kernel_rfl) (Try.underlying28)
def ti32 : TI := ⟨.int .i64, 1, .int .i64 0⟩
theorem tio32 : TIok Try.prog 32 ti32 := TIok.mk Try.underlying32 rfl (fun _ h => by cases h) (by kernel_rfl) (Try.underlying32)
def ti35 : TI := ⟨.cell, 1, .pointer none⟩
theorem tio35 : TIok Try.prog 35 ti35 := TIok.mk Try.underlying35 rfl (fun _ h => by cases h) (by kernel_rfl) (trivial)
def ti38 : TI := ⟨.struct [(0, 1), (1, 1)], 2, .agg #[.slice none 0 0, .int .i64 0]⟩
theorem tio38 : TIok Try.prog 38 ti38 := TIok.mk Try.underlying38 rfl (fun _ h => by cases h) (by kernel_rfl) (fields_ok Try.underlying38 (by kernel_rfl))
def ti39 : TI := ⟨.slice 9 1 16 (.string ByteArray.empty), 1, .slice none 0 0⟩
theorem tio39 : TIok Try.prog 39 ti39 := TIok.mk Try.underlying39 rfl (fun _ h => by cases h) (by kernel_rfl) (slice_ok Try.underlying39 (by kernel_rfl))
def ti47 : TI := ⟨.map 9 3, 1, .map none⟩
theorem tio47 : TIok Try.prog 47 ti47 := TIok.mk Try.underlying47 rfl (fun _ h => by cases h) (by kernel_rfl) (⟨Try.underlying47, Try.underlying9, Try.underlying3, map_elem (by kernel_rfl)⟩)
def ti51 : TI := ⟨.int .u64, 1, .int .u64 0⟩
theorem tio51 : TIok Try.prog 51 ti51 := TIok.mk Try.underlying51 rfl (fun _ h => by cases h) (by kernel_rfl) (Try.underlying51)
def ti58 : TI := ⟨.struct [(0, 1), (1, 1)], 2, .agg #[.int .u64 0, .int .u64 0]⟩
theorem tio58 : TIok Try.prog 58 ti58 := TIok.mk Try.underlying58 rfl (fun _ h => by cases h) (by kernel_rfl) (fields_ok Try.underlying58 (by kernel_rfl))
def ti66 : TI := ⟨.int .u64, 1, .int .u64 0⟩
theorem tio66 : TIok Try.prog 66 ti66 := TIok.mk Try.underlying66 rfl (fun _ h => by cases h) (by kernel_rfl) (Try.underlying66)
def tT : List (Nat × TI) := [(3, ti3), (5, ti5), (9, ti9), (22, ti22), (23, ti23), (27, ti27), (28, ti28), (32, ti32), (35, ti35), (38, ti38), (39, ti39), (47, ti47), (51, ti51), (58, ti58), (66, ti66)]
theorem tT_ok : ∀ t ti, lk t tT = some ti → TIok Try.prog t ti := tiAll [(3, ti3), (5, ti5), (9, ti9), (22, ti22), (23, ti23), (27, ti27), (28, ti28), (32, ti32), (35, ti35), (38, ti38), (39, ti39), (47, ti47), (51, ti51), (58, ti58), (66, ti66)] (⟨tio3, ⟨tio5, ⟨tio9, ⟨tio22, ⟨tio23, ⟨tio27, ⟨tio28, ⟨tio32, ⟨tio35, ⟨tio38, ⟨tio39, ⟨tio47, ⟨tio51, ⟨tio58, ⟨tio66, trivial⟩⟩⟩⟩⟩⟩⟩⟩⟩⟩⟩⟩⟩⟩⟩)
theorem mixed : Try.prog.follows .mixedOrders = true := by kernel_rfl
/- no draws: 0 1 2 5 6 7 8 9 10 12 13 14 16 17 18 19 20 21 22 23 25 26 27 28 29 30 31 32 33 34 35 36 37 38 39 40 41 42 43 44 45 46 -/
def dr3 : List (Nat × (List Nat × List (Option Nat × Option Nat))) := [(4, [0, 0, 3, 0, 8, 31, 63], [(some 33, some 33), (some 34, none), (some 35, some 33), (some 36, none), (some 37, some 37), (some 38, some 33), (some 15, none)])]
def dr4 : List (Nat × (List Nat × List (Option Nat × Option Nat))) := [(11, [0, 0, 0, 6, 14, 0, 0, 64, 192, 510, 1022, 2047, 4095], [(some 28, none), (some 29, none), (some 30, none), (some 31, none), (some 32, none), (some 33, none), (some 34, none), (some 35, some 12), (some 36, none), (some 37, none), (some 38, some 38), (some 39, some 39), (some 4, none)])]
def dr11 : List (Nat × (List Nat × List (Option Nat × Option Nat))) := [(1, [0, 1, 3, 7, 0, 16, 48, 112, 240, 511], [(some 5, none), (some 6, none), (some 7, none), (some 8, none), (some 9, none), (some 10, none), (some 11, none), (some 12, none), (some 13, none), (some 14, none)]), (4, [0, 1, 3, 7, 0, 16, 48, 112, 240, 511, 1023, 0, 4095, 8191], [(some 22, none), (some 23, none), (some 24, none), (some 25, none), (some 26, none), (some 27, none), (some 28, none), (some 29, none), (some 30, none), (some 31, none), (some 32, none), (some 33, none), (some 34, none), (some 4, none)])]
def dr15 : List (Nat × (List Nat × List (Option Nat × Option Nat))) := [(10, [0, 1, 3, 7, 7, 23, 63, 127, 7, 511, 1023, 2047], [(some 42, none), (some 43, none), (some 44, none), (some 45, none), (some 46, none), (some 47, none), (some 48, none), (some 49, none), (some 50, none), (some 51, none), (some 52, none), (some 53, none)])]
end Go.Proofs.Ytdfnnbamkaldmaa
