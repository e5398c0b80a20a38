/-
  DERIVED: THE SHELF's CONTRACTS AT THIS DUMP, IN PLAIN WORDS (tools/lay-plain.mjs out of 'TryLays.lean', which tools/lay-shelf.mjs wrote): THE SAME DECLARATIONS UNDER THE SAME NAMES: 'import', 'namespace', 'open', 'def', 'theorem' AND NOTHING ELSE: no command of the shelf's: FOR A HAND-IN. Each laying: the table of numbers ('.._ren') and one theorem, a field a fact of the dump's own or the kernel's comparison; each contract: ONE APPLICATION.
-/
import Derived.Shelf.SlGeneric
import Derived.Shelf.SlLaysF0
import Derived.Shelf.Lays8
import Derived.Ground.SlsfProg
import Derived.Ground.Names8Prog
import Derived.Test.YtoeghejbgibioaaProg
namespace Go.Proofs
open Go.Shelf
def Try.sort39_ren : Go.Shelf.Ren := ⟨fun | 6 => 39 | 15 => 56 | 14 => 55 | 28 => 66 | 29 => 67 | 20 => 58 | 21 => 59 | 22 => 60 | 23 => 61 | 24 => 62 | 25 => 63 | 26 => 64 | 27 => 65 | 46 => 68 | 47 => 69 | 48 => 70 | 49 => 71 | 50 => 72 | 57 => 73 | n => n, fun | 22 => 23 | 24 => 31 | 25 => 79 | 3 => 3 | 39 => 94 | 0 => 0 | 53 => 103 | 55 => 105 | 4 => 4 | 46 => 97 | 45 => 96 | 50 => 76 | 5 => 5 | 9 => 9 | 66 => 106 | 70 => 110 | 76 => 112 | 77 => 45 | n => n, fun | n => n⟩
theorem Try.sort39 : Go.Proofs.SlLaysF0.n6 Try.prog Try.sort39_ren := {
  mixed := by kernel_rfl
  f6 := ⟨Try.f39.name, by decide, Try.func39.trans (congrArg some (by kernel_rfl))⟩
  f14 := ⟨Try.f55.name, by decide, Try.func55.trans (congrArg some (by kernel_rfl))⟩
  f15 := Try.func56.trans (congrArg some (by kernel_rfl))
  f20 := ⟨Try.f58.name, by decide, Try.func58.trans (congrArg some (by kernel_rfl))⟩
  f21 := ⟨Try.f59.name, by decide, Try.func59.trans (congrArg some (by kernel_rfl))⟩
  f22 := ⟨Try.f60.name, by decide, Try.func60.trans (congrArg some (by kernel_rfl))⟩
  f23 := ⟨Try.f61.name, by decide, Try.func61.trans (congrArg some (by kernel_rfl))⟩
  f24 := ⟨Try.f62.name, by decide, Try.func62.trans (congrArg some (by kernel_rfl))⟩
  f25 := ⟨Try.f63.name, by decide, Try.func63.trans (congrArg some (by kernel_rfl))⟩
  f26 := ⟨Try.f64.name, by decide, Try.func64.trans (congrArg some (by kernel_rfl))⟩
  f27 := ⟨Try.f65.name, by decide, Try.func65.trans (congrArg some (by kernel_rfl))⟩
  f28 := Try.func66.trans (congrArg some (by kernel_rfl))
  f29 := Try.func67.trans (congrArg some (by kernel_rfl))
  f46 := ⟨Try.f68.name, by decide, Try.func68.trans (congrArg some (by kernel_rfl))⟩
  f47 := Try.func69.trans (congrArg some (by kernel_rfl))
  f48 := Try.func70.trans (congrArg some (by kernel_rfl))
  f49 := ⟨Try.f71.name, by decide, Try.func71.trans (congrArg some (by kernel_rfl))⟩
  f50 := ⟨Try.f72.name, by decide, Try.func72.trans (congrArg some (by kernel_rfl))⟩
  f57 := ⟨Try.f73.name, by decide, Try.func73.trans (congrArg some (by kernel_rfl))⟩
  t0 := Try.underlying0
  a0 := Try.isAgg0
  z0 := Try.sizeOf0
  v0 := Try.zeroValue0
  t3 := Try.underlying3
  a3 := Try.isAgg3
  z3 := Try.sizeOf3
  v3 := Try.zeroValue3
  t4 := Try.underlying4
  a4 := Try.isAgg4
  z4 := Try.sizeOf4
  v4 := Try.zeroValue4
  t5 := Try.underlying5
  a5 := Try.isAgg5
  z5 := Try.sizeOf5
  v5 := Try.zeroValue5
  t9 := Try.underlying9
  a9 := Try.isAgg9
  z9 := Try.sizeOf9
  v9 := Try.zeroValue9
  t22 := Try.underlying23
  a22 := Try.isAgg23
  z22 := Try.sizeOf23
  v22 := Try.zeroValue23
  t25 := Try.underlying79
  a25 := Try.isAgg79
  z25 := Try.sizeOf79
  v25 := Try.zeroValue79
  t39 := Try.underlying94
  a39 := Try.isAgg94
  z39 := Try.sizeOf94
  v39 := Try.zeroValue94
  t45 := Try.underlying96
  a45 := Try.isAgg96
  z45 := Try.sizeOf96
  v45 := Try.zeroValue96
  t46 := Try.underlying97
  a46 := Try.isAgg97
  z46 := Try.sizeOf97
  v46 := Try.zeroValue97
  t50 := Try.underlying76
  a50 := Try.isAgg76
  z50 := Try.sizeOf76
  v50 := Try.zeroValue76
  t53 := Try.underlying103
  a53 := Try.isAgg103
  z53 := Try.sizeOf103
  v53 := Try.zeroValue103
  t55 := Try.underlying105
  a55 := Try.isAgg105
  z55 := Try.sizeOf105
  v55 := Try.zeroValue105
  t66 := Try.underlying106
  a66 := Try.isAgg106
  z66 := Try.sizeOf106
  v66 := Try.zeroValue106
  t70 := Try.underlying110
  a70 := Try.isAgg110
  z70 := Try.sizeOf110
  v70 := Try.zeroValue110
  t76 := Try.underlying112
  a76 := Try.isAgg112
  z76 := Try.sizeOf112
  v76 := Try.zeroValue112
  t77 := Try.underlying45
  a77 := Try.isAgg45
  z77 := Try.sizeOf45
  v77 := Try.zeroValue45 }
end Go.Proofs
