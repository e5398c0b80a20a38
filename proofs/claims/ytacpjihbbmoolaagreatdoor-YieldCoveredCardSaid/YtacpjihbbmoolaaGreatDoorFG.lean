/- Slices made from numbers; the law of Duty. Whether the law's package is awake; the law of lists of slices. Units taken from the front and from the back; the law that it makes no difference whether they are taken in one or in two times. Shares by the largest remainder (the package apportion); units taken in proportion. Units taken in proportion; the law that each unit is either taken or left. -/
import Derived.Test.YtacpjihbbmoolaaGreatDoorFS
import Derived.Test.YtacpjihbbmoolaaGreatDoorFK
import Derived.Test.YtacpjihbbmoolaaGreatDoorFB

namespace Go.Proofs.YtacpjihbbmoolaaGreatDoor
open Go Go.RowKit
set_option linter.unusedVariables false
set_option linter.unusedSimpArgs false
set_option maxRecDepth 100000
set_option maxHeartbeats 4000000
attribute [local irreducible] ResLe AVle ArgLe ArgP EntLe Dle ResH ArgQ

structure MS where
  i : Nat
  e0 : Int
  e1 : Int
  e2 : Int
  e3 : Int
  us : List Sl
def msE (s : MS) (m : Int) : Int := if m = 0 then s.e0 else if m = 1 then s.e1 else if m = 2 then s.e2 else s.e3
structure MsI (L : List Int) (s : MS) : Prop where
  i : s.i ≤ L.length
  len : s.us.length ≤ 20
  e0 : 0 ≤ s.e0 ∧ s.e0 ≤ 17 * s.us.length
  e1 : 0 ≤ s.e1 ∧ s.e1 ≤ 17 * s.us.length
  e2 : 0 ≤ s.e2 ∧ s.e2 ≤ 17 * s.us.length
  e3 : 0 ≤ s.e3 ∧ s.e3 ≤ 17 * s.us.length
structure MsV (s : MS) : Prop where
  ok : ∀ x ∈ s.us, slOk x ∧ x.m ≤ 4 ∧ x.e ≤ msE s (x.m - 1)
  nm : ¬ anyMeet s.us
end Go.Proofs.YtacpjihbbmoolaaGreatDoor

namespace Go.Proofs.YtacpjihbbmoolaaGreatDoor
open Go Go.RowKit
set_option linter.unusedVariables false
set_option linter.unusedSimpArgs false
set_option maxRecDepth 100000
set_option maxHeartbeats 4000000
attribute [local irreducible] ResLe AVle ArgLe ArgP EntLe Dle ResH ArgQ

end Go.Proofs.YtacpjihbbmoolaaGreatDoor

namespace Go.Proofs.YtacpjihbbmoolaaGreatDoor
open Go Go.RowKit
set_option linter.unusedVariables false
set_option linter.unusedSimpArgs false
set_option maxRecDepth 100000
set_option maxHeartbeats 4000000
attribute [local irreducible] ResLe AVle ArgLe ArgP EntLe Dle ResH ArgQ

noncomputable def takE (us : List Sl) (u m : Int) : Int := if lotErr us ≠ 0 then lotErr us else if u < 0 ∨ cnt us < u ∨ ¬ mOk m then 2 else 0
noncomputable def takA (us : List Sl) (u m : Int) : List Sl := if takE us u m = 0 then divA m (joinL us) u else []
noncomputable def takB (us : List Sl) (u m : Int) : List Sl := if takE us u m = 0 then divB m (joinL us) u else []
theorem tak_ok {us : List Sl} {u m : Int} (h : lotErr us = 0) (hu : 0 ≤ u ∧ u ≤ cnt us) (hm : mOk m) : takE us u m = 0 ∧ takA us u m = divA m (joinL us) u ∧ takB us u m = divB m (joinL us) u := by
  have hE : takE us u m = 0 := by unfold takE; rw [if_neg (by simpa using h), if_neg (by rintro (h1|h1|h1) <;> first|omega|exact h1 hm)]
  exact ⟨hE, by unfold takA; rw [hE, if_pos rfl], by unfold takB; rw [hE, if_pos rfl]⟩

theorem divA1 (us : List Sl) (u : Int) : divA 1 us u = frA us u := by unfold divA ksM frA; rw [if_neg (by decide), if_neg (by decide)]
theorem divB1 (us : List Sl) (u : Int) : divB 1 us u = frB us u := by unfold divB ksM frB; rw [if_neg (by decide), if_neg (by decide)]
theorem divA2 (us : List Sl) (u : Int) : divA 2 us u = frB us (cnt us - u) := by unfold divA; rw [if_pos rfl]
theorem divB2 (us : List Sl) (u : Int) : divB 2 us u = frA us (cnt us - u) := by unfold divB; rw [if_pos rfl]
end Go.Proofs.YtacpjihbbmoolaaGreatDoor

namespace Go.Proofs.YtacpjihbbmoolaaGreatDoor
open Go Go.RowKit
set_option linter.unusedVariables false
set_option linter.unusedSimpArgs false
set_option maxRecDepth 100000
set_option maxHeartbeats 4000000
attribute [local irreducible] ResLe AVle ArgLe ArgP EntLe Dle ResH ArgQ

end Go.Proofs.YtacpjihbbmoolaaGreatDoor

namespace Go.Proofs.YtacpjihbbmoolaaGreatDoor
open Go Go.RowKit
set_option linter.unusedVariables false
set_option linter.unusedSimpArgs false
set_option maxRecDepth 100000
set_option maxHeartbeats 4000000
attribute [local irreducible] ResLe AVle ArgLe ArgP EntLe Dle ResH ArgQ

theorem divA3 (us : List Sl) (u : Int) : divA 3 us u = cutA us (shareL u (lensL us)) := by unfold divA ksM; rw [if_neg (by decide), if_pos rfl]
theorem divB3 (us : List Sl) (u : Int) : divB 3 us u = cutB us (shareL u (lensL us)) := by unfold divB ksM; rw [if_neg (by decide), if_pos rfl]
end Go.Proofs.YtacpjihbbmoolaaGreatDoor
