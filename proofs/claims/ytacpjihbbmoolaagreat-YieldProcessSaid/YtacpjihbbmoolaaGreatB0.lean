/- Lots and stocks: their descriptions, and what the package computes of them (plain definitions). -/
import Derived.Test.YtacpjihbbmoolaaGreatGU
namespace Go.Proofs.YtacpjihbbmoolaaGreat
open Go Go.RowKit
set_option linter.unusedVariables false
set_option linter.unusedSimpArgs false
set_option maxRecDepth 100000
set_option maxHeartbeats 4000000
attribute [local irreducible] ResLe AVle ArgLe ArgP EntLe Dle ResH ArgQ

def fillL (F : Nat → Int) (n k : Nat) : List Int := (List.range n).map fun i => if i < k then F i else 0
theorem fillL_len (F : Nat → Int) (n k : Nat) : (fillL F n k).length = n := by simp [fillL]
theorem fillL_zero (F : Nat → Int) (n i : Nat) : (fillL F n 0).getD i 0 = 0 := by
  unfold fillL
  by_cases h : i < n
  · simp [h]
  · simp [h]
theorem fillL_set (F : Nat → Int) (n k : Nat) : (fillL F n k).set k (F k) = fillL F n (k + 1) := by
  apply List.ext_getElem?
  intro i
  unfold fillL
  rw [List.getElem?_set]
  by_cases h : k = i
  · subst h
    rw [if_pos rfl]
    by_cases hk : k < n
    · simp [hk]
    · simp [hk]
  · rw [if_neg h]
    by_cases hi : i < n
    · simp [hi]
      have : i < k + 1 ↔ i < k := by omega
      simp [this]
    · simp [hi]
theorem fillL_full (F : Nat → Int) (n : Nat) : fillL F n n = (List.range n).map F := by
  unfold fillL
  apply List.map_congr_left
  intro i hi
  rw [if_pos (List.mem_range.1 hi)]
structure Lt where
  id : Int
  c : ByteArray
  q : Int
  p : Int
  us : List Sl
  deriving Inhabited
abbrev sA (c : ByteArray) : AV := .dat (.val (.string c))
abbrev ltA (x : Lt) : AV := .agg [iA x.id, sA x.c, iA x.q, iA x.p, .dat (slD x.us)]
def ltE (x : Lt) (j : Nat) : D := match j with
  | 0 => .val (.int .i64 x.id)
  | 1 => .val (.string x.c)
  | 2 => .val (.int .i64 x.q)
  | 3 => .val (.int .i64 x.p)
  | _ => slD x.us
abbrev ltD (ss : List Lt) : D := .lst 5 ss.length (rowF ltE ss)
def codeOk (c : ByteArray) : Prop := c.size = 8 ∧ ∀ i, i < 8 → 48 ≤ byteAt c i ∧ byteAt c i ≤ 57
noncomputable instance (c : ByteArray) : Decidable (codeOk c) := Classical.propDecidable _
def idOk (n : Int) : Prop := 1 ≤ n ∧ n ≤ 1000000
def qOk (n : Int) : Prop := 1 ≤ n ∧ n ≤ 1000000000
instance (n : Int) : Decidable (idOk n) := by unfold idOk; exact inferInstance
instance (n : Int) : Decidable (qOk n) := by unfold qOk; exact inferInstance
def ltOk (x : Lt) : Prop := idOk x.id ∧ codeOk x.c ∧ qOk x.q ∧ (1 ≤ x.p ∧ x.p ≤ 13) ∧ ∀ s ∈ x.us, slOk s
noncomputable instance (x : Lt) : Decidable (ltOk x) := Classical.propDecidable _
def here (ss : List Lt) : List (List Sl) := (ss.filter fun x => decide (x.p ≠ 13)).map Lt.us
def reps (ss : List Lt) : Prop := (∃ x ∈ ss, x.p = 13 ∧ ovl x.us) ∨ ovl (here ss).flatten
noncomputable instance (ss : List Lt) : Decidable (reps ss) := Classical.propDecidable _
def ascI (ss : List Lt) : Prop := ∀ i, i + 1 < ss.length → (ss.getD i default).id < (ss.getD (i + 1) default).id
noncomputable instance (ss : List Lt) : Decidable (ascI ss) := Classical.propDecidable _
noncomputable def stkErr (ss : List Lt) : Int := if 64 < ss.length then 8 else if ∃ x ∈ ss, 64 < x.us.length then 8 else if ¬ (∀ x ∈ ss, ltOk x) then 2 else if ∃ x ∈ ss, (joinL x.us).length ≠ x.us.length then 1 else if ¬ ascI ss then 9 else if reps ss then 13 else 0
def findI (ss : List Lt) (id : Int) : Nat := (ss.takeWhile fun x => decide (x.id ≠ id)).length
def takenP (ss : List Lt) (id : Int) : Prop := ∃ x ∈ ss, x.id = id ∨ ∃ s ∈ x.us, s.m = id
noncomputable instance (ss : List Lt) (id : Int) : Decidable (takenP ss id) := Classical.propDecidable _

end Go.Proofs.YtacpjihbbmoolaaGreat
