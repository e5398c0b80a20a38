/- Searching a reservation, and splicing a list. -/
import Derived.Test.YteilknlokjfelaaGua1
import Derived.Test.YteilknlokjfelaaAppAny
import Derived.Laws.MakeOwn
import Derived.Laws.Entries
namespace Go.Proofs.Yteilknlokjfelaa
open Go.RowKit Go.Sort
set_option linter.unusedVariables false

theorem isNaN_any (a : Int) (w : World) : Calls Try.prog 51 #[.int .i64 a] w fun e w' => e = .returned (.bool false) ∧ w = w' := by
  have h : (a != a) = false := by simp
  go_enter Try.func51, Try.ntmps51
  go_wp2
  go_ret
  exact ⟨rfl, rfl⟩

def cmp3 (a b : Int) : Int := if a < b then -1 else if b < a then 1 else 0
set_option maxHeartbeats 400000 in
theorem cmp_any (a b : Int) (w : World) : Calls Try.prog 47 #[.int .i64 a, .int .i64 b] w fun e w' => e = .returned (.int .i64 (cmp3 a b)) ∧ w = w' := by
  by_cases h1 : a < b
  · have HV : Hid (cmp3 a b = -1) := if_pos h1
    go_enter Try.func47, Try.ntmps47
    go_wp2_with (go_at_call 51; refine (isNaN_any _ _).mono ?_; rintro e w' ⟨rfl, rfl⟩)
    go_ret
    exact ⟨by rw [HV.out]; rfl, rfl⟩
  · by_cases h2 : b < a
    · have HV : Hid (cmp3 a b = 1) := by show cmp3 a b = 1; unfold cmp3; rw [if_neg h1, if_pos h2]
      go_enter Try.func47, Try.ntmps47
      go_wp2_with (go_at_call 51; refine (isNaN_any _ _).mono ?_; rintro e w' ⟨rfl, rfl⟩)
      go_ret
      exact ⟨by rw [HV.out]; rfl, rfl⟩
    · have HV : Hid (cmp3 a b = 0) := by show cmp3 a b = 0; unfold cmp3; rw [if_neg h1, if_neg h2]
      go_enter Try.func47, Try.ntmps47
      go_wp2_with (go_at_call 51; refine (isNaN_any _ _).mono ?_; rintro e w' ⟨rfl, rfl⟩)
      go_ret
      exact ⟨by rw [HV.out]; rfl, rfl⟩

set_option maxHeartbeats 400000 in
theorem searchCmp_any (x : Rv) (mv : Int) : Fn 46 #[.agg #[.int .i64 x.m, .int .i64 x.a], .int .i64 mv] (.int .i64 (cmp3 x.m mv)) := by
  intro w
  go_enter Try.func46, Try.ntmps46
  go_wp2_with fail
  refine (cmp_any _ _ _).mono ?_
  rintro e w1 ⟨rfl, rfl⟩
  go_wp2_with fail
  go_ret
  exact ⟨rfl, (by repeat (first | exact Below.refl _ _ | assumption | refine ext_alloc ?_ _ | refine Below.drew ?_ | refine drewN_below ?_ _ | refine ext_trans ?_ (by assumption) | refine Below.alloc ?_ ?_ _ | refine Below.setCell ?_ ?_ _ | omega | (simp <;> omega)))⟩

/-- The place of a movement in a list that ascends. -/
def PlaceIs (us : List Rv) (mv : Int) (i : Nat) : Prop := i ≤ us.length ∧ (∀ k (h : k < us.length), k < i → us[k].m < mv) ∧ ∀ k (h : k < us.length), i ≤ k → mv ≤ us[k].m
def foundB (us : List Rv) (mv : Int) (i : Nat) : Bool := match us[i]? with | none => false | some x => x.m == mv
def Asc (us : List Rv) : Prop := ∀ j k (hj : j < us.length) (hk : k < us.length), j < k → us[j].m < us[k].m

set_option maxRecDepth 100000 in
set_option maxHeartbeats 1000000 in
theorem bsearch_any (w : World) (A : Option Addr) (cap : Nat) (us : List Rv) (mv : Int) (hA : Rvs w w.heap.size A us) (hn : us.length ≤ 1000) (ha : Asc us) :
    Calls Try.prog 45 #[.slice A us.length cap, .int .i64 mv, .func (.func 46) #[] #[]] w fun e w' => (∃ i : Nat, PlaceIs us mv i ∧ e = .returned (.tuple #[.int .i64 i, .bool (foundB us mv i)])) ∧ Below w.heap.size w w' := by
  go_enter Try.func45, Try.ntmps45
  go_wp2_with fail
  go_loopw [9, 10, 11] (fun lo hi m wr => ∃ a b : Nat, a ≤ b ∧ b ≤ us.length ∧ lo = .int .i64 a ∧ hi = .int .i64 b ∧ Hid (∀ k (h : k < us.length), k < a → us[k].m < mv) ∧ Hid (∀ k (h : k < us.length), b ≤ k → mv ≤ us[k].m) ∧ Below w.heap.size w wr) (fun lo hi _ _ => ((intOf hi) - (intOf lo)).toNat)
  case atStart => exact ⟨0, us.length, by omega, by omega, rfl, rfl, Lib.hid (fun k h h0 => absurd h0 (by omega)), Lib.hid (fun k h h0 => absurd h0 (by omega)), Below.refl _ _⟩
  case round =>
    obtain ⟨a, b, hab, hbn, rfl, rfl, HL, HR, hbl⟩ := hrel
    by_cases hlt : a < b
    · have h1 : a ≤ (a + b) / 2 := by omega
      have h2 : (a + b) / 2 < b := by omega
      obtain ⟨ad, hA', hB, c0, c1⟩ := Rvs.at_ (RowsW.below hA hbl) (k := (a + b) / 2) (by omega)
      have HX : Hid (us[(a + b) / 2]? = some (us[(a + b) / 2]'(by omega))) := Lib.hid (List.getElem?_eq_getElem (by omega))
      have HB := Lib.hid fun (k : Nat) (hk : k < us.length) (h : k < (a + b) / 2) => ha k ((a + b) / 2) hk (by omega) h
      have HC := Lib.hid fun (k : Nat) (hk : k < us.length) (h : (a + b) / 2 < k) => ha ((a + b) / 2) k (by omega) hk h
      have hsw := hbl.size
      have hcast : (((a + b) / 2 : Nat) : Int) = ((a : Int) + b) / 2 := by omega
      have HH := Lib.hid hcast
      clear hcast
      subst hA'
      by_cases hc : us[(a + b) / 2].m < mv
      · have hcmp : cmp3 (us[(a + b) / 2]'(by omega)).m mv = -1 := if_pos hc
        have HCm := Lib.hid hcmp
        have HLt := Lib.hid hc
        clear hcmp hc
        go_wp2_with fail
        refine (searchCmp_any _ _ _).mono ?_
        rintro e w1 ⟨rfl, hb1⟩
        rw [HCm.out]
        go_wp2_with fail
        go_roundw
        case rel =>
          refine ⟨(a + b) / 2 + 1, b, by omega, by omega, ?_, rfl, Lib.hid (fun k hk hlt => ?_), HR, (by repeat (first | exact Below.refl _ _ | assumption | refine ext_alloc ?_ _ | refine Below.drew ?_ | refine drewN_below ?_ _ | refine ext_trans ?_ (by assumption) | refine Below.alloc ?_ ?_ _ | refine Below.setCell ?_ ?_ _ | omega | (simp <;> omega)))⟩
          · rw [← HH.out]; go_num
          · by_cases hk2 : k < (a + b) / 2
            · have := HB.out k hk hk2
              have := HLt.out
              omega
            · obtain rfl : k = (a + b) / 2 := by omega
              exact HLt.out
        case measure => simp [intOf]; omega
      · have hcmp : ¬ cmp3 (us[(a + b) / 2]'(by omega)).m mv < 0 := by unfold cmp3; rw [if_neg hc]; split <;> omega
        have HLt := Lib.hid hc
        clear hc
        generalize hcm : cmp3 (us[(a + b) / 2]'(by omega)).m mv = cm at *
        have HCm := Lib.hid hcm
        clear hcm
        go_wp2_with fail
        refine (searchCmp_any _ _ _).mono ?_
        rintro e w1 ⟨rfl, hb1⟩
        rw [HCm.out]
        go_wp2_with fail
        go_roundw
        case rel =>
          refine ⟨a, (a + b) / 2, by omega, by omega, rfl, ?_, HL, Lib.hid (fun k hk hlt => ?_), (by repeat (first | exact Below.refl _ _ | assumption | refine ext_alloc ?_ _ | refine Below.drew ?_ | refine drewN_below ?_ _ | refine ext_trans ?_ (by assumption) | refine Below.alloc ?_ ?_ _ | refine Below.setCell ?_ ?_ _ | omega | (simp <;> omega)))⟩
          · rw [← HH.out]
          · by_cases hk2 : k = (a + b) / 2
            · subst hk2
              have := HLt.out
              omega
            · have := HC.out k hk (by omega)
              have := HLt.out
              omega
        case measure => simp [intOf]; omega
    · obtain rfl : a = b := by omega
      have HP : Hid (PlaceIs us mv a) := ⟨by omega, HL.out, HR.out⟩
      clear HL HR
      have hsw := hbl.size
      by_cases hal : a < us.length
      · obtain ⟨ad, hA', hB, c0, c1⟩ := Rvs.at_ (RowsW.below hA hbl) (k := a) (by omega)
        have HF : Hid (foundB us mv a = (us[a].m == mv)) := by show foundB us mv a = _; unfold foundB; rw [List.getElem?_eq_getElem hal]
        subst hA'
        cases he : us[a].m == mv
        · have hcmp : cmp3 us[a].m mv ≠ 0 := by unfold cmp3; simp at he; split <;> (try split) <;> omega
          have hcb : (cmp3 us[a].m mv == 0) = false := by simpa using hcmp
          rw [he] at HF
          clear hcmp he
          go_wp2_with fail
          refine (searchCmp_any _ _ _).mono ?_
          rintro e w1 ⟨rfl, hb1⟩
          go_wp2_with fail
          go_ret2
          exact ⟨⟨a, HP.out, by rw [HF.out]; rfl⟩, (by repeat (first | exact Below.refl _ _ | assumption | refine ext_alloc ?_ _ | refine Below.drew ?_ | refine drewN_below ?_ _ | refine ext_trans ?_ (by assumption) | refine Below.alloc ?_ ?_ _ | refine Below.setCell ?_ ?_ _ | omega | (simp <;> omega)))⟩
        · have hcmp : cmp3 us[a].m mv = 0 := by unfold cmp3; simp at he; split <;> (try split) <;> omega
          have HCm := Lib.hid hcmp
          rw [he] at HF
          clear hcmp he
          go_wp2_with fail
          refine (searchCmp_any _ _ _).mono ?_
          rintro e w1 ⟨rfl, hb1⟩
          rw [HCm.out]
          go_wp2_with fail
          go_ret2
          exact ⟨⟨a, HP.out, by rw [HF.out]; rfl⟩, (by repeat (first | exact Below.refl _ _ | assumption | refine ext_alloc ?_ _ | refine Below.drew ?_ | refine drewN_below ?_ _ | refine ext_trans ?_ (by assumption) | refine Below.alloc ?_ ?_ _ | refine Below.setCell ?_ ?_ _ | omega | (simp <;> omega)))⟩
      · have HF : Hid (foundB us mv a = false) := by show foundB us mv a = _; unfold foundB; rw [List.getElem?_eq_none (by omega)]
        go_wp2_with fail
        go_ret2
        exact ⟨⟨a, HP.out, by rw [HF.out]; rfl⟩, (by repeat (first | exact Below.refl _ _ | assumption | refine ext_alloc ?_ _ | refine Below.drew ?_ | refine drewN_below ?_ _ | refine ext_trans ?_ (by assumption) | refine Below.alloc ?_ ?_ _ | refine Below.setCell ?_ ?_ _ | omega | (simp <;> omega)))⟩

set_option maxHeartbeats 400000 in
theorem search_any (w : World) (A : Option Addr) (cap : Nat) (us : List Rv) (mv : Int) (hA : Rvs w w.heap.size A us) (hn : us.length ≤ 1000) (ha : Asc us) :
    Calls Try.prog 36 #[.slice A us.length cap, .int .i64 mv] w fun e w' => (∃ i : Nat, PlaceIs us mv i ∧ e = .returned (.tuple #[.int .i64 i, .bool (foundB us mv i)])) ∧ Below w.heap.size w w' := by
  have H := Lib.hid (bsearch_any w A cap us mv hA hn ha)
  go_enter Try.func36, Try.ntmps36
  go_wp2_with fail
  refine H.out.mono ?_
  rintro e w1 ⟨⟨i, hi, rfl⟩, hb1⟩
  have HI := Lib.hid hi
  clear hi
  go_wp2_with fail
  go_ret2
  exact ⟨⟨i, HI.out, rfl⟩, hb1⟩

end Go.Proofs.Yteilknlokjfelaa
