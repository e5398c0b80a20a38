/- The laws of layer 5 that only compare. -/
import Derived.Test.YtjlfllhokhekbaaLaw05
namespace Go.Proofs.Ytjlfllhokhekbaa
open Go.RowKit Go.Sort
set_option linter.unusedVariables false

/-- A function over a table that reads as t. -/
def FnT (A : Option Addr) (t : List Ex) (f : FuncId) (args : Array Value) (v : Value) : Prop := ∀ w, Tab w w.heap.size A t → Calls Try.prog f args w fun e w' => e = .returned v ∧ Below w.heap.size w w'

theorem and3 (x : Int) : ∃ m : Int, bits .and .i64 x 3 = m ∧ 0 ≤ m ∧ m ≤ 3 := by
  refine ⟨_, rfl, ?_⟩
  show 0 ≤ IntKind.i64.wrap ((BitVec.ofInt 64 x &&& BitVec.ofInt 64 3).toNat : Int) ∧ IntKind.i64.wrap ((BitVec.ofInt 64 x &&& BitVec.ofInt 64 3).toNat : Int) ≤ 3
  rw [BitVec.toNat_and, IntKind.wrap_i64]
  have : (BitVec.ofInt 64 x).toNat &&& (BitVec.ofInt 64 3).toNat ≤ 3 := Nat.and_le_right
  omega

set_option maxHeartbeats 1000000 in
theorem lawAt (w : World) (A : Option Addr) (c : Nat) (xs : List Int) (cc day : Int) (raw : Bool) (hA : Ints w w.heap.size A xs) (hn : xs.length ≤ c) (hc : c ≤ maxLen) :
    Calls Try.prog 4 #[.slice A xs.length c, .int .i64 cc, .int .i64 day, .bool raw] w fun e w' => e = .returned (.bool true) ∧ Below w.heap.size w w' := by
  have HT := Lib.hid (madeTab w A c xs hA hn hc)
  have HC := Lib.hid (currency_any cc)
  have HW := Lib.hid (within_any day 120 (by omega) (by omega))
  have hcl := curOf_len cc
  have main : ∀ (A' : Option Addr) (c' : Nat) (t : List Ex) (D : Int), t.length ≤ 9 → (∀ k, exErr t k = 0) → ∃ u1 u2 : Int, FnT A' t 15 #[.slice A' t.length c', .string (curOf cc), .int .i64 D] (.tuple #[.int .i64 u1, .int .i64 u2]) ∧ FnT A' t 17 #[.slice A' t.length c', .string (curOf cc), .int .i64 D] (.tuple #[.int .i64 u1, .int .i64 u2]) := by
    intro A' c' t D hl hE
    have hml : t.length ≤ maxLen := by unfold maxLen; omega
    exact ⟨_, _, fun w h => at_any w A' c' t (curOf cc) D h hml (tab_len t hE) hcl, fun w h => rAt_any w A' c' t (curOf cc) D h hml (tab_len t hE)⟩
  have HM := Lib.hid main
  clear main hcl
  generalize curOf cc = cs at *
  cases raw
  · go_enter Try.func4, Try.ntmps4
    go_wp2_with fail
    refine HT.out.mono ?_
    rintro e w1 ⟨⟨A', c', t, rfl, hT1, hl, hE, _⟩, hb1⟩
    obtain ⟨u1, u2, H1, H2⟩ := HM.out A' c' t (day % 120) hl hE
    have HE := Lib.hid hE
    clear hE
    go_wp2_with fail
    refine (HW.out _).mono ?_
    rintro e w2 ⟨rfl, hb2⟩
    generalize day % 120 = D at *
    have hT2 := RowsW.ext hT1 hb2
    go_wp2_with fail
    refine (HC.out _).mono ?_
    rintro e w3 ⟨rfl, hb3⟩
    have hT3 := RowsW.ext hT2 hb3
    go_wp2_with fail
    refine (H1 _ hT3).mono ?_
    rintro e w4 ⟨rfl, hb4⟩
    have hT4 := RowsW.ext hT3 hb4
    go_wp2_with fail
    refine (HC.out _).mono ?_
    rintro e w5 ⟨rfl, hb5⟩
    have hT5 := RowsW.ext hT4 hb5
    go_wp2_with fail
    refine (H2 _ hT5).mono ?_
    rintro e w6 ⟨rfl, hb6⟩
    go_wp2_with fail
    refine (awake5 _).mono ?_
    rintro e w7 ⟨rfl, hb7⟩
    go_wp2_with fail
    go_ret
    exact ⟨rfl, (by repeat (first | exact Below.refl _ _ | assumption | refine ext_alloc ?_ _ | refine Below.drew ?_ | refine drewN_below ?_ _ | refine ext_trans ?_ (by assumption) | refine Below.alloc ?_ ?_ _ | refine Below.setCell ?_ ?_ _ | omega | (simp <;> omega)))⟩
  · go_enter Try.func4, Try.ntmps4
    go_wp2_with fail
    refine HT.out.mono ?_
    rintro e w1 ⟨⟨A', c', t, rfl, hT1, hl, hE, _⟩, hb1⟩
    obtain ⟨u1, u2, H1, H2⟩ := HM.out A' c' t day hl hE
    have HE := Lib.hid hE
    clear hE
    go_wp2_with fail
    refine (HC.out _).mono ?_
    rintro e w3 ⟨rfl, hb3⟩
    have hT3 := RowsW.ext hT1 hb3
    go_wp2_with fail
    refine (H1 _ hT3).mono ?_
    rintro e w4 ⟨rfl, hb4⟩
    have hT4 := RowsW.ext hT3 hb4
    go_wp2_with fail
    refine (HC.out _).mono ?_
    rintro e w5 ⟨rfl, hb5⟩
    have hT5 := RowsW.ext hT4 hb5
    go_wp2_with fail
    refine (H2 _ hT5).mono ?_
    rintro e w6 ⟨rfl, hb6⟩
    go_wp2_with fail
    refine (awake5 _).mono ?_
    rintro e w7 ⟨rfl, hb7⟩
    go_wp2_with fail
    go_ret
    exact ⟨rfl, (by repeat (first | exact Below.refl _ _ | assumption | refine ext_alloc ?_ _ | refine Below.drew ?_ | refine drewN_below ?_ _ | refine ext_trans ?_ (by assumption) | refine Below.alloc ?_ ?_ _ | refine Below.setCell ?_ ?_ _ | omega | (simp <;> omega)))⟩

set_option maxHeartbeats 1000000 in
theorem lawAtRaw (w : World) (A : Option Addr) (c : Nat) (xs : List Ex) (cs : ByteArray) (day : Int) (hA : Tab w w.heap.size A xs) (hn : xs.length ≤ c) (hc : c ≤ maxLen) (hx : ∀ x ∈ xs, x.c.size ≤ maxLen) (hcs : cs.size ≤ maxLen) :
    Calls Try.prog 5 #[.slice A xs.length c, .string cs, .int .i64 day] w fun e w' => e = .returned (.bool true) ∧ Below w.heap.size w w' := by
  have main : ∀ (A' : Option Addr) (c' : Nat) (t : List Ex), t.length ≤ maxLen → (∀ x ∈ t, x.c.size ≤ maxLen) → ∃ u1 u2 : Int, FnT A' t 15 #[.slice A' t.length c', .string cs, .int .i64 day] (.tuple #[.int .i64 u1, .int .i64 u2]) ∧ FnT A' t 17 #[.slice A' t.length c', .string cs, .int .i64 day] (.tuple #[.int .i64 u1, .int .i64 u2]) := by
    intro A' c' t hml ht
    exact ⟨_, _, fun w h => at_any w A' c' t cs day h hml ht hcs, fun w h => rAt_any w A' c' t cs day h hml ht⟩
  by_cases hlen : 300 < xs.length
  · have hl3 : (xs.take 300).length = 300 := by simp; omega
    obtain ⟨u1, u2, H1, H2⟩ := main A c (xs.take 300) (by rw [hl3]; unfold maxLen; omega) (fun x h => hx x (List.mem_of_mem_take h))
    have hT : Tab w w.heap.size A (xs.take 300) := by unfold Tab; rw [List.map_take]; exact RowsW.take hA 300
    rw [hl3] at H1 H2
    have h3 : (300 : Int) < xs.length := by omega
    have h4 : (300 : Int) ≤ c := by omega
    unfold maxLen at hc
    clear main hx hA hl3
    go_enter Try.func5, Try.ntmps5
    go_wp2_with fail
    refine (H1 _ hT).mono ?_
    rintro e w4 ⟨rfl, hb4⟩
    have hT4 := RowsW.ext hT hb4
    go_wp2_with fail
    refine (H2 _ hT4).mono ?_
    rintro e w6 ⟨rfl, hb6⟩
    go_wp2_with fail
    refine (awake5 _).mono ?_
    rintro e w7 ⟨rfl, hb7⟩
    go_wp2_with fail
    go_ret
    exact ⟨rfl, (by repeat (first | exact Below.refl _ _ | assumption | refine ext_alloc ?_ _ | refine Below.drew ?_ | refine drewN_below ?_ _ | refine ext_trans ?_ (by assumption) | refine Below.alloc ?_ ?_ _ | refine Below.setCell ?_ ?_ _ | omega | (simp <;> omega)))⟩
  · obtain ⟨u1, u2, H1, H2⟩ := main A c xs (by omega) hx
    have h3 : ¬ (300 : Int) < xs.length := by omega
    clear main hx
    go_enter Try.func5, Try.ntmps5
    go_wp2_with fail
    refine (H1 _ hA).mono ?_
    rintro e w4 ⟨rfl, hb4⟩
    have hT4 := RowsW.ext hA hb4
    go_wp2_with fail
    refine (H2 _ hT4).mono ?_
    rintro e w6 ⟨rfl, hb6⟩
    go_wp2_with fail
    refine (awake5 _).mono ?_
    rintro e w7 ⟨rfl, hb7⟩
    go_wp2_with fail
    go_ret
    exact ⟨rfl, (by repeat (first | exact Below.refl _ _ | assumption | refine ext_alloc ?_ _ | refine Below.drew ?_ | refine drewN_below ?_ _ | refine ext_trans ?_ (by assumption) | refine Below.alloc ?_ ?_ _ | refine Below.setCell ?_ ?_ _ | omega | (simp <;> omega)))⟩

/-- The four contracts of a conversion. -/
theorem conv4 (A' : Option Addr) (c' : Nat) (t : List Ex) (a : Int) (x y : ByteArray) (D m : Int) (hl : t.length ≤ 9) (hE : ∀ k, exErr t k = 0) (hx : x.size ≤ maxLen) (hy : y.size ≤ maxLen) :
    ∃ u1 u2 v1 v2 : Int, FnT A' t 18 #[.slice A' t.length c', .int .i64 a, .string x, .int .i64 D, .int .i64 m] (.tuple #[.int .i64 u1, .int .i64 u2]) ∧ FnT A' t 19 #[.slice A' t.length c', .int .i64 a, .string x, .int .i64 D, .int .i64 m] (.tuple #[.int .i64 u1, .int .i64 u2]) ∧
      FnT A' t 20 #[.slice A' t.length c', .int .i64 a, .string x, .string y, .int .i64 D, .int .i64 m] (.tuple #[.int .i64 v1, .int .i64 v2]) ∧ FnT A' t 21 #[.slice A' t.length c', .int .i64 a, .string x, .string y, .int .i64 D, .int .i64 m] (.tuple #[.int .i64 v1, .int .i64 v2]) := by
  have hml : t.length ≤ maxLen := by unfold maxLen; omega
  exact ⟨_, _, _, _, fun w h => convert_any w A' c' t a x D m h hml (tab_len t hE) hx, fun w h => rConvert_any w A' c' t a x D m h hml (tab_len t hE), fun w h => cross_any w A' c' t a x y D m h hml (tab_len t hE) hx hy, fun w h => rCross_any w A' c' t a x y D m h hml (tab_len t hE)⟩

set_option maxRecDepth 100000 in
set_option maxHeartbeats 2000000 in
theorem lawConvert (w : World) (A : Option Addr) (c : Nat) (xs : List Int) (a fr to_ day mode : Int) (raw : Bool) (hA : Ints w w.heap.size A xs) (hn : xs.length ≤ c) (hc : c ≤ maxLen) :
    Calls Try.prog 7 #[.slice A xs.length c, .int .i64 a, .int .i64 fr, .int .i64 to_, .int .i64 day, .int .i64 mode, .bool raw] w fun e w' => e = .returned (.bool true) ∧ Below w.heap.size w w' := by
  have HT := Lib.hid (madeTab w A c xs hA hn hc)
  have HC := Lib.hid (currency_any fr)
  have HD := Lib.hid (currency_any to_)
  have HW := Lib.hid (within_any day 120 (by omega) (by omega))
  have hcl := curOf_len fr
  have hdl := curOf_len to_
  obtain ⟨m3, hm3, _, _⟩ := and3 mode
  have HM := Lib.hid fun A' c' t a' m' hl hE => conv4 A' c' t a' (curOf fr) (curOf to_) (day % 120) m' hl hE hcl hdl
  clear hcl hdl
  generalize curOf fr = x at *
  generalize curOf to_ = y at *
  generalize day % 120 = D at *
  cases raw
  · go_enter Try.func7, Try.ntmps7
    go_wp2_with fail
    refine HT.out.mono ?_
    rintro e w1 ⟨⟨A', c', t, rfl, hT1, hl, hE, _⟩, hb1⟩
    obtain ⟨u1, u2, v1, v2, H1, H2, H3, H4⟩ := HM.out A' c' t (a.tmod 1000000000001) m3 hl hE
    have HE := Lib.hid hE
    clear hE
    go_wp2_with fail
    refine (HW.out _).mono ?_
    rintro e w2 ⟨rfl, hb2⟩
    have hT2 := RowsW.ext hT1 hb2
    go_wp2_with fail
    refine (HC.out _).mono ?_
    rintro e w3 ⟨rfl, hb3⟩
    have hT3 := RowsW.ext hT2 hb3
    go_wp2_with fail
    refine (HD.out _).mono ?_
    rintro e w4 ⟨rfl, hb4⟩
    have hT4 := RowsW.ext hT3 hb4
    go_wp2_with fail
    refine (H1 _ hT4).mono ?_
    rintro e w5 ⟨rfl, hb5⟩
    have hT5 := RowsW.ext hT4 hb5
    go_wp2_with fail
    refine (H2 _ hT5).mono ?_
    rintro e w6 ⟨rfl, hb6⟩
    have hT6 := RowsW.ext hT5 hb6
    go_wp2_with fail
    refine (H3 _ hT6).mono ?_
    rintro e w7 ⟨rfl, hb7⟩
    have hT7 := RowsW.ext hT6 hb7
    go_wp2_with fail
    refine (H4 _ hT7).mono ?_
    rintro e w8 ⟨rfl, hb8⟩
    go_wp2_with fail
    refine (awake5 _).mono ?_
    rintro e w9 ⟨rfl, hb9⟩
    go_wp2_with fail
    go_ret
    exact ⟨rfl, (by repeat (first | exact Below.refl _ _ | assumption | refine ext_alloc ?_ _ | refine Below.drew ?_ | refine drewN_below ?_ _ | refine ext_trans ?_ (by assumption) | refine Below.alloc ?_ ?_ _ | refine Below.setCell ?_ ?_ _ | omega | (simp <;> omega)))⟩
  · clear hm3
    go_enter Try.func7, Try.ntmps7
    go_wp2_with fail
    refine HT.out.mono ?_
    rintro e w1 ⟨⟨A', c', t, rfl, hT1, hl, hE, _⟩, hb1⟩
    obtain ⟨u1, u2, v1, v2, H1, H2, H3, H4⟩ := HM.out A' c' t a mode hl hE
    have HE := Lib.hid hE
    clear hE
    go_wp2_with fail
    refine (HW.out _).mono ?_
    rintro e w2 ⟨rfl, hb2⟩
    have hT2 := RowsW.ext hT1 hb2
    go_wp2_with fail
    refine (HC.out _).mono ?_
    rintro e w3 ⟨rfl, hb3⟩
    have hT3 := RowsW.ext hT2 hb3
    go_wp2_with fail
    refine (HD.out _).mono ?_
    rintro e w4 ⟨rfl, hb4⟩
    have hT4 := RowsW.ext hT3 hb4
    go_wp2_with fail
    refine (H1 _ hT4).mono ?_
    rintro e w5 ⟨rfl, hb5⟩
    have hT5 := RowsW.ext hT4 hb5
    go_wp2_with fail
    refine (H2 _ hT5).mono ?_
    rintro e w6 ⟨rfl, hb6⟩
    have hT6 := RowsW.ext hT5 hb6
    go_wp2_with fail
    refine (H3 _ hT6).mono ?_
    rintro e w7 ⟨rfl, hb7⟩
    have hT7 := RowsW.ext hT6 hb7
    go_wp2_with fail
    refine (H4 _ hT7).mono ?_
    rintro e w8 ⟨rfl, hb8⟩
    go_wp2_with fail
    refine (awake5 _).mono ?_
    rintro e w9 ⟨rfl, hb9⟩
    go_wp2_with fail
    go_ret
    exact ⟨rfl, (by repeat (first | exact Below.refl _ _ | assumption | refine ext_alloc ?_ _ | refine Below.drew ?_ | refine drewN_below ?_ _ | refine ext_trans ?_ (by assumption) | refine Below.alloc ?_ ?_ _ | refine Below.setCell ?_ ?_ _ | omega | (simp <;> omega)))⟩

end Go.Proofs.Ytjlfllhokhekbaa
