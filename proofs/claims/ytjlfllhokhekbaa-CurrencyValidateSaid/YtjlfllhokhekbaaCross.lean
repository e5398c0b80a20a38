/- Converting: the program's and the reference's. -/
import Derived.Test.YtjlfllhokhekbaaAt
import Derived.Test.YtjlfllhokhekbaaMon
import Derived.Test.YtjlfllhokhekbaaRef2
namespace Go.Proofs.Ytjlfllhokhekbaa
open Go.RowKit Go.Sort
set_option linter.unusedVariables false

def crossS (xs : List Ex) (amount : Int) (c d : List UInt8) (day m : Int) : Int × Int :=
  if (atS xs c day).2 ≠ 0 then (0, (atS xs c day).2) else if (atS xs d day).2 ≠ 0 then (0, (atS xs d day).2) else scaleS amount (atS xs c day).1 (atS xs d day).1 m
def convertS (xs : List Ex) (amount : Int) (c : List UInt8) (day m : Int) : Int × Int :=
  if (atS xs c day).2 ≠ 0 then (0, (atS xs c day).2) else scaleS amount (atS xs c day).1 1000000 m

theorem lastR_rng (xs : List Ex) (c : List UInt8) (day : Int) (h : ∀ x ∈ xs, ExOk x) : 0 ≤ lastR xs c day ∧ lastR xs c day ≤ 1000000000 := by
  have key : ∀ (ys : List Ex) (r : Int), (∀ x ∈ ys, ExOk x) → 0 ≤ r ∧ r ≤ 1000000000 → 0 ≤ ys.foldl (lastStep c day) r ∧ ys.foldl (lastStep c day) r ≤ 1000000000 := by
    intro ys
    induction ys with
    | nil => intro r _ hr; exact hr
    | cons x ys ih =>
      intro r hx hr
      refine ih _ (fun y hy => hx y (by simp [hy])) ?_
      obtain ⟨_, _, _, o4, o5⟩ := hx x (by simp)
      unfold lastStep
      split <;> omega
  exact key xs 0 h (by omega)
theorem atS_rng (xs : List Ex) (c : List UInt8) (day : Int) (h : (atS xs c day).2 = 0) : 1 ≤ (atS xs c day).1 ∧ (atS xs c day).1 ≤ 1000000000 := by
  unfold atS at h ⊢
  by_cases h0 : tabE xs ≠ 0
  · rw [if_pos h0] at h; exact absurd h h0
  · rw [if_neg h0] at h ⊢
    by_cases hd : day < 0 ∨ 36524 < day
    · rw [if_pos hd] at h; cases h
    · rw [if_neg hd] at h ⊢
      by_cases hc : c = eur
      · rw [if_pos hc]; decide
      · rw [if_neg hc] at h ⊢
        by_cases hl : lastR xs c day = 0
        · rw [if_pos hl] at h; cases h
        · rw [if_neg hl]
          have := lastR_rng xs c day (tabE_ok xs (by simpa using h0))
          simp only []; omega
theorem atS_eur (xs : List Ex) (c : List UInt8) (day : Int) (h : (atS xs c day).2 = 0) : atS xs eur day = (1000000, 0) := by
  unfold atS at h ⊢
  by_cases h0 : tabE xs ≠ 0
  · rw [if_pos h0] at h; exact absurd h h0
  · rw [if_neg h0] at h ⊢
    by_cases hd : day < 0 ∨ 36524 < day
    · rw [if_pos hd] at h; cases h
    · rw [if_neg hd, if_pos rfl]
theorem convert_cross (xs : List Ex) (amount : Int) (c : List UInt8) (day m : Int) : crossS xs amount c eur day m = convertS xs amount c day m := by
  unfold crossS convertS
  by_cases h : (atS xs c day).2 ≠ 0
  · rw [if_pos h, if_pos h]
  · rw [if_neg h, if_neg h, atS_eur xs c day (by simpa using h)]
    simp

/-- A rate's contract. -/
def AtC (f : FuncId) (A : Option Addr) (n cap : Nat) (xs : List Ex) (c : ByteArray) (day r e : Int) : Prop :=
  ∀ w, Tab w w.heap.size A xs → Calls Try.prog f #[.slice A n cap, .string c, .int .i64 day] w fun en w' => en = .returned (.tuple #[.int .i64 r, .int .i64 e]) ∧ Below w.heap.size w w'

set_option maxHeartbeats 400000 in
theorem convert_err (A : Option Addr) (n cap : Nat) (xs : List Ex) (a : Int) (c : ByteArray) (day m r e : Int) (H : AtC 15 A n cap xs c day r e) (he : (e != 0) = true) (w : World) (hA : Tab w w.heap.size A xs) :
    Calls Try.prog 18 #[.slice A n cap, .int .i64 a, .string c, .int .i64 day, .int .i64 m] w fun en w' => en = .returned (.tuple #[.int .i64 0, .int .i64 e]) ∧ Below w.heap.size w w' := by
  go_enter Try.func18, Try.ntmps18
  (go_wp2_with fail; refine (H _ hA).mono ?_; rintro e w1 ⟨rfl, hb1⟩; obtain ⟨hc1, hf1⟩ := bcell hb1)
  go_wp2_with fail
  go_ret2
  exact ⟨rfl, (by repeat (first | exact Below.refl _ _ | assumption | refine ext_alloc ?_ _ | refine Below.drew ?_ | refine drewN_below ?_ _ | refine ext_trans ?_ (by assumption) | refine Below.alloc ?_ ?_ _ | refine Below.setCell ?_ ?_ _ | omega | (simp <;> omega)))⟩
set_option maxHeartbeats 400000 in
theorem convert_ok (A : Option Addr) (n cap : Nat) (xs : List Ex) (a : Int) (c : ByteArray) (day m r v e : Int) (H : AtC 15 A n cap xs c day r 0) (HS : Fn 31 #[.int .i64 a, .int .i64 r, .int .i64 1000000, .int .i64 m] (.tuple #[.int .i64 v, .int .i64 e])) (w : World) (hA : Tab w w.heap.size A xs) :
    Calls Try.prog 18 #[.slice A n cap, .int .i64 a, .string c, .int .i64 day, .int .i64 m] w fun en w' => en = .returned (.tuple #[.int .i64 v, .int .i64 e]) ∧ Below w.heap.size w w' := by
  go_enter Try.func18, Try.ntmps18
  (go_wp2_with fail; refine (H _ hA).mono ?_; rintro e w1 ⟨rfl, hb1⟩; obtain ⟨hc1, hf1⟩ := bcell hb1)
  (go_wp2_with fail; refine (HS _).mono ?_; rintro e w2 ⟨rfl, hb2⟩; obtain ⟨hc2, hf2⟩ := bcell hb2)
  go_wp2_with fail
  go_ret2
  exact ⟨rfl, (by repeat (first | exact Below.refl _ _ | assumption | refine ext_alloc ?_ _ | refine Below.drew ?_ | refine drewN_below ?_ _ | refine ext_trans ?_ (by assumption) | refine Below.alloc ?_ ?_ _ | refine Below.setCell ?_ ?_ _ | omega | (simp <;> omega)))⟩

theorem convert_any (w : World) (A : Option Addr) (cap : Nat) (xs : List Ex) (a : Int) (c : ByteArray) (day m : Int) (hA : Tab w w.heap.size A xs) (hn : xs.length ≤ maxLen) (hs : ∀ x ∈ xs, x.c.size ≤ maxLen) (hc : c.size ≤ maxLen) :
    Calls Try.prog 18 #[.slice A xs.length cap, .int .i64 a, .string c, .int .i64 day, .int .i64 m] w fun e w' => e = .returned (pairV (convertS xs a c.data.toList day m)) ∧ Below w.heap.size w w' := by
  have H : AtC 15 A xs.length cap xs c day (atS xs c.data.toList day).1 (atS xs c.data.toList day).2 := fun w hA => at_any w A cap xs c day hA hn hs hc
  unfold convertS pairV
  generalize atS xs c.data.toList day = u at *
  by_cases hu : u.2 ≠ 0
  · rw [if_pos hu]
    exact convert_err A _ cap xs a c day m u.1 u.2 H (by simpa using hu) w hA
  · rw [if_neg hu]
    have hu' : u.2 = 0 := by simpa using hu
    rw [hu'] at H
    exact convert_ok A _ cap xs a c day m u.1 _ _ H (scale_any a u.1 1000000 m) w hA

set_option maxHeartbeats 400000 in
theorem cross_err1 (A : Option Addr) (n cap : Nat) (xs : List Ex) (a : Int) (c d : ByteArray) (day m r e : Int) (H : AtC 15 A n cap xs c day r e) (he : (e != 0) = true) (w : World) (hA : Tab w w.heap.size A xs) :
    Calls Try.prog 20 #[.slice A n cap, .int .i64 a, .string c, .string d, .int .i64 day, .int .i64 m] w fun en w' => en = .returned (.tuple #[.int .i64 0, .int .i64 e]) ∧ Below w.heap.size w w' := by
  go_enter Try.func20, Try.ntmps20
  (go_wp2_with fail; refine (H _ hA).mono ?_; rintro e w1 ⟨rfl, hb1⟩; obtain ⟨hc1, hf1⟩ := bcell hb1)
  go_wp2_with fail
  go_ret2
  exact ⟨rfl, (by repeat (first | exact Below.refl _ _ | assumption | refine ext_alloc ?_ _ | refine Below.drew ?_ | refine drewN_below ?_ _ | refine ext_trans ?_ (by assumption) | refine Below.alloc ?_ ?_ _ | refine Below.setCell ?_ ?_ _ | omega | (simp <;> omega)))⟩
set_option maxHeartbeats 400000 in
theorem cross_err2 (A : Option Addr) (n cap : Nat) (xs : List Ex) (a : Int) (c d : ByteArray) (day m r r2 e : Int) (H : AtC 15 A n cap xs c day r 0) (H2 : AtC 15 A n cap xs d day r2 e) (he : (e != 0) = true) (w : World) (hA : Tab w w.heap.size A xs) :
    Calls Try.prog 20 #[.slice A n cap, .int .i64 a, .string c, .string d, .int .i64 day, .int .i64 m] w fun en w' => en = .returned (.tuple #[.int .i64 0, .int .i64 e]) ∧ Below w.heap.size w w' := by
  go_enter Try.func20, Try.ntmps20
  (go_wp2_with fail; refine (H _ hA).mono ?_; rintro e w1 ⟨rfl, hb1⟩; obtain ⟨hc1, hf1⟩ := bcell hb1)
  (go_wp2_with fail; refine (H2 _ (RowsW.ext hA hb1)).mono ?_; rintro e w2 ⟨rfl, hb2⟩; obtain ⟨hc2, hf2⟩ := bcell hb2)
  go_wp2_with fail
  go_ret2
  exact ⟨rfl, (by repeat (first | exact Below.refl _ _ | assumption | refine ext_alloc ?_ _ | refine Below.drew ?_ | refine drewN_below ?_ _ | refine ext_trans ?_ (by assumption) | refine Below.alloc ?_ ?_ _ | refine Below.setCell ?_ ?_ _ | omega | (simp <;> omega)))⟩
set_option maxHeartbeats 400000 in
theorem cross_ok (A : Option Addr) (n cap : Nat) (xs : List Ex) (a : Int) (c d : ByteArray) (day m r r2 v e : Int) (H : AtC 15 A n cap xs c day r 0) (H2 : AtC 15 A n cap xs d day r2 0) (HS : Fn 31 #[.int .i64 a, .int .i64 r, .int .i64 r2, .int .i64 m] (.tuple #[.int .i64 v, .int .i64 e])) (w : World) (hA : Tab w w.heap.size A xs) :
    Calls Try.prog 20 #[.slice A n cap, .int .i64 a, .string c, .string d, .int .i64 day, .int .i64 m] w fun en w' => en = .returned (.tuple #[.int .i64 v, .int .i64 e]) ∧ Below w.heap.size w w' := by
  go_enter Try.func20, Try.ntmps20
  (go_wp2_with fail; refine (H _ hA).mono ?_; rintro e w1 ⟨rfl, hb1⟩; obtain ⟨hc1, hf1⟩ := bcell hb1)
  (go_wp2_with fail; refine (H2 _ (RowsW.ext hA hb1)).mono ?_; rintro e w2 ⟨rfl, hb2⟩; obtain ⟨hc2, hf2⟩ := bcell hb2)
  (go_wp2_with fail; refine (HS _).mono ?_; rintro e w3 ⟨rfl, hb3⟩; obtain ⟨hc3, hf3⟩ := bcell hb3)
  go_wp2_with fail
  go_ret2
  exact ⟨rfl, (by repeat (first | exact Below.refl _ _ | assumption | refine ext_alloc ?_ _ | refine Below.drew ?_ | refine drewN_below ?_ _ | refine ext_trans ?_ (by assumption) | refine Below.alloc ?_ ?_ _ | refine Below.setCell ?_ ?_ _ | omega | (simp <;> omega)))⟩
theorem cross_any (w : World) (A : Option Addr) (cap : Nat) (xs : List Ex) (a : Int) (c d : ByteArray) (day m : Int) (hA : Tab w w.heap.size A xs) (hn : xs.length ≤ maxLen) (hs : ∀ x ∈ xs, x.c.size ≤ maxLen) (hc : c.size ≤ maxLen) (hd : d.size ≤ maxLen) :
    Calls Try.prog 20 #[.slice A xs.length cap, .int .i64 a, .string c, .string d, .int .i64 day, .int .i64 m] w fun e w' => e = .returned (pairV (crossS xs a c.data.toList d.data.toList day m)) ∧ Below w.heap.size w w' := by
  have H : AtC 15 A xs.length cap xs c day (atS xs c.data.toList day).1 (atS xs c.data.toList day).2 := fun w hA => at_any w A cap xs c day hA hn hs hc
  have H2 : AtC 15 A xs.length cap xs d day (atS xs d.data.toList day).1 (atS xs d.data.toList day).2 := fun w hA => at_any w A cap xs d day hA hn hs hd
  unfold crossS pairV
  generalize atS xs c.data.toList day = u at *
  generalize atS xs d.data.toList day = v at *
  by_cases hu : u.2 ≠ 0
  · rw [if_pos hu]
    exact cross_err1 A _ cap xs a c d day m u.1 u.2 H (by simpa using hu) w hA
  · rw [if_neg hu]
    have hu' : u.2 = 0 := by simpa using hu
    rw [hu'] at H
    by_cases hv : v.2 ≠ 0
    · rw [if_pos hv]
      exact cross_err2 A _ cap xs a c d day m u.1 v.1 v.2 H H2 (by simpa using hv) w hA
    · rw [if_neg hv]
      have hv' : v.2 = 0 := by simpa using hv
      rw [hv'] at H2
      exact cross_ok A _ cap xs a c d day m u.1 v.1 _ _ H H2 (scale_any a u.1 v.1 m) w hA

set_option maxHeartbeats 400000 in
theorem rCross_err1 (A : Option Addr) (n cap : Nat) (xs : List Ex) (a : Int) (c d : ByteArray) (day m r e : Int) (H : AtC 17 A n cap xs c day r e) (he : (e != 0) = true) (w : World) (hA : Tab w w.heap.size A xs) :
    Calls Try.prog 21 #[.slice A n cap, .int .i64 a, .string c, .string d, .int .i64 day, .int .i64 m] w fun en w' => en = .returned (.tuple #[.int .i64 0, .int .i64 e]) ∧ Below w.heap.size w w' := by
  go_enter Try.func21, Try.ntmps21
  (go_wp2_with fail; refine (H _ hA).mono ?_; rintro e w1 ⟨rfl, hb1⟩; obtain ⟨hc1, hf1⟩ := bcell hb1)
  go_wp2_with fail
  go_ret2
  exact ⟨rfl, (by repeat (first | exact Below.refl _ _ | assumption | refine ext_alloc ?_ _ | refine Below.drew ?_ | refine drewN_below ?_ _ | refine ext_trans ?_ (by assumption) | refine Below.alloc ?_ ?_ _ | refine Below.setCell ?_ ?_ _ | omega | (simp <;> omega)))⟩
set_option maxHeartbeats 400000 in
theorem rCross_err2 (A : Option Addr) (n cap : Nat) (xs : List Ex) (a : Int) (c d : ByteArray) (day m r r2 e : Int) (H : AtC 17 A n cap xs c day r 0) (H2 : AtC 17 A n cap xs d day r2 e) (he : (e != 0) = true) (w : World) (hA : Tab w w.heap.size A xs) :
    Calls Try.prog 21 #[.slice A n cap, .int .i64 a, .string c, .string d, .int .i64 day, .int .i64 m] w fun en w' => en = .returned (.tuple #[.int .i64 0, .int .i64 e]) ∧ Below w.heap.size w w' := by
  go_enter Try.func21, Try.ntmps21
  (go_wp2_with fail; refine (H _ hA).mono ?_; rintro e w1 ⟨rfl, hb1⟩; obtain ⟨hc1, hf1⟩ := bcell hb1)
  (go_wp2_with fail; refine (H2 _ (RowsW.ext hA hb1)).mono ?_; rintro e w2 ⟨rfl, hb2⟩; obtain ⟨hc2, hf2⟩ := bcell hb2)
  go_wp2_with fail
  go_ret2
  exact ⟨rfl, (by repeat (first | exact Below.refl _ _ | assumption | refine ext_alloc ?_ _ | refine Below.drew ?_ | refine drewN_below ?_ _ | refine ext_trans ?_ (by assumption) | refine Below.alloc ?_ ?_ _ | refine Below.setCell ?_ ?_ _ | omega | (simp <;> omega)))⟩
set_option maxHeartbeats 400000 in
theorem rCross_bad (A : Option Addr) (n cap : Nat) (xs : List Ex) (a : Int) (c d : ByteArray) (day m r r2 : Int) (H : AtC 17 A n cap xs c day r 0) (H2 : AtC 17 A n cap xs d day r2 0) (hb : inB (-1000000000000) 1000000000000 a = false) (w : World) (hA : Tab w w.heap.size A xs) :
    Calls Try.prog 21 #[.slice A n cap, .int .i64 a, .string c, .string d, .int .i64 day, .int .i64 m] w fun en w' => en = .returned (.tuple #[.int .i64 0, .int .i64 2]) ∧ Below w.heap.size w w' := by
  go_enter Try.func21, Try.ntmps21
  (go_wp2_with fail; refine (H _ hA).mono ?_; rintro e w1 ⟨rfl, hb1⟩; obtain ⟨hc1, hf1⟩ := bcell hb1)
  (go_wp2_with fail; refine (H2 _ (RowsW.ext hA hb1)).mono ?_; rintro e w2 ⟨rfl, hb2⟩; obtain ⟨hc2, hf2⟩ := bcell hb2)
  (go_wp2_with fail; refine (rAmount_any _ _).mono ?_; rintro e w3 ⟨rfl, hb3⟩; obtain ⟨hc3, hf3⟩ := bcell hb3)
  go_wp2_with fail
  go_ret2
  exact ⟨rfl, (by repeat (first | exact Below.refl _ _ | assumption | refine ext_alloc ?_ _ | refine Below.drew ?_ | refine drewN_below ?_ _ | refine ext_trans ?_ (by assumption) | refine Below.alloc ?_ ?_ _ | refine Below.setCell ?_ ?_ _ | omega | (simp <;> omega)))⟩
set_option maxHeartbeats 400000 in
theorem rCross_bad2 (A : Option Addr) (n cap : Nat) (xs : List Ex) (a : Int) (c d : ByteArray) (day m r r2 : Int) (H : AtC 17 A n cap xs c day r 0) (H2 : AtC 17 A n cap xs d day r2 0) (hb : inB (-1000000000000) 1000000000000 a = true) (hm : m < 0 ∨ 3 < m) (w : World) (hA : Tab w w.heap.size A xs) :
    Calls Try.prog 21 #[.slice A n cap, .int .i64 a, .string c, .string d, .int .i64 day, .int .i64 m] w fun en w' => en = .returned (.tuple #[.int .i64 0, .int .i64 2]) ∧ Below w.heap.size w w' := by
  go_enter Try.func21, Try.ntmps21
  (go_wp2_with fail; refine (H _ hA).mono ?_; rintro e w1 ⟨rfl, hb1⟩; obtain ⟨hc1, hf1⟩ := bcell hb1)
  (go_wp2_with fail; refine (H2 _ (RowsW.ext hA hb1)).mono ?_; rintro e w2 ⟨rfl, hb2⟩; obtain ⟨hc2, hf2⟩ := bcell hb2)
  (go_wp2_with fail; refine (rAmount_any _ _).mono ?_; rintro e w3 ⟨rfl, hb3⟩; obtain ⟨hc3, hf3⟩ := bcell hb3)
  go_wp2_with fail
  all_goals
    go_ret2
    exact ⟨rfl, (by repeat (first | exact Below.refl _ _ | assumption | refine ext_alloc ?_ _ | refine Below.drew ?_ | refine drewN_below ?_ _ | refine ext_trans ?_ (by assumption) | refine Below.alloc ?_ ?_ _ | refine Below.setCell ?_ ?_ _ | omega | (simp <;> omega)))⟩
/-- What is made of the quotient. -/
def signV (f : Int) (q : Nat) (a : Int) : Value := if f ≠ 0 ∨ 1000000000000 < q then .tuple #[.int .i64 0, .int .i64 3] else if a < 0 then .tuple #[.int .i64 (-(q : Int)), .int .i64 0] else .tuple #[.int .i64 q, .int .i64 0]
set_option maxHeartbeats 1000000 in
theorem rCross_ok (A : Option Addr) (n cap : Nat) (xs : List Ex) (a : Int) (c d : ByteArray) (day m f : Int) (X N D q : Nat) (H : AtC 17 A n cap xs c day N 0) (H2 : AtC 17 A n cap xs d day D 0) (hb : inB (-1000000000000) 1000000000000 a = true)
    (hA' : (X : Int) ≤ 1000000000000) (hN : (N : Int) ≤ 1000000000000) (hD : (D : Int) ≤ 1000000000000) (hm0 : 0 ≤ m) (hm3 : m ≤ 3) (ha : a = X ∨ a = -X)
    (HM : Fn 33 #[.int .u64 X, .int .u64 N, .int .u64 D, .int .i64 m] (.tuple #[.int .u64 q, .int .i64 f])) (w : World) (hA : Tab w w.heap.size A xs) :
    Calls Try.prog 21 #[.slice A n cap, .int .i64 a, .string c, .string d, .int .i64 day, .int .i64 m] w fun en w' => en = .returned (signV f q a) ∧ Below w.heap.size w w' := by
  have hmax : max a (-a) = (X : Int) := by omega
  have hab : -1000000000000 ≤ a := by omega
  have hab2 : a ≤ 1000000000000 := by omega
  clear ha
  by_cases hf : f = 0
  · subst hf
    by_cases hq2 : 1000000000000 < q
    · have HV : Hid (signV 0 q a = .tuple #[.int .i64 0, .int .i64 3]) := if_pos (.inr hq2)
      have hq3 : (1000000000000 : Int) < q := by omega
      clear hq2
      go_enter Try.func21, Try.ntmps21
      (go_wp2_with fail; refine (H _ hA).mono ?_; rintro e w1 ⟨rfl, hb1⟩; obtain ⟨hc1, hf1⟩ := bcell hb1)
      (go_wp2_with fail; refine (H2 _ (RowsW.ext hA hb1)).mono ?_; rintro e w2 ⟨rfl, hb2⟩; obtain ⟨hc2, hf2⟩ := bcell hb2)
      (go_wp2_with fail; refine (rAmount_any _ _).mono ?_; rintro e w3 ⟨rfl, hb3⟩; obtain ⟨hc3, hf3⟩ := bcell hb3)
      (go_wp2_with fail; refine (HM _).mono ?_; rintro e w4 ⟨rfl, hb4⟩; obtain ⟨hc4, hf4⟩ := bcell hb4)
      go_wp2_with fail
      go_ret2
      exact ⟨by rw [HV.out]; rfl, (by repeat (first | exact Below.refl _ _ | assumption | refine ext_alloc ?_ _ | refine Below.drew ?_ | refine drewN_below ?_ _ | refine ext_trans ?_ (by assumption) | refine Below.alloc ?_ ?_ _ | refine Below.setCell ?_ ?_ _ | omega | (simp <;> omega)))⟩
    · have hq3 : (q : Int) ≤ 1000000000000 := by omega
      by_cases hs : a < 0
      · have HV : Hid (signV 0 q a = .tuple #[.int .i64 (-(q : Int)), .int .i64 0]) := by show signV _ _ _ = _; unfold signV; rw [if_neg (by simp; omega), if_pos hs]
        go_enter Try.func21, Try.ntmps21
        (go_wp2_with fail; refine (H _ hA).mono ?_; rintro e w1 ⟨rfl, hb1⟩; obtain ⟨hc1, hf1⟩ := bcell hb1)
        (go_wp2_with fail; refine (H2 _ (RowsW.ext hA hb1)).mono ?_; rintro e w2 ⟨rfl, hb2⟩; obtain ⟨hc2, hf2⟩ := bcell hb2)
        (go_wp2_with fail; refine (rAmount_any _ _).mono ?_; rintro e w3 ⟨rfl, hb3⟩; obtain ⟨hc3, hf3⟩ := bcell hb3)
        (go_wp2_with fail; refine (HM _).mono ?_; rintro e w4 ⟨rfl, hb4⟩; obtain ⟨hc4, hf4⟩ := bcell hb4)
        go_wp2_with fail
        go_ret2
        exact ⟨by rw [HV.out]; rfl, (by repeat (first | exact Below.refl _ _ | assumption | refine ext_alloc ?_ _ | refine Below.drew ?_ | refine drewN_below ?_ _ | refine ext_trans ?_ (by assumption) | refine Below.alloc ?_ ?_ _ | refine Below.setCell ?_ ?_ _ | omega | (simp <;> omega)))⟩
      · have HV : Hid (signV 0 q a = .tuple #[.int .i64 q, .int .i64 0]) := by show signV _ _ _ = _; unfold signV; rw [if_neg (by simp; omega), if_neg hs]
        go_enter Try.func21, Try.ntmps21
        (go_wp2_with fail; refine (H _ hA).mono ?_; rintro e w1 ⟨rfl, hb1⟩; obtain ⟨hc1, hf1⟩ := bcell hb1)
        (go_wp2_with fail; refine (H2 _ (RowsW.ext hA hb1)).mono ?_; rintro e w2 ⟨rfl, hb2⟩; obtain ⟨hc2, hf2⟩ := bcell hb2)
        (go_wp2_with fail; refine (rAmount_any _ _).mono ?_; rintro e w3 ⟨rfl, hb3⟩; obtain ⟨hc3, hf3⟩ := bcell hb3)
        (go_wp2_with fail; refine (HM _).mono ?_; rintro e w4 ⟨rfl, hb4⟩; obtain ⟨hc4, hf4⟩ := bcell hb4)
        go_wp2_with fail
        go_ret2
        exact ⟨by rw [HV.out]; rfl, (by repeat (first | exact Below.refl _ _ | assumption | refine ext_alloc ?_ _ | refine Below.drew ?_ | refine drewN_below ?_ _ | refine ext_trans ?_ (by assumption) | refine Below.alloc ?_ ?_ _ | refine Below.setCell ?_ ?_ _ | omega | (simp <;> omega)))⟩
  · have HV : Hid (signV f q a = .tuple #[.int .i64 0, .int .i64 3]) := if_pos (.inl hf)
    have hfb : (f == 0) = false := by simpa using hf
    have hfb2 : (f != 0) = true := by simpa using hf
    clear hf
    go_enter Try.func21, Try.ntmps21
    (go_wp2_with fail; refine (H _ hA).mono ?_; rintro e w1 ⟨rfl, hb1⟩; obtain ⟨hc1, hf1⟩ := bcell hb1)
    (go_wp2_with fail; refine (H2 _ (RowsW.ext hA hb1)).mono ?_; rintro e w2 ⟨rfl, hb2⟩; obtain ⟨hc2, hf2⟩ := bcell hb2)
    (go_wp2_with fail; refine (rAmount_any _ _).mono ?_; rintro e w3 ⟨rfl, hb3⟩; obtain ⟨hc3, hf3⟩ := bcell hb3)
    (go_wp2_with fail; refine (HM _).mono ?_; rintro e w4 ⟨rfl, hb4⟩; obtain ⟨hc4, hf4⟩ := bcell hb4)
    go_wp2_with fail
    go_ret2
    exact ⟨by rw [HV.out]; rfl, (by repeat (first | exact Below.refl _ _ | assumption | refine ext_alloc ?_ _ | refine Below.drew ?_ | refine drewN_below ?_ _ | refine ext_trans ?_ (by assumption) | refine Below.alloc ?_ ?_ _ | refine Below.setCell ?_ ?_ _ | omega | (simp <;> omega)))⟩

theorem rCross_any (w : World) (A : Option Addr) (cap : Nat) (xs : List Ex) (a : Int) (c d : ByteArray) (day m : Int) (hA : Tab w w.heap.size A xs) (hn : xs.length ≤ maxLen) (hs : ∀ x ∈ xs, x.c.size ≤ maxLen) :
    Calls Try.prog 21 #[.slice A xs.length cap, .int .i64 a, .string c, .string d, .int .i64 day, .int .i64 m] w fun e w' => e = .returned (pairV (crossS xs a c.data.toList d.data.toList day m)) ∧ Below w.heap.size w w' := by
  have H : AtC 17 A xs.length cap xs c day (atS xs c.data.toList day).1 (atS xs c.data.toList day).2 := fun w hA => rAt_any w A cap xs c day hA hn hs
  have H2 : AtC 17 A xs.length cap xs d day (atS xs d.data.toList day).1 (atS xs d.data.toList day).2 := fun w hA => rAt_any w A cap xs d day hA hn hs
  have R := atS_rng xs c.data.toList day
  have R2 := atS_rng xs d.data.toList day
  unfold crossS pairV
  generalize atS xs c.data.toList day = u at *
  generalize atS xs d.data.toList day = v at *
  obtain ⟨u, ue⟩ := u
  obtain ⟨v, ve⟩ := v
  simp only [] at *
  by_cases hu : ue ≠ 0
  · rw [if_pos hu]
    exact rCross_err1 A _ cap xs a c d day m u ue H (by simpa using hu) w hA
  · rw [if_neg hu]
    have hu' : ue = 0 := by simpa using hu
    subst hu'
    by_cases hv : ve ≠ 0
    · rw [if_pos hv]
      exact rCross_err2 A _ cap xs a c d day m u v ve H H2 (by simpa using hv) w hA
    · rw [if_neg hv]
      have hv' : ve = 0 := by simpa using hv
      subst hv'
      obtain ⟨r1, r2⟩ := R rfl
      obtain ⟨r3, r4⟩ := R2 rfl
      have i1 : inB 0 1000000000000 u = true := inB_yes (by omega) (by omega)
      have i2 : inB 1 1000000000000 v = true := inB_yes (by omega) (by omega)
      by_cases h : inB (-1000000000000) 1000000000000 a = false ∨ inB 0 1000000000000 u = false ∨ inB 1 1000000000000 v = false ∨ m < 0 ∨ 3 < m
      · rw [scaleS_bad a u v m h]
        cases h1 : inB (-1000000000000) 1000000000000 a
        · exact rCross_bad A _ cap xs a c d day m u v H H2 h1 w hA
        · exact rCross_bad2 A _ cap xs a c d day m u v H H2 h1 (by simpa [h1, i1, i2] using h) w hA
      · have h1 : inB (-1000000000000) 1000000000000 a = true := by simp at h; exact h.1
        have h4 : 0 ≤ m ∧ m ≤ 3 := by simp at h; exact h.2.2.2
        have b1 := inB_iff.1 h1
        obtain ⟨N, rfl⟩ : ∃ N : Nat, u = N := ⟨u.toNat, by omega⟩
        obtain ⟨D, rfl⟩ : ∃ D : Nat, v = D := ⟨v.toNat, by omega⟩
        have HM : Fn 33 #[.int .u64 (a.natAbs : Nat), .int .u64 N, .int .u64 D, .int .i64 m] _ := rMulDiv_any a.natAbs N D m (by omega) (by omega) (by omega)
        have e := scaleS_good a N D m N D _ _ rfl rfl h (show divS m (a.natAbs * N) D = ((divS m (a.natAbs * N) D).1, (divS m (a.natAbs * N) D).2) from rfl)
        unfold divV at HM
        rw [e]
        generalize divS m (a.natAbs * N) D = z at *
        have K := rCross_ok A _ cap xs a c d day m z.2 a.natAbs N D z.1 H H2 h1 (by omega) (by omega) (by omega) h4.1 h4.2 (by omega) HM w hA
        refine K.mono fun e w' ⟨he, hb⟩ => ⟨?_, hb⟩
        rw [he]
        unfold signV
        split
        · rfl
        · split <;> rfl

set_option maxHeartbeats 400000 in
theorem rConvert_any (w : World) (A : Option Addr) (cap : Nat) (xs : List Ex) (a : Int) (c : ByteArray) (day m : Int) (hA : Tab w w.heap.size A xs) (hn : xs.length ≤ maxLen) (hs : ∀ x ∈ xs, x.c.size ≤ maxLen) :
    Calls Try.prog 19 #[.slice A xs.length cap, .int .i64 a, .string c, .int .i64 day, .int .i64 m] w fun e w' => e = .returned (pairV (convertS xs a c.data.toList day m)) ∧ Below w.heap.size w w' := by
  have H := rCross_any w A cap xs a c ⟨#[69, 85, 82]⟩ day m hA hn hs
  rw [show (⟨#[69, 85, 82]⟩ : ByteArray).data.toList = eur from rfl, convert_cross] at H
  unfold pairV at H ⊢
  have HH := Lib.hid H
  generalize convertS xs a c.data.toList day m = u at *
  clear H
  go_enter Try.func19, Try.ntmps19
  (go_wp2_with fail; refine (HH.out).mono ?_; rintro e w1 ⟨rfl, hb1⟩; obtain ⟨hc1, hf1⟩ := bcell hb1)
  go_wp2_with fail
  go_ret2
  exact ⟨rfl, (by repeat (first | exact Below.refl _ _ | assumption | refine ext_alloc ?_ _ | refine Below.drew ?_ | refine drewN_below ?_ _ | refine ext_trans ?_ (by assumption) | refine Below.alloc ?_ ?_ _ | refine Below.setCell ?_ ?_ _ | omega | (simp <;> omega)))⟩

end Go.Proofs.Ytjlfllhokhekbaa
