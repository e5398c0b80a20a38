/- The laws of layer 5: the made table, the fixed table, the sanity check. -/
import Derived.Test.YtjlfllhokhekbaaTable
import Derived.Test.YtjlfllhokhekbaaCross
namespace Go.Proofs.Ytjlfllhokhekbaa
open Go.RowKit Go.Sort
set_option linter.unusedVariables false

theorem tab_len (xs : List Ex) (h : ∀ k, exErr xs k = 0) : ∀ x ∈ xs, x.c.size ≤ maxLen := by
  intro x hx
  obtain ⟨k, hk, rfl⟩ := List.getElem_of_mem hx
  have h0 := h k
  have hg : xs[k]? = some xs[k] := List.getElem?_eq_getElem hk
  cases hb : tabB xs[k].c
  · rw [exErr_0 xs _ k hg hb] at h0; cases h0
  · simp [tabB, curB] at hb
    simp [maxLen, hb.1.1]

theorem tab_zero (t : List Ex) (h : ∀ k, exErr t k = 0) (hl : t.length ≤ 9) : tabE t = 0 := by
  unfold tabE; rw [if_neg (by omega)]; exact firstE_ok _ _ (fun k _ => h k)

/-- A made table, as the laws use it. -/
theorem madeTab (w : World) (A : Option Addr) (c : Nat) (xs : List Int) (hA : Ints w w.heap.size A xs) (hn : xs.length ≤ c) (hc : c ≤ maxLen) :
    Calls Try.prog 10 #[.slice A xs.length c] w fun e w' => (∃ (A' : Option Addr) (c' : Nat) (t : List Ex), e = .returned (.slice A' t.length c') ∧ Tab w' w'.heap.size A' t ∧ t.length ≤ 9 ∧ (∀ k, exErr t k = 0) ∧
      OwnR w' w.heap.size 25 3 (.slice A' t.length c') (t.map Ex.cells)) ∧ Below w.heap.size w w' := by
  refine (table_any w A xs xs.length c hA rfl hn hc).mono ?_
  rintro e w' ⟨⟨v, t, rfl, hl, hE, hown⟩, hb⟩
  obtain ⟨A', c', rfl, _, _, hr, _⟩ := OwnR.reads hown (by simp [Ex.cells])
  rw [List.length_map] at hown ⊢
  exact ⟨⟨A', c', t, rfl, hr, hl, hE, hown⟩, hb⟩

def fx : List Ex := [⟨⟨#[85, 83, 68]⟩, 0, 900000⟩, ⟨⟨#[85, 83, 68]⟩, 10, 950000⟩]

set_option maxHeartbeats 400000 in
theorem fixed_any (w : World) : Calls Try.prog 29 #[] w fun e w' => (∃ A, e = .returned (.slice A fx.length 2) ∧ Tab w' w'.heap.size A fx) ∧ Below w.heap.size w w' := by
  go_enter Try.func29, Try.ntmps29
  go_wp2_with fail
  go_ret
  refine ⟨⟨some ⟨w.heap.size, 0, none⟩, rfl, ?_⟩, (by repeat (first | exact Below.refl _ _ | assumption | refine ext_alloc ?_ _ | refine Below.drew ?_ | refine drewN_below ?_ _ | refine ext_trans ?_ (by assumption) | refine Below.alloc ?_ ?_ _ | refine Below.setCell ?_ ?_ _ | omega | (simp <;> omega)))⟩
  have hk := Blk.new w 25 #[.string ⟨#[85, 83, 68]⟩, .int .i64 0, .int .i64 900000, .string ⟨#[85, 83, 68]⟩, .int .i64 10, .int .i64 950000]
  intro k r hr
  refine ⟨_, rfl, by simp, fun j u hu => ?_⟩
  have ha : ∀ n, ((⟨w.heap.size, 0, none⟩ : Addr).add n) = ⟨w.heap.size, n, none⟩ := by intro n; unfold Addr.add; split <;> simp_all
  rw [ha]
  match k, hr with
  | 0, hr =>
    obtain rfl := Option.some.inj hr
    match j, hu with
    | 0, hu => obtain rfl := Option.some.inj hu; exact hk.cell 0
    | 1, hu => obtain rfl := Option.some.inj hu; exact hk.cell 1
    | 2, hu => obtain rfl := Option.some.inj hu; exact hk.cell 2
    | j + 3, hu => simp [Ex.cells] at hu
  | 1, hr =>
    obtain rfl := Option.some.inj hr
    match j, hu with
    | 0, hu => obtain rfl := Option.some.inj hu; exact hk.cell 3
    | 1, hu => obtain rfl := Option.some.inj hu; exact hk.cell 4
    | 2, hu => obtain rfl := Option.some.inj hu; exact hk.cell 5
    | j + 3, hu => simp [Ex.cells] at hu
  | k + 2, hr => simp [fx] at hr

theorem fx_small : ∀ x ∈ fx, x.c.size ≤ maxLen := by
  intro x hx
  simp only [fx, List.mem_cons, List.not_mem_nil, or_false] at hx
  rcases hx with rfl | rfl <;> exact (show 3 ≤ maxLen by unfold maxLen; omega)
theorem fx1 : convertS fx 1000 [85, 83, 68] 9 0 = (900, 0) := by decide +kernel
theorem fx2 : convertS fx 1000 [85, 83, 68] 10 0 = (950, 0) := by decide +kernel
theorem fx3 : atS fx [67, 72, 70] 10 = (0, 6) := by decide +kernel

theorem fxConv (w : World) (A : Option Addr) (day v : Int) (hv : convertS fx 1000 [85, 83, 68] day 0 = (v, 0)) (hA : Tab w w.heap.size A fx) :
    Calls Try.prog 18 #[.slice A 2 2, .int .i64 1000, .string ⟨#[85, 83, 68]⟩, .int .i64 day, .int .i64 0] w fun e w' => e = .returned (.tuple #[.int .i64 v, .int .i64 0]) ∧ Below w.heap.size w w' := by
  have := convert_any w A 2 fx 1000 ⟨#[85, 83, 68]⟩ day 0 hA (by simp [fx, maxLen]) fx_small (show 3 ≤ maxLen by unfold maxLen; omega)
  rw [show (⟨#[85, 83, 68]⟩ : ByteArray).data.toList = [85, 83, 68] from rfl, hv] at this
  exact this
theorem fxAt (w : World) (A : Option Addr) (hA : Tab w w.heap.size A fx) :
    Calls Try.prog 15 #[.slice A 2 2, .string ⟨#[67, 72, 70]⟩, .int .i64 10] w fun e w' => e = .returned (.tuple #[.int .i64 0, .int .i64 6]) ∧ Below w.heap.size w w' := by
  have := at_any w A 2 fx ⟨#[67, 72, 70]⟩ 10 hA (by simp [fx, maxLen]) fx_small (show 3 ≤ maxLen by unfold maxLen; omega)
  rw [show (⟨#[67, 72, 70]⟩ : ByteArray).data.toList = [67, 72, 70] from rfl, fx3] at this
  exact this

set_option maxHeartbeats 1000000 in
theorem awake5 : Fn 14 #[] (.bool true) := by
  intro w
  go_enter Try.func14, Try.ntmps14
  go_wp2_with fail
  refine (fixed_any _).mono ?_
  rintro e w1 ⟨⟨A1, rfl, hT1⟩, hb1⟩
  go_wp2_with fail
  refine (fxConv _ A1 9 900 fx1 hT1).mono ?_
  rintro e w2 ⟨rfl, hb2⟩
  go_wp2_with fail
  refine (fixed_any _).mono ?_
  rintro e w3 ⟨⟨A3, rfl, hT3⟩, hb3⟩
  go_wp2_with fail
  refine (fxConv _ A3 10 950 fx2 hT3).mono ?_
  rintro e w4 ⟨rfl, hb4⟩
  go_wp2_with fail
  refine (fixed_any _).mono ?_
  rintro e w5 ⟨⟨A5, rfl, hT5⟩, hb5⟩
  go_wp2_with fail
  refine (fxAt _ A5 hT5).mono ?_
  rintro e w6 ⟨rfl, hb6⟩
  go_wp2_with fail
  go_ret
  exact ⟨rfl, (by repeat (first | exact Below.refl _ _ | assumption | refine ext_alloc ?_ _ | refine Below.drew ?_ | refine drewN_below ?_ _ | refine ext_trans ?_ (by assumption) | refine Below.alloc ?_ ?_ _ | refine Below.setCell ?_ ?_ _ | omega | (simp <;> omega)))⟩

end Go.Proofs.Ytjlfllhokhekbaa
