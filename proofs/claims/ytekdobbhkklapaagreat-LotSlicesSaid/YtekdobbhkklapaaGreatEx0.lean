/- Contracts of functions of package exact that have no loop. -/
import Derived.Test.YtekdobbhkklapaaGreatRows
import Derived.Test.YtekdobbhkklapaaGreatShelf
import Derived.Test.YtekdobbhkklapaaGreatKnuth
import Derived.WalkKit
import Derived.WalkSpells
import Derived.WalkLawsBesides
import Derived.Lib.Hide
import Derived.Deep.QuietTactic
import Derived.BigQuiet
import Derived.Laws.Bits64b
import Derived.Deep.Cut
import Derived.Deep.CutRange
namespace Go.Proofs.YtekdobbhkklapaaGreat
open Go.RowKit
set_option linter.unusedVariables false

theorem drewN_below {B : Nat} {a w : World} (h : Below B a w) (n : Nat) : Below B a (w.drewN n) := ⟨h.os, h.tape, h.output, h.size, h.block⟩
/-- Block g is just the cells cs, none frozen. -/
def Blk (w : World) (g : Nat) (t : TypeId) (cs : Array Value) : Prop := w.heap[g]? = some (.cells cs t (0, 0))
section
variable {w w' : World} {g : Nat} {t : TypeId} {cs : Array Value}
theorem Blk.lt (h : Blk w g t cs) : g < w.heap.size := by
  rcases Nat.lt_or_ge g w.heap.size with hlt | hge
  · exact hlt
  · unfold Blk at h; rw [Array.getElem?_eq_none hge] at h; cases h
theorem Blk.cell (h : Blk w g t cs) (i : Nat) : w.cell? ⟨g, i, none⟩ = cs[i]? := cell_of_row w g i cs t (0, 0) h
theorem Blk.frozen (h : Blk w g t cs) (i : Nat) : w.frozen? ⟨g, i, none⟩ = false := by
  unfold Blk at h
  simp [World.frozen?, h]
theorem Blk.new (w : World) (t : TypeId) (cs : Array Value) : Blk (w.alloc (.cells cs t)) w.heap.size t cs := heap_alloc_new w _
theorem Blk.drew (h : Blk w g t cs) : Blk w.drew g t cs := h
theorem Blk.drewN (h : Blk w g t cs) (n : Nat) : Blk (w.drewN n) g t cs := h
theorem Blk.alloc (h : Blk w g t cs) (o : Obj) : Blk (w.alloc o) g t cs := (Below.heap_alloc w o g h.lt).trans h
theorem Blk.set_ (h : Blk w g t cs) (i : Nat) (u : Value) : Blk (w.setCell ⟨g, i, none⟩ u) g t (cs.setIfInBounds i u) := by
  unfold Blk at h ⊢
  simp [World.setCell, Array.getElem?_modify, h]
theorem Blk.far (h : Blk w g t cs) {p : Addr} (hp : g ≠ p.block) (u : Value) : Blk (w.setCell p u) g t cs := (Below.heap_setCell w p u g hp).trans h
theorem Blk.below {B : Nat} (h : Blk w g t cs) (hb : Below B w w') (hg : g < B) : Blk w' g t cs := (hb.block g hg).trans h
theorem Blk.ext (h : Blk w g t cs) (hb : Below w.heap.size w w') : Blk w' g t cs := h.below hb h.lt
end
theorem ext_alloc {w w1 : World} (h : Below w.heap.size w w1) (o : Obj) : Below w.heap.size w (w1.alloc o) := h.alloc h.size o
theorem ext_trans {w w1 w2 : World} (h : Below w.heap.size w w1) (h2 : Below w1.heap.size w1 w2) : Below w.heap.size w w2 := h.trans (h2.mono h.size)
theorem below_alloc_refl (w : World) (o : Obj) : Below w.heap.size w (w.alloc o) := (Below.refl _ _).alloc (Nat.le_refl _) _

set_option maxHeartbeats 400000 in
theorem exMul_any (a b : Nat) (ha : a < 18446744073709551616) (hb : b < 18446744073709551616) (w : World) :
    Calls Tryz.prog 82 #[.int .u64 a, .int .u64 b] w fun e w' =>
      e = .returned (.agg #[.int .u64 ((a * b / 18446744073709551616 : Nat) : Int), .int .u64 ((a * b % 18446744073709551616 : Nat) : Int)]) ∧ Below w.heap.size w w' := by
  go_enter Tryz.func82, Tryz.ntmps82
  go_wp2_with (go_at_call 107; refine (Tryz.bits_Mul64 _ _ ha hb _).mono ?_; rintro e w' ⟨rfl, rfl⟩)
  refine bodyPost_ret (v := .agg #[.int .u64 ((a * b / 18446744073709551616 : Nat) : Int), .int .u64 ((a * b % 18446744073709551616 : Nat) : Int)]) (by simp [results, Tryz.results82, go_sem] <;> first | assumption | omega) rfl ?_
  exact ⟨rfl, (by repeat (first | exact Below.refl _ _ | assumption | refine ext_alloc ?_ _ | refine Below.drew ?_ | refine drewN_below ?_ _ | refine ext_trans ?_ (by assumption) | refine Below.alloc ?_ ?_ _ | refine Below.setCell ?_ ?_ _ | omega | (simp <;> omega)))⟩

def cmpW (a b c d : Int) : Int := if a < c ∨ a = c ∧ b < d then -1 else if a = c ∧ b = d then 0 else 1

/-- Whether a quotient q with the remainder r is rounded up. -/
def upB (m q r c : Int) : Bool :=
  if m = 1 then decide (0 < r) else if m = 2 then decide (c - r ≤ r) else if m = 3 then (decide (c - r < r) || (decide (r = c - r) && decide (q % 2 = 1))) else false

set_option maxHeartbeats 400000 in
theorem exRaised_any (m q r c : Int) (hq0 : 0 ≤ q) (hr0 : 0 ≤ r) (hr : r < c) (hc : c < 18446744073709551616) (w : World) :
    Calls Tryz.prog 106 #[.int .u64 q, .int .u64 r, .int .u64 c, .int .i64 m] w fun e w' =>
      e = .returned (.bool (upB m q r c)) ∧ w' = w := by
  by_cases h1 : m = 1
  · subst h1
    have HV : Hid (upB 1 q r c = decide (0 < r)) := rfl
    go_enter Tryz.func106, Tryz.ntmps106
    go_wp2
    go_ret
    exact ⟨by rw [HV.out]; rfl, rfl⟩
  · have h1b : (m == 1) = false := by simpa using h1
    by_cases h2 : m = 2
    · subst h2
      have HV : Hid (upB 2 q r c = decide (c - r ≤ r)) := rfl
      go_enter Tryz.func106, Tryz.ntmps106
      go_wp2
      go_ret
      exact ⟨by rw [HV.out]; rfl, rfl⟩
    · have h2b : (m == 2) = false := by simpa using h2
      by_cases h3 : m = 3
      · subst h3
        by_cases h4 : c - r < r
        · have HV : Hid (upB 3 q r c = true) := by show upB 3 q r c = true; simp [upB, h4]
          go_enter Tryz.func106, Tryz.ntmps106
          go_wp2
          go_ret
          exact ⟨by rw [HV.out]; rfl, rfl⟩
        · have h4b : decide (c - r < r) = false := by simpa using h4
          by_cases h5 : r = c - r
          · have HV : Hid (upB 3 q r c = (q % 2 == 1)) := by
              show upB 3 q r c = (q % 2 == 1)
              rw [Bool.eq_iff_iff]; simp [upB, h4]; omega
            have h5b : (r == c - r) = true := by simpa using h5
            clear h5
            go_enter Tryz.func106, Tryz.ntmps106
            go_wp2
            go_ret
            exact ⟨by rw [HV.out]; rfl, rfl⟩
          · have HV : Hid (upB 3 q r c = false) := by show upB 3 q r c = false; simp [upB, h4, h5]
            have h5b : (r == c - r) = false := by simpa using h5
            go_enter Tryz.func106, Tryz.ntmps106
            go_wp2
            go_ret
            exact ⟨by rw [HV.out]; rfl, rfl⟩
      · have h3b : (m == 3) = false := by simpa using h3
        have HV : Hid (upB m q r c = false) := by show upB m q r c = false; simp [upB, h1, h2, h3]
        go_enter Tryz.func106, Tryz.ntmps106
        go_wp2
        go_ret
        exact ⟨by rw [HV.out]; rfl, rfl⟩

end Go.Proofs.YtekdobbhkklapaaGreat
