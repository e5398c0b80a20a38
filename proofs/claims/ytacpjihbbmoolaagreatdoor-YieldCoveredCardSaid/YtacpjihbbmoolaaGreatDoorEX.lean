/- The package exact: its contracts. -/
import Derived.Test.YtacpjihbbmoolaaGreatDoorRows
import Derived.Test.YtacpjihbbmoolaaGreatDoorShelf
import Derived.WalkKit
import Derived.WalkSpells
import Derived.WalkLawsBesides
import Derived.Lib.Hide
import Derived.Deep.QuietTactic
import Derived.BigQuiet
import Derived.Laws.Bits64b
import Derived.Deep.Cut
import Derived.Deep.CutRange
import Derived.Deep.DeepCutAuto
import Derived.Deep.CutBlock
import Derived.Lib.ItoaNum

namespace Go.Proofs.YtacpjihbbmoolaaGreatDoor
set_option linter.unusedVariables false

theorem kn_hi (q y1 y0 U r l : Nat) (h : q * y1 + r = U) (hc : 4294967296 * r + l < q * y0) : U * 4294967296 + l < q * (y1 * 4294967296 + y0) := by
  rw [Nat.mul_add, ← Nat.mul_assoc]; omega

theorem kn_lo (q y1 y0 U r l : Nat) (h : q * y1 + r = U) (hc : q * y0 ≤ 4294967296 * r + l) : q * (y1 * 4294967296 + y0) ≤ U * 4294967296 + l := by
  rw [Nat.mul_add, ← Nat.mul_assoc]; omega

theorem kn_brk (q y1 y0 U r l : Nat) (h : q * y1 + r = U) (hr : 4294967296 ≤ r) (hq : q ≤ 4294967296) (hy : y0 < 4294967296) : q * y0 ≤ 4294967296 * r + l := by
  have : q * y0 ≤ 4294967296 * 4294967296 := Nat.mul_le_mul hq (by omega)
  omega

theorem kn_first (U y1 y0 : Nat) (hU : U < y1 * 4294967296 + y0) (hy1 : 2147483648 ≤ y1) (hy0 : y0 < 4294967296) : U / y1 ≤ 4294967297 := by
  have h : U / y1 < 4294967298 := by
    rw [Nat.div_lt_iff_lt_mul (by omega)]
    omega
  omega

theorem kn_digit (U l y1 y0 : Nat) (hU : U < y1 * 4294967296 + y0) (hl : l < 4294967296) : (U * 4294967296 + l) / (y1 * 4294967296 + y0) < 4294967296 := by
  rw [Nat.div_lt_iff_lt_mul (by omega)]
  have : (U + 1) * 4294967296 ≤ 4294967296 * (y1 * 4294967296 + y0) := by omega
  omega

theorem div_of_le_lt (N y q : Nat) (h1 : q * y ≤ N) (h2 : N / y ≤ q) (hy : 0 < y) : q = N / y := by
  have := (Nat.le_div_iff_mul_le hy).2 h1
  omega

theorem lt_of_mul_lt (N y q : Nat) (h1 : N < q * y) (hy : 0 < y) : N / y < q := (Nat.div_lt_iff_lt_mul hy).2 h1

theorem long_div (N B l0 Y : Nat) (hY : 0 < Y) :
    (N * B + l0) / Y = N / Y * B + (N % Y * B + l0) / Y ∧ (N * B + l0) % Y = (N % Y * B + l0) % Y := by
  have e : N * B + l0 = (N % Y * B + l0) + (N / Y * B) * Y := by
    have h := Nat.div_add_mod N Y
    have h2 : N * B = Y * (N / Y) * B + N % Y * B := by rw [← Nat.add_mul, h]
    have h3 : N / Y * B * Y = Y * (N / Y) * B := by
      rw [Nat.mul_assoc, Nat.mul_comm B Y, ← Nat.mul_assoc, Nat.mul_comm (N / Y) Y]
    omega
  constructor
  · rw [e, Nat.add_mul_div_right _ _ hY, Nat.add_comm]
  · rw [e, Nat.add_mul_mod_self_right]

end Go.Proofs.YtacpjihbbmoolaaGreatDoor

namespace Go.Proofs.YtacpjihbbmoolaaGreatDoor
open Go.RowKit
set_option linter.unusedVariables false

theorem drewN_below {B : Nat} {a w : World} (h : Below B a w) (n : Nat) : Below B a (w.drewN n) := ⟨h.os, h.tape, h.output, h.size, h.block⟩
def Blk (w : World) (g : Nat) (t : TypeId) (cs : Array Value) : Prop := w.heap[g]? = some (.cells cs t (0, 0))
section
variable {w w' : World} {g : Nat} {t : TypeId} {cs : Array Value}
theorem Blk.lt (h : Blk w g t cs) : g < w.heap.size := by
  rcases Nat.lt_or_ge g w.heap.size with hlt|hge
  · exact hlt
  · unfold Blk at h; rw [Array.getElem?_eq_none hge] at h; cases h
theorem Blk.cell (h : Blk w g t cs) (i : Nat) : w.cell? ⟨g, i, none⟩ = cs[i]? := cell_of_row w g i cs t (0, 0) h
theorem Blk.frozen (h : Blk w g t cs) (i : Nat) : w.frozen? ⟨g, i, none⟩ = false := by
  unfold Blk at h
  simp [World.frozen?, h]
theorem Blk.drew (h : Blk w g t cs) : Blk w.drew g t cs := h
theorem Blk.drewN (h : Blk w g t cs) (n : Nat) : Blk (w.drewN n) g t cs := h
theorem Blk.alloc (h : Blk w g t cs) (o : Obj) : Blk (w.alloc o) g t cs := (Below.heap_alloc w o g h.lt).trans h
theorem Blk.far (h : Blk w g t cs) {p : Addr} (hp : g ≠ p.block) (u : Value) : Blk (w.setCell p u) g t cs := (Below.heap_setCell w p u g hp).trans h
end
theorem ext_alloc {w w1 : World} (h : Below w.heap.size w w1) (o : Obj) : Below w.heap.size w (w1.alloc o) := h.alloc h.size o
theorem ext_trans {w w1 w2 : World} (h : Below w.heap.size w w1) (h2 : Below w1.heap.size w1 w2) : Below w.heap.size w w2 := h.trans (h2.mono h.size)
theorem below_alloc_refl (w : World) (o : Obj) : Below w.heap.size w (w.alloc o) := (Below.refl _ _).alloc (Nat.le_refl _) _

set_option maxHeartbeats 400000 in
theorem exMul_any (a b : Nat) (ha : a < 18446744073709551616) (hb : b < 18446744073709551616) (w : World) :
    Calls Tryz.prog 107 #[.int .u64 a, .int .u64 b] w fun e w' =>
      e = .returned (.agg #[.int .u64 ((a * b / 18446744073709551616 : Nat) : Int), .int .u64 ((a * b % 18446744073709551616 : Nat) : Int)]) ∧ Below w.heap.size w w' := by
  go_enter Tryz.func107, Tryz.ntmps107
  go_wp2_with (go_at_call 134; refine (Tryz.bits_Mul64 _ _ ha hb _).mono ?_; rintro e w' ⟨rfl, rfl⟩)
  refine bodyPost_ret (v := .agg #[.int .u64 ((a * b / 18446744073709551616 : Nat) : Int), .int .u64 ((a * b % 18446744073709551616 : Nat) : Int)]) (by simp [results, Tryz.results107, go_sem] <;> first|assumption|omega) rfl ?_
  exact ⟨rfl, (by repeat (first|exact Below.refl _ _|assumption|refine ext_alloc ?_ _|refine Below.drew ?_|refine drewN_below ?_ _|refine ext_trans ?_ (by assumption)|refine Below.alloc ?_ ?_ _|refine Below.setCell ?_ ?_ _|omega|(simp <;> omega)))⟩

def upB (m q r c : Int) : Bool :=
  if m = 1 then decide (0 < r) else if m = 2 then decide (c - r ≤ r) else if m = 3 then (decide (c - r < r) || (decide (r = c - r) && decide (q % 2 = 1))) else false

set_option maxHeartbeats 400000 in
theorem exRaised_any (m q r c : Int) (hq0 : 0 ≤ q) (hr0 : 0 ≤ r) (hr : r < c) (hc : c < 18446744073709551616) (w : World) :
    Calls Tryz.prog 133 #[.int .u64 q, .int .u64 r, .int .u64 c, .int .i64 m] w fun e w' =>
      e = .returned (.bool (upB m q r c)) ∧ w' = w := by
  by_cases h1 : m = 1
  · subst h1
    have HV : Hid (upB 1 q r c = decide (0 < r)) := rfl
    go_enter Tryz.func133, Tryz.ntmps133
    go_wp2
    go_ret
    exact ⟨by rw [HV.out]; rfl, rfl⟩
  · have h1b : (m == 1) = false := by simpa using h1
    by_cases h2 : m = 2
    · subst h2
      have HV : Hid (upB 2 q r c = decide (c - r ≤ r)) := rfl
      go_enter Tryz.func133, Tryz.ntmps133
      go_wp2
      go_ret
      exact ⟨by rw [HV.out]; rfl, rfl⟩
    · have h2b : (m == 2) = false := by simpa using h2
      by_cases h3 : m = 3
      · subst h3
        by_cases h4 : c - r < r
        · have HV : Hid (upB 3 q r c = true) := by show upB 3 q r c = true; simp [upB, h4]
          go_enter Tryz.func133, Tryz.ntmps133
          go_wp2
          go_ret
          exact ⟨by rw [HV.out]; rfl, rfl⟩
        · have h4b : decide (c - r < r) = false := by simpa using h4
          by_cases h5 : r = c - r
          · have HV : Hid (upB 3 q r c = (q % 2 == 1)) := by
              show upB 3 q r c = (q % 2 == 1)
              rw [Bool.eq_iff_iff]; simp [upB, h4]; omega
            have h5b : (r == c - r) = true := by simpa using h5
            clear h5
            go_enter Tryz.func133, Tryz.ntmps133
            go_wp2
            go_ret
            exact ⟨by rw [HV.out]; rfl, rfl⟩
          · have HV : Hid (upB 3 q r c = false) := by show upB 3 q r c = false; simp [upB, h4, h5]
            have h5b : (r == c - r) = false := by simpa using h5
            go_enter Tryz.func133, Tryz.ntmps133
            go_wp2
            go_ret
            exact ⟨by rw [HV.out]; rfl, rfl⟩
      · have h3b : (m == 3) = false := by simpa using h3
        have HV : Hid (upB m q r c = false) := by show upB m q r c = false; simp [upB, h1, h2, h3]
        go_enter Tryz.func133, Tryz.ntmps133
        go_wp2
        go_ret
        exact ⟨by rw [HV.out]; rfl, rfl⟩

end Go.Proofs.YtacpjihbbmoolaaGreatDoor

namespace Go.Proofs.YtacpjihbbmoolaaGreatDoor
open Go.RowKit
set_option linter.unusedVariables false

theorem u64w (a : Nat) (h : a < 18446744073709551616) : IntKind.u64.wrap (a : Int) = a := by rw [IntKind.wrap_u64]; omega
theorem u64m (a b : Nat) (h : a * b < 18446744073709551616) : IntKind.u64.wrap ((a : Int) * (b : Int)) = ((a * b : Nat) : Int) := by rw [← Int.natCast_mul]; exact u64w _ h

def KnI (U l y1 y0 q r : Nat) : Prop := q * y1 + r = U ∧ (U * 4294967296 + l) / (y1 * 4294967296 + y0) ≤ q ∧ q ≤ 4294967297 ∧ r < 4294967296

theorem KnI.start (U l y1 y0 : Nat) (hU : U < y1 * 4294967296 + y0) (hy1 : 2147483648 ≤ y1) (hy0 : y0 < 4294967296) (hy1' : y1 < 4294967296) (hl : l < 4294967296) : KnI U l y1 y0 (U / y1) (U - U / y1 * y1) := by
  have h1 := Nat.div_add_mod U y1
  have h2 := Nat.mod_lt U (show 0 < y1 by omega)
  have h3 : y1 * (U / y1) = U / y1 * y1 := Nat.mul_comm _ _
  refine ⟨by omega, ?_, kn_first U y1 y0 hU hy1 hy0, by omega⟩
  have hY : 0 < y1 * 4294967296 + y0 := by omega
  have : (U * 4294967296 + l) / (y1 * 4294967296 + y0) < U / y1 + 1 := by
    rw [Nat.div_lt_iff_lt_mul hY, Nat.add_mul, Nat.mul_add, ← Nat.mul_assoc]
    omega
  omega

theorem KnI.high (U l y1 y0 q r : Nat) (h : KnI U l y1 y0 q r) (hU : U < y1 * 4294967296 + y0) (hy1 : 2147483648 ≤ y1) (hl : l < 4294967296) (hc : 4294967296 ≤ q ∨ 4294967296 * r + l < q * y0) :
    (U * 4294967296 + l) / (y1 * 4294967296 + y0) < q := by
  obtain ⟨h1, h2, h3, h4⟩ := h
  rcases hc with hc|hc
  · have := kn_digit U l y1 y0 hU hl; omega
  · exact lt_of_mul_lt _ _ _ (kn_hi q y1 y0 U r l h1 hc) (by omega)

theorem KnI.next (U l y1 y0 q r : Nat) (h : KnI U l y1 y0 q r) (hlt : (U * 4294967296 + l) / (y1 * 4294967296 + y0) < q) (hr : r + y1 < 4294967296) : KnI U l y1 y0 (q - 1) (r + y1) := by
  obtain ⟨h1, h2, h3, h4⟩ := h
  have hq0 : 0 < q := Nat.lt_of_le_of_lt (Nat.zero_le _) hlt
  obtain ⟨k, rfl⟩ : ∃ k, q = k + 1 := ⟨q - 1, by omega⟩
  refine ⟨?_, by omega, by omega, hr⟩
  rw [Nat.add_mul] at h1
  simp only [Nat.add_sub_cancel]; omega

theorem KnI.done (U l y1 y0 q r : Nat) (h : KnI U l y1 y0 q r) (hy1 : 2147483648 ≤ y1) (hc : q * y0 ≤ 4294967296 * r + l) : (U * 4294967296 + l) / (y1 * 4294967296 + y0) = q := by
  obtain ⟨h1, h2, h3, h4⟩ := h
  exact (div_of_le_lt _ _ _ (kn_lo q y1 y0 U r l h1 hc) h2 (by omega)).symm

theorem KnI.brk (U l y1 y0 q r : Nat) (h : KnI U l y1 y0 q r) (hy1 : 2147483648 ≤ y1) (hy0 : y0 < 4294967296) (hlt : (U * 4294967296 + l) / (y1 * 4294967296 + y0) < q) (hr : 4294967296 ≤ r + y1) :
    (U * 4294967296 + l) / (y1 * 4294967296 + y0) = q - 1 := by
  obtain ⟨h1, h2, h3, h4⟩ := h
  have hq0 : 0 < q := Nat.lt_of_le_of_lt (Nat.zero_le _) hlt
  obtain ⟨k, rfl⟩ : ∃ k, q = k + 1 := ⟨q - 1, by omega⟩
  rw [Nat.add_mul] at h1
  have hk : k * y1 + (r + y1) = U := by omega
  simp only [Nat.add_sub_cancel]
  exact (div_of_le_lt _ _ _ (kn_lo k y1 y0 U (r + y1) l hk (kn_brk k y1 y0 U (r + y1) l hk hr (by omega) hy0)) (by omega) (by omega)).symm

set_option maxRecDepth 100000 in
set_option maxHeartbeats 1000000 in
theorem div64_core (hi lo y s Y y1 y0 U L l1 l0 q1 : Nat) (hlo : lo < 18446744073709551616) (hy : y < 18446744073709551616) (h : hi < y) (h0 : 0 < hi)
    (hs : 64 - ((Lib.bitLen y : Nat) : Int) = s) (hs64 : s < 64)
    (e3 : IntKind.u64.wrap ((y : Int) * 2 ^ s) = (Y : Int)) (e4 : (Y : Int) / 4294967296 = y1) (e5 : bits .and .u64 (Y : Int) 4294967295 = (y0 : Int))
    (e6 : bits .or .u64 (IntKind.u64.wrap ((hi : Int) * 2 ^ s)) ((lo : Int) / 2 ^ (64 - s)) = (U : Int))
    (e7 : IntKind.u64.wrap ((lo : Int) * 2 ^ s) = (L : Int)) (e8 : (L : Int) / 4294967296 = l1) (e9 : bits .and .u64 (L : Int) 4294967295 = (l0 : Int))
    (hYy : Y = y1 * 4294967296 + y0) (hy0 : y0 < 4294967296) (hy1 : 2147483648 ≤ y1) (hy1' : y1 < 4294967296) (hU : U < y1 * 4294967296 + y0) (hl1 : l1 < 4294967296) (hl0 : l0 < 4294967296)
    (e10 : (U : Int) / (y1 : Int) = (q1 : Int)) (hN : (U * 4294967296 + l1) * 4294967296 + l0 = (hi * 18446744073709551616 + lo) * 2 ^ s) (hYs : Y = y * 2 ^ s) (w : World) :
    Calls Tryz.prog 132 #[.int .u64 hi, .int .u64 lo, .int .u64 y] w fun e w' =>
      e = .returned (.tuple #[.int .u64 (((hi * 18446744073709551616 + lo) / y : Nat) : Int), .int .u64 (((hi * 18446744073709551616 + lo) % y : Nat) : Int)]) ∧ Below w.heap.size w w' := by
  have H := Lib.hid hs
  have HY := Lib.hid hYy
  have hq1 : q1 = U / y1 := by omega
  have hI := KnI.start U l1 y1 y0 hU hy1 hy0 hy1' hl1
  rw [← hq1] at hI
  have hqm : q1 * y1 ≤ U := by rw [hq1]; exact Nat.div_mul_le_self U y1
  have e11 : IntKind.u64.wrap ((q1 : Int) * (y1 : Int)) = ((q1 * y1 : Nat) : Int) := u64m _ _ (by omega)
  have e12 : ((U : Int) - ((q1 * y1 : Nat) : Int)) = ((U - q1 * y1 : Nat) : Int) := by omega
  generalize U - q1 * y1 = r1 at hI e12
  rw [Int.natCast_mul] at e12
  have hq1b := hI.2.2.1
  have hr1b := hI.2.2.2
  have H1 := Lib.hid hq1
  have HN := Lib.hid hN
  have HYs := Lib.hid hYs
  clear hs hYy hq1 hN hYs
  have h1 : ((y : Int) == 0) = false := by simp; omega
  have h2 : ((hi : Int) == 0) = false := by simp; omega
  have e1 : IntKind.u64.wrap (s : Int) = s := by rw [IntKind.wrap_u64]; omega
  have e2 : min s 64 = s := by omega
  have e2b : ((64 : Int) - (s : Int)).toNat = 64 - s := by omega
  have e2c : min (64 - s) 64 = 64 - s := by omega
  have hy1z : ((y1 : Int) == 0) = false := by simp; omega
  go_enter Tryz.func132, Tryz.ntmps132
  go_upto_block 0 with (go_at_call 152; refine (Tryz.bits_LeadingZeros64 _ _ (by omega) (by omega)).mono ?_; rintro e w' ⟨rfl, rfl⟩; rw [Int.toNat_natCast, H.out])
  clear h1 h2 e1 e2 e2b e2c e3 e6 e7 e9 e10 e11 e12 h h0 hlo hy H
  go_cut [15] (fun s15 wc => (∃ d : Nat, s15 = .int .u64 d ∧ Hid (d = (U * 4294967296 + l1) / (y1 * 4294967296 + y0))) ∧ w' = wc)
  case first =>
    go_wp2_with fail
    go_loop [15, 16] (fun q r => ∃ qn rn : Nat, q = .int .u64 qn ∧ r = .int .u64 rn ∧ KnI U l1 y1 y0 qn rn) (fun _ r => 4294967296 - (intOf r).toNat)
    case atStart => exact ⟨q1, r1, rfl, rfl, hI⟩
    case round =>
      obtain ⟨q, r, rfl, rfl, hI⟩ := hrel
      have hb3 := hI.2.2.1
      have hb4 := hI.2.2.2
      have ep : IntKind.u64.wrap ((q : Int) * (y0 : Int)) = ((q * y0 : Nat) : Int) ∨ 4294967296 ≤ q := by
        by_cases c : 4294967296 ≤ q
        · exact .inr c
        · refine .inl (u64m _ _ ?_)
          have : q * y0 ≤ 4294967296 * 4294967295 := Nat.mul_le_mul (by omega) (by omega)
          omega
      by_cases c1 : 4294967296 ≤ q
      · have hlt := hI.high U l1 y1 y0 q r hU hy1 hl1 (.inl c1)
        clear ep
        by_cases c2 : r + y1 < 4294967296
        · have hn := hI.next U l1 y1 y0 q r hlt c2
          have hn2 : Hid (((q : Int) - 1) = ((q - 1 : Nat) : Int)) := by show ((q : Int) - 1) = ((q - 1 : Nat) : Int); omega
          clear hlt
          have c1' : (4294967296 : Int) ≤ (q : Int) := by omega
          clear c1
          have c2' : ¬ (4294967296 : Int) ≤ (r : Int) + (y1 : Int) := by omega
          clear c2
          go_wp2
          go_round
          case rel => exact ⟨q - 1, r + y1, by rw [hn2.out], by go_num, hn⟩
          case measure => simp [intOf]; omega
        · have hn := hI.brk U l1 y1 y0 q r hy1 hy0 hlt (by omega)
          have hn2 : Hid (((q : Int) - 1) = (((U * 4294967296 + l1) / (y1 * 4294967296 + y0) : Nat) : Int)) := by show ((q : Int) - 1) = _; omega
          clear hn hlt
          have c1' : (4294967296 : Int) ≤ (q : Int) := by omega
          clear c1
          have c2' : (4294967296 : Int) ≤ (r : Int) + (y1 : Int) := by omega
          clear c2
          go_wp2
          go_meet
          exact ⟨⟨_, by rw [hn2.out], rfl⟩, rfl⟩
      · have ep' := ep.resolve_right c1
        clear ep
        obtain ⟨p, hp⟩ : ∃ p, q * y0 = p := ⟨_, rfl⟩
        rw [hp] at ep'
        have c1' : ¬ (4294967296 : Int) ≤ (q : Int) := by omega
        by_cases c3 : 4294967296 * r + l1 < p
        · have hlt := hI.high U l1 y1 y0 q r hU hy1 hl1 (.inr (by omega))
          have c3' : (4294967296 : Int) * (r : Int) + (l1 : Int) < (p : Int) := by omega
          by_cases c2 : r + y1 < 4294967296
          · have hn := hI.next U l1 y1 y0 q r hlt c2
            have hq0 : 0 < q := Nat.lt_of_le_of_lt (Nat.zero_le _) hlt
            have hn2 : Hid (((q : Int) - 1) = ((q - 1 : Nat) : Int)) := by show ((q : Int) - 1) = ((q - 1 : Nat) : Int); omega
            have c2' : ¬ (4294967296 : Int) ≤ (r : Int) + (y1 : Int) := by omega
            clear c2 c1 c3 hp hlt
            go_wp2
            go_round
            case rel => exact ⟨q - 1, r + y1, by rw [hn2.out], by go_num, hn⟩
            case measure => simp [intOf]; omega
          · have hn := hI.brk U l1 y1 y0 q r hy1 hy0 hlt (by omega)
            have hq0 : 0 < q := Nat.lt_of_le_of_lt (Nat.zero_le _) hlt
            have hn2 : Hid (((q : Int) - 1) = (((U * 4294967296 + l1) / (y1 * 4294967296 + y0) : Nat) : Int)) := by show ((q : Int) - 1) = _; omega
            have c2' : (4294967296 : Int) ≤ (r : Int) + (y1 : Int) := by omega
            clear c2 c1 c3 hn hlt hp
            go_wp2
            go_meet
            exact ⟨⟨_, by rw [hn2.out], rfl⟩, rfl⟩
        · have hn := hI.done U l1 y1 y0 q r hy1 (by omega)
          have hn2 : Hid ((q : Int) = (((U * 4294967296 + l1) / (y1 * 4294967296 + y0) : Nat) : Int)) := by show (q : Int) = _; omega
          have c3' : ¬ (4294967296 : Int) * (r : Int) + (l1 : Int) < (p : Int) := by omega
          clear hn c3 c1 hp
          go_wp2
          go_meet
          exact ⟨⟨_, by rw [hn2.out], rfl⟩, rfl⟩
  case rest =>
    obtain ⟨⟨d, rfl, hd⟩, rfl⟩ := hcut
    have hY' := HY.out
    obtain ⟨V, hVe⟩ : ∃ V, (U * 4294967296 + l1) % (y1 * 4294967296 + y0) = V := ⟨_, rfl⟩
    have hV : V < y1 * 4294967296 + y0 := by rw [← hVe]; exact Nat.mod_lt _ (by omega)
    have hdY : d * Y + V = U * 4294967296 + l1 := by
      rw [hd.out, HY.out, ← hVe, Nat.mul_comm]; exact Nat.div_add_mod _ _
    have hdb : d < 4294967296 := by rw [hd.out]; exact kn_digit U l1 y1 y0 hU hl1
    have e20 : IntKind.u64.wrap (IntKind.u64.wrap (IntKind.u64.wrap ((U : Int) * 4294967296) + (l1 : Int)) - IntKind.u64.wrap ((d : Int) * (Y : Int))) = (V : Int) := by
      have : (d : Int) * (Y : Int) + V = U * 4294967296 + l1 := by rw [← Int.natCast_mul]; omega
      simp only [IntKind.wrap_u64]; omega
    obtain ⟨q2, hq2⟩ : ∃ q2, V / y1 = q2 := ⟨_, rfl⟩
    have hI2 := KnI.start V l0 y1 y0 hV hy1 hy0 hy1' hl0
    rw [hq2] at hI2
    have hqm2 : q2 * y1 ≤ V := by rw [← hq2]; exact Nat.div_mul_le_self V y1
    have e21 : (V : Int) / (y1 : Int) = (q2 : Int) := by rw [← hq2]; rfl
    have e22 : IntKind.u64.wrap ((q2 : Int) * (y1 : Int)) = ((q2 * y1 : Nat) : Int) := u64m _ _ (by omega)
    have e23 : ((V : Int) - ((q2 * y1 : Nat) : Int)) = ((V - q2 * y1 : Nat) : Int) := by omega
    generalize V - q2 * y1 = r2 at hI2 e23
    rw [Int.natCast_mul] at e23
    have hq2b := hI2.2.2.1
    have hr2b := hI2.2.2.2
    have hVb : V < 18446744073709551616 := by omega
    have HVe := Lib.hid hVe
    have HdY := Lib.hid hdY
    clear hY' hVe hq2 hdY
    go_upto_block 2 with (fail)
    clear e20 e21 e22 e23 hqm2
    go_cut [18] (fun s18 wc => (∃ d : Nat, s18 = .int .u64 d ∧ Hid (d = (V * 4294967296 + l0) / (y1 * 4294967296 + y0))) ∧ w' = wc)
    case first =>
      go_wp2_with fail
      go_loop [18, 16] (fun q r => ∃ qn rn : Nat, q = .int .u64 qn ∧ r = .int .u64 rn ∧ KnI V l0 y1 y0 qn rn) (fun _ r => 4294967296 - (intOf r).toNat)
      case atStart => exact ⟨q2, r2, rfl, rfl, hI2⟩
      case round =>
        obtain ⟨q, r, rfl, rfl, hI⟩ := hrel
        have hb3 := hI.2.2.1
        have hb4 := hI.2.2.2
        have ep : IntKind.u64.wrap ((q : Int) * (y0 : Int)) = ((q * y0 : Nat) : Int) ∨ 4294967296 ≤ q := by
          by_cases c : 4294967296 ≤ q
          · exact .inr c
          · refine .inl (u64m _ _ ?_)
            have : q * y0 ≤ 4294967296 * 4294967295 := Nat.mul_le_mul (by omega) (by omega)
            omega
        by_cases c1 : 4294967296 ≤ q
        · have hlt := hI.high V l0 y1 y0 q r hV hy1 hl0 (.inl c1)
          clear ep
          by_cases c2 : r + y1 < 4294967296
          · have hn := hI.next V l0 y1 y0 q r hlt c2
            have hn2 : Hid (((q : Int) - 1) = ((q - 1 : Nat) : Int)) := by show ((q : Int) - 1) = ((q - 1 : Nat) : Int); omega
            clear hlt
            have c1' : (4294967296 : Int) ≤ (q : Int) := by omega
            clear c1
            have c2' : ¬ (4294967296 : Int) ≤ (r : Int) + (y1 : Int) := by omega
            clear c2
            go_wp2
            go_round
            case rel => exact ⟨q - 1, r + y1, by rw [hn2.out], by go_num, hn⟩
            case measure => simp [intOf]; omega
          · have hn := hI.brk V l0 y1 y0 q r hy1 hy0 hlt (by omega)
            have hn2 : Hid (((q : Int) - 1) = (((V * 4294967296 + l0) / (y1 * 4294967296 + y0) : Nat) : Int)) := by show ((q : Int) - 1) = _; omega
            clear hn hlt
            have c1' : (4294967296 : Int) ≤ (q : Int) := by omega
            clear c1
            have c2' : (4294967296 : Int) ≤ (r : Int) + (y1 : Int) := by omega
            clear c2
            go_wp2
            go_meet
            exact ⟨⟨_, by rw [hn2.out], rfl⟩, rfl⟩
        · have ep' := ep.resolve_right c1
          clear ep
          obtain ⟨p, hp⟩ : ∃ p, q * y0 = p := ⟨_, rfl⟩
          rw [hp] at ep'
          have c1' : ¬ (4294967296 : Int) ≤ (q : Int) := by omega
          by_cases c3 : 4294967296 * r + l0 < p
          · have hlt := hI.high V l0 y1 y0 q r hV hy1 hl0 (.inr (by omega))
            have c3' : (4294967296 : Int) * (r : Int) + (l0 : Int) < (p : Int) := by omega
            by_cases c2 : r + y1 < 4294967296
            · have hn := hI.next V l0 y1 y0 q r hlt c2
              have hq0 : 0 < q := Nat.lt_of_le_of_lt (Nat.zero_le _) hlt
              have hn2 : Hid (((q : Int) - 1) = ((q - 1 : Nat) : Int)) := by show ((q : Int) - 1) = ((q - 1 : Nat) : Int); omega
              have c2' : ¬ (4294967296 : Int) ≤ (r : Int) + (y1 : Int) := by omega
              clear c2 c1 c3 hp hlt
              go_wp2
              go_round
              case rel => exact ⟨q - 1, r + y1, by rw [hn2.out], by go_num, hn⟩
              case measure => simp [intOf]; omega
            · have hn := hI.brk V l0 y1 y0 q r hy1 hy0 hlt (by omega)
              have hq0 : 0 < q := Nat.lt_of_le_of_lt (Nat.zero_le _) hlt
              have hn2 : Hid (((q : Int) - 1) = (((V * 4294967296 + l0) / (y1 * 4294967296 + y0) : Nat) : Int)) := by show ((q : Int) - 1) = _; omega
              have c2' : (4294967296 : Int) ≤ (r : Int) + (y1 : Int) := by omega
              clear c2 c1 c3 hn hlt hp
              go_wp2
              go_meet
              exact ⟨⟨_, by rw [hn2.out], rfl⟩, rfl⟩
          · have hn := hI.done V l0 y1 y0 q r hy1 (by omega)
            have hn2 : Hid ((q : Int) = (((V * 4294967296 + l0) / (y1 * 4294967296 + y0) : Nat) : Int)) := by show (q : Int) = _; omega
            have c3' : ¬ (4294967296 : Int) * (r : Int) + (l0 : Int) < (p : Int) := by omega
            clear hn c3 c1 hp
            go_wp2
            go_meet
            exact ⟨⟨_, by rw [hn2.out], rfl⟩, rfl⟩
    case rest =>
      obtain ⟨⟨d', rfl, hd'⟩, rfl⟩ := hcut
      have hY' := HY.out
      have hV' := HVe.out
      obtain ⟨R, hRe⟩ : ∃ R, (V * 4294967296 + l0) % (y1 * 4294967296 + y0) = R := ⟨_, rfl⟩
      have hR : R < y1 * 4294967296 + y0 := by rw [← hRe]; exact Nat.mod_lt _ (by omega)
      have hdY2 : d' * Y + R = V * 4294967296 + l0 := by
        rw [hd'.out, HY.out, ← hRe, Nat.mul_comm]; exact Nat.div_add_mod _ _
      have hdb2 : d' < 4294967296 := by rw [hd'.out]; exact kn_digit V l0 y1 y0 hV hl0
      have e30 : IntKind.u64.wrap (IntKind.u64.wrap (IntKind.u64.wrap ((V : Int) * 4294967296) + (l0 : Int)) - IntKind.u64.wrap ((d' : Int) * (Y : Int))) = (R : Int) := by
        have : (d' : Int) * (Y : Int) + R = V * 4294967296 + l0 := by rw [← Int.natCast_mul]; omega
        simp only [IntKind.wrap_u64]; omega
      have hld := long_div (U * 4294967296 + l1) 4294967296 l0 (y1 * 4294967296 + y0) (by omega)
      rw [hV', ← hd.out, ← hd'.out, hRe, HN.out, ← HY.out, HYs.out] at hld
      have hp : 0 < 2 ^ s := Nat.two_pow_pos s
      rw [Nat.mul_div_mul_right _ _ hp, Nat.mul_mod_mul_right] at hld
      have F1 : Hid ((((hi * 18446744073709551616 + lo) / y : Nat) : Int) = (d : Int) * 4294967296 + d') := by
        show (((hi * 18446744073709551616 + lo) / y : Nat) : Int) = (d : Int) * 4294967296 + d'
        rw [hld.1]; omega
      have F2 : Hid ((((hi * 18446744073709551616 + lo) % y : Nat) : Int) = (R : Int) / 2 ^ s) := by
        show (((hi * 18446744073709551616 + lo) % y : Nat) : Int) = (R : Int) / 2 ^ s
        rw [← hld.2, Int.natCast_mul, Int.natCast_pow]
        exact (Int.mul_ediv_cancel _ (Int.ne_of_gt (Int.pow_pos (by omega)))).symm
      have hRb : R < 18446744073709551616 := by omega
      have e2 : min s 64 = s := by omega
      clear hY' hV' hRe hdY2 hld
      go_wp2
      go_ret2
      refine ⟨?_, Below.refl _ _⟩
      rw [F1.out, F2.out]
      rfl

theorem norm_facts (hi lo y s k : Nat) (hlo : lo < 18446744073709551616) (hk : k + s = 64) (hk1 : 1 ≤ k) (hy1 : 2 ^ (k - 1) ≤ y) (hy2 : y < 2 ^ k) (h : hi < y) :
    9223372036854775808 ≤ y * 2 ^ s ∧ y * 2 ^ s < 18446744073709551616 ∧ hi * 2 ^ s + lo / 2 ^ (64 - s) < y * 2 ^ s ∧ lo / 2 ^ (64 - s) < 2 ^ s ∧
    (hi * 18446744073709551616 + lo) * 2 ^ s = (hi * 2 ^ s + lo / 2 ^ (64 - s)) * 18446744073709551616 + lo * 2 ^ s % 18446744073709551616 := by
  have hp : 0 < 2 ^ s := Nat.two_pow_pos s
  have e1 : 2 ^ (k - 1) * 2 ^ s = 9223372036854775808 := by rw [← Nat.pow_add, show k - 1 + s = 63 by omega]
  have e2 : 2 ^ k * 2 ^ s = 18446744073709551616 := by rw [← Nat.pow_add, hk]
  have e3 : 2 ^ (64 - s) * 2 ^ s = 18446744073709551616 := by rw [← Nat.pow_add, show 64 - s + s = 64 by omega]
  have hl : lo / 2 ^ (64 - s) < 2 ^ s := by
    rw [Nat.div_lt_iff_lt_mul (Nat.two_pow_pos _), Nat.mul_comm, e3]; exact hlo
  have e4 : lo * 2 ^ s / 18446744073709551616 = lo / 2 ^ (64 - s) := by
    rw [← e3, Nat.mul_div_mul_right _ _ hp]
  refine ⟨?_, ?_, ?_, hl, ?_⟩
  · rw [← e1]; exact Nat.mul_le_mul_right _ hy1
  · rw [← e2]; exact Nat.mul_lt_mul_of_pos_right hy2 hp
  · have : (hi + 1) * 2 ^ s ≤ y * 2 ^ s := Nat.mul_le_mul_right _ h
    rw [Nat.add_mul] at this; omega
  · have h1 := Nat.div_add_mod (lo * 2 ^ s) 18446744073709551616
    rw [e4] at h1
    have h2 : hi * 18446744073709551616 * 2 ^ s = hi * 2 ^ s * 18446744073709551616 := by rw [Nat.mul_assoc, Nat.mul_comm 18446744073709551616, ← Nat.mul_assoc]
    rw [Nat.add_mul, Nat.add_mul, h2]; omega

set_option maxRecDepth 100000 in
set_option maxHeartbeats 1000000 in
theorem div64_zero (lo y : Nat) (hlo : lo < 18446744073709551616) (hy : y < 18446744073709551616) (h : 0 < y) (w : World) :
    Calls Tryz.prog 132 #[.int .u64 0, .int .u64 lo, .int .u64 y] w fun e w' =>
      e = .returned (.tuple #[.int .u64 ((lo / y : Nat) : Int), .int .u64 ((lo % y : Nat) : Int)]) ∧ Below w.heap.size w w' := by
  have h1 : ((y : Int) == 0) = false := by simp; omega
  have h2 : ¬ (y : Int) ≤ 0 := by omega
  go_enter Tryz.func132, Tryz.ntmps132
  go_wp2_with fail
  go_quiet (fail)
  go_wp2
  go_ret2
  refine ⟨?_, (by repeat (first|exact Below.refl _ _|assumption|refine ext_alloc ?_ _|refine Below.drew ?_|refine drewN_below ?_ _|refine ext_trans ?_ (by assumption)|refine Below.alloc ?_ ?_ _|refine Below.setCell ?_ ?_ _|omega|(simp <;> omega)))⟩
  rw [show ((lo / y : Nat) : Int) = IntKind.u64.wrap ((lo : Int) / (y : Int)) from (u64w (lo / y) (Nat.lt_of_le_of_lt (Nat.div_le_self _ _) hlo)).symm]
  rfl

theorem div64_any (hi lo y : Nat) (hlo : lo < 18446744073709551616) (hy : y < 18446744073709551616) (h : hi < y) (w : World) :
    Calls Tryz.prog 132 #[.int .u64 hi, .int .u64 lo, .int .u64 y] w fun e w' =>
      e = .returned (.tuple #[.int .u64 (((hi * 18446744073709551616 + lo) / y : Nat) : Int), .int .u64 (((hi * 18446744073709551616 + lo) % y : Nat) : Int)]) ∧ Below w.heap.size w w' := by
  by_cases h0 : hi = 0
  · subst h0
    simpa using div64_zero lo y hlo hy h w
  · obtain ⟨hk1, hb1, hb2⟩ := Lib.bitLenAux_bounds 64 y (by simpa using hy) (by omega)
    have hk64 : Lib.bitLenAux 64 y ≤ 64 := by
      rcases Nat.lt_or_ge 64 (Lib.bitLenAux 64 y) with hlt|hge
      · have := Nat.pow_le_pow_right (show 0 < 2 by omega) (show 64 ≤ Lib.bitLenAux 64 y - 1 by omega)
        omega
      · exact hge
    obtain ⟨s, hs⟩ : ∃ s, s = 64 - Lib.bitLenAux 64 y := ⟨_, rfl⟩
    obtain ⟨f1, f2, f3, f4, f5⟩ := norm_facts hi lo y s (Lib.bitLenAux 64 y) hlo (by omega) hk1 hb1 hb2 h
    have e0 : (2 : Int) ^ s = ((2 ^ s : Nat) : Int) := by rw [Int.natCast_pow]; rfl
    have e0' : (2 : Int) ^ (64 - s) = ((2 ^ (64 - s) : Nat) : Int) := by rw [Int.natCast_pow]; rfl
    have hhi : hi * 2 ^ s < 18446744073709551616 := Nat.lt_of_le_of_lt (Nat.le_add_right _ _) (Nat.lt_trans f3 f2)
    refine div64_core hi lo y s (y * 2 ^ s) (y * 2 ^ s / 4294967296) (y * 2 ^ s % 4294967296) (hi * 2 ^ s + lo / 2 ^ (64 - s)) (lo * 2 ^ s % 18446744073709551616)
      (lo * 2 ^ s % 18446744073709551616 / 4294967296) (lo * 2 ^ s % 18446744073709551616 % 4294967296) ((hi * 2 ^ s + lo / 2 ^ (64 - s)) / (y * 2 ^ s / 4294967296)) hlo hy h (by omega)
      (by show 64 - ((Lib.bitLenAux 64 y : Nat) : Int) = s; omega) (by omega) ?_ (by omega) ?_ ?_ ?_ (by omega) ?_ (by omega) (by omega) (by omega) (by omega) (by omega) (by omega) (by omega) (by rfl) ?_ rfl w
    · rw [e0, ← Int.natCast_mul, u64w _ f2]
    · exact Mul64.maskN _ f2
    · rw [e0, e0', ← Int.natCast_mul, u64w _ hhi, show ((lo : Int) / ((2 ^ (64 - s) : Nat) : Int)) = ((lo / 2 ^ (64 - s) : Nat) : Int) from rfl, bits_or_u64_nat _ _ hhi (by omega)]
      rw [Nat.mul_comm hi, ← Nat.two_pow_add_eq_or_of_lt f4]
    · rw [e0, ← Int.natCast_mul, IntKind.wrap_u64]; omega
    · exact Mul64.maskN _ (by omega)
    · rw [f5]; omega

end Go.Proofs.YtacpjihbbmoolaaGreatDoor

namespace Go.Proofs.YtacpjihbbmoolaaGreatDoor
open Go.RowKit
set_option linter.unusedVariables false

def upN (m : Int) (q r c : Nat) : Nat := if upB m q r c then 1 else 0

def divS (m : Int) (N c : Nat) : Nat × Int :=
  if c = 0 ∨ m < 0 ∨ 3 < m then (0, 2)
  else if 18446744073709551616 ≤ N / c + upN m (N / c) (N % c) c then (0, 3)
  else (N / c + upN m (N / c) (N % c) c, 0)

def divV (m : Int) (N c : Nat) : Value := .tuple #[.int .u64 (((divS m N c).1 : Nat) : Int), .int .i64 (divS m N c).2]

theorem divV_range (m : Int) (N c : Nat) (h : c = 0 ∨ m < 0 ∨ 3 < m) : divV m N c = .tuple #[.int .u64 0, .int .i64 2] := by
  unfold divV divS; rw [if_pos h]; rfl
theorem divV_over (m : Int) (N c : Nat) (h : ¬ (c = 0 ∨ m < 0 ∨ 3 < m)) (h2 : 18446744073709551616 ≤ N / c + upN m (N / c) (N % c) c) : divV m N c = .tuple #[.int .u64 0, .int .i64 3] := by
  unfold divV divS; rw [if_neg h, if_pos h2]; rfl
theorem divV_ok (m : Int) (N c q : Nat) (h : ¬ (c = 0 ∨ m < 0 ∨ 3 < m)) (hq : N / c + upN m (N / c) (N % c) c = q) (h2 : q < 18446744073709551616) : divV m N c = .tuple #[.int .u64 (q : Int), .int .i64 0] := by
  unfold divV divS; rw [if_neg h, hq, if_neg (by omega)]

set_option maxHeartbeats 400000 in
theorem exDiv_any (hi lo c : Nat) (m : Int) (hhi : hi < 18446744073709551616) (hlo : lo < 18446744073709551616) (hc : c < 18446744073709551616) (w : World) :
    Calls Tryz.prog 106 #[.agg #[.int .u64 hi, .int .u64 lo], .int .u64 c, .int .i64 m] w fun e w' =>
      e = .returned (divV m (hi * 18446744073709551616 + lo) c) ∧ Below w.heap.size w w' := by
  by_cases h0 : c = 0
  · have HV : Hid (divV m (hi * 18446744073709551616 + lo) c = .tuple #[.int .u64 0, .int .i64 2]) := divV_range _ _ _ (.inl h0)
    subst h0
    go_enter Tryz.func106, Tryz.ntmps106
    go_wp2
    go_ret2
    exact ⟨by rw [HV.out]; rfl, (by repeat (first|exact Below.refl _ _|assumption|refine ext_alloc ?_ _|refine Below.drew ?_|refine drewN_below ?_ _|refine ext_trans ?_ (by assumption)|refine Below.alloc ?_ ?_ _|refine Below.setCell ?_ ?_ _|omega|(simp <;> omega)))⟩
  · have h0b : ((c : Int) == 0) = false := by simp; omega
    by_cases h1 : m < 0
    · have HV : Hid (divV m (hi * 18446744073709551616 + lo) c = .tuple #[.int .u64 0, .int .i64 2]) := divV_range _ _ _ (.inr (.inl h1))
      go_enter Tryz.func106, Tryz.ntmps106
      go_wp2
      go_ret2
      exact ⟨by rw [HV.out]; rfl, (by repeat (first|exact Below.refl _ _|assumption|refine ext_alloc ?_ _|refine Below.drew ?_|refine drewN_below ?_ _|refine ext_trans ?_ (by assumption)|refine Below.alloc ?_ ?_ _|refine Below.setCell ?_ ?_ _|omega|(simp <;> omega)))⟩
    · by_cases h2 : 3 < m
      · have HV : Hid (divV m (hi * 18446744073709551616 + lo) c = .tuple #[.int .u64 0, .int .i64 2]) := divV_range _ _ _ (.inr (.inr h2))
        go_enter Tryz.func106, Tryz.ntmps106
        go_wp2
        go_ret2
        exact ⟨by rw [HV.out]; rfl, (by repeat (first|exact Below.refl _ _|assumption|refine ext_alloc ?_ _|refine Below.drew ?_|refine drewN_below ?_ _|refine ext_trans ?_ (by assumption)|refine Below.alloc ?_ ?_ _|refine Below.setCell ?_ ?_ _|omega|(simp <;> omega)))⟩
      · have hok : ¬ (c = 0 ∨ m < 0 ∨ 3 < m) := by omega
        by_cases h3 : c ≤ hi
        · have hbig : 18446744073709551616 ≤ (hi * 18446744073709551616 + lo) / c := by
            rw [Nat.le_div_iff_mul_le (by omega)]
            have : 18446744073709551616 * c ≤ 18446744073709551616 * hi := Nat.mul_le_mul_left _ h3
            omega
          have HV : Hid (divV m (hi * 18446744073709551616 + lo) c = .tuple #[.int .u64 0, .int .i64 3]) := divV_over _ _ _ hok (Nat.le_trans hbig (Nat.le_add_right _ _))
          have h3' : (c : Int) ≤ (hi : Int) := by omega
          clear hbig
          go_enter Tryz.func106, Tryz.ntmps106
          go_wp2
          go_ret2
          exact ⟨by rw [HV.out]; rfl, (by repeat (first|exact Below.refl _ _|assumption|refine ext_alloc ?_ _|refine Below.drew ?_|refine drewN_below ?_ _|refine ext_trans ?_ (by assumption)|refine Below.alloc ?_ ?_ _|refine Below.setCell ?_ ?_ _|omega|(simp <;> omega)))⟩
        · have h3' : ¬ (c : Int) ≤ (hi : Int) := by omega
          have hcon := div64_any hi lo c hlo hc (by omega)
          have hqb : (hi * 18446744073709551616 + lo) / c < 18446744073709551616 := by
            rw [Nat.div_lt_iff_lt_mul (by omega)]
            have : 18446744073709551616 * (hi + 1) ≤ 18446744073709551616 * c := Nat.mul_le_mul_left _ (by omega)
            omega
          have hrb : (hi * 18446744073709551616 + lo) % c < c := Nat.mod_lt _ (by omega)
          have hov := divV_over m (hi * 18446744073709551616 + lo) c hok
          have hgd := fun q => divV_ok m (hi * 18446744073709551616 + lo) c q hok
          generalize hi * 18446744073709551616 + lo = N at *
          generalize N / c = q at *
          generalize N % c = r at *
          have Hcon := Lib.hid hcon
          have Hov := Lib.hid hov
          have Hgd := Lib.hid hgd
          clear hcon hov hgd
          have hqi : (q : Int) < 18446744073709551616 := by omega
          by_cases hup : upB m q r c = true
          · have e1 : upN m q r c = 1 := by unfold upN; rw [if_pos hup]
            by_cases hmax : q = 18446744073709551615
            · have HV := Lib.hid (Hov.out (by omega))
              have hb1 : ((q : Int) == 18446744073709551615) = true := by simp; omega
              clear e1 hmax
              go_enter Tryz.func106, Tryz.ntmps106
              go_wp2_with (first|(go_at_call 132; refine (Hcon.out _).mono ?_; rintro e w1 ⟨rfl, hb⟩)|(go_at_call 133; refine (exRaised_any m q r c (by omega) (by omega) (by omega) (by omega) _).mono ?_; rintro e w2 ⟨rfl, rfl⟩))
              go_ret2
              refine ⟨by rw [HV.out]; rfl, ?_⟩
              exact (below_alloc_refl _ _).trans (hb.mono (by simp))
            · have HV := Lib.hid (Hgd.out (q + 1) (by omega) (by omega))
              have hb1 : ((q : Int) == 18446744073709551615) = false := by simp; omega
              have hb2 : (q : Int) + 1 < 18446744073709551616 := by omega
              clear e1 hmax
              go_enter Tryz.func106, Tryz.ntmps106
              go_wp2_with (first|(go_at_call 132; refine (Hcon.out _).mono ?_; rintro e w1 ⟨rfl, hb⟩)|(go_at_call 133; refine (exRaised_any m q r c (by omega) (by omega) (by omega) (by omega) _).mono ?_; rintro e w2 ⟨rfl, rfl⟩))
              go_ret2
              refine ⟨by rw [HV.out]; rfl, ?_⟩
              exact (below_alloc_refl _ _).trans (hb.mono (by simp))
          · have e1 : upN m q r c = 0 := by unfold upN; rw [if_neg hup]
            have HV := Lib.hid (Hgd.out q (by omega) (by omega))
            have hupf : upB m q r c = false := by simpa using hup
            clear e1 hup
            go_enter Tryz.func106, Tryz.ntmps106
            go_wp2_with (first|(go_at_call 132; refine (Hcon.out _).mono ?_; rintro e w1 ⟨rfl, hb⟩)|(go_at_call 133; refine (exRaised_any m q r c (by omega) (by omega) (by omega) (by omega) _).mono ?_; rintro e w2 ⟨rfl, rfl⟩))
            go_ret2
            refine ⟨by rw [HV.out]; rfl, ?_⟩
            exact (below_alloc_refl _ _).trans (hb.mono (by simp))

end Go.Proofs.YtacpjihbbmoolaaGreatDoor

namespace Go.Proofs.YtacpjihbbmoolaaGreatDoor
open Go.RowKit
set_option linter.unusedVariables false

theorem mul_lt_128 (a b : Nat) (ha : a < 18446744073709551616) (hb : b < 18446744073709551616) : a * b / 18446744073709551616 < 18446744073709551616 := by
  rw [Nat.div_lt_iff_lt_mul (by omega)]
  exact Nat.mul_lt_mul'' ha hb

theorem mul_join (a b : Nat) : a * b / 18446744073709551616 * 18446744073709551616 + a * b % 18446744073709551616 = a * b := by
  have := Nat.div_add_mod (a * b) 18446744073709551616
  omega

set_option maxHeartbeats 400000 in
theorem exMulDiv_any (a b c : Nat) (m : Int) (ha : a < 18446744073709551616) (hb : b < 18446744073709551616) (hc : c < 18446744073709551616) (w : World) :
    Calls Tryz.prog 66 #[.int .u64 a, .int .u64 b, .int .u64 c, .int .i64 m] w fun e w' =>
      e = .returned (divV m (a * b) c) ∧ Below w.heap.size w w' := by
  have hcon := exMul_any a b ha hb
  have h1 := mul_lt_128 a b ha hb
  have h2 : a * b % 18446744073709551616 < 18446744073709551616 := Nat.mod_lt _ (by omega)
  have hj := mul_join a b
  generalize a * b / 18446744073709551616 = H at *
  generalize a * b % 18446744073709551616 = L at *
  have hcon2 := exDiv_any H L c m h1 h2 hc
  rw [hj] at hcon2
  have Hc := Lib.hid hcon
  have Hc2 := Lib.hid hcon2
  obtain ⟨u, hu⟩ : ∃ u : Nat × Int, divS m (a * b) c = u := ⟨_, rfl⟩
  unfold divV at Hc2 ⊢
  rw [hu] at Hc2 ⊢
  clear hcon hcon2 hj hu
  go_enter Tryz.func66, Tryz.ntmps66
  go_wp2_with (first|(go_at_call 107; refine (Hc.out _).mono ?_; rintro e w1 ⟨rfl, hb1⟩)|(go_at_call 106; refine (Hc2.out _).mono ?_; rintro e w2 ⟨rfl, hb2⟩))
  go_ret2
  exact ⟨rfl, hb1.trans (hb2.mono hb1.size)⟩

end Go.Proofs.YtacpjihbbmoolaaGreatDoor
