/- Contracts of the reference of layer 1 that lean on Mul, DivMod and Div. -/
import Derived.Test.YtjlfllhokhekbaaRefDiv
namespace Go.Proofs.Ytjlfllhokhekbaa
open Go.RowKit
set_option linter.unusedVariables false

set_option maxHeartbeats 400000 in
theorem rMulDiv_any (a b c : Nat) (m : Int) (ha : a < 18446744073709551616) (hb : b < 18446744073709551616) (hc : c < 18446744073709551616) (w : World) :
    Calls Try.prog 33 #[.int .u64 a, .int .u64 b, .int .u64 c, .int .i64 m] w fun e w' =>
      e = .returned (divV m (a * b) c) ∧ Below w.heap.size w w' := by
  have hcon := rMul_any a b ha hb
  have h1 := mul_lt_128 a b ha hb
  have h2 : a * b % 18446744073709551616 < 18446744073709551616 := mod_lt64 _
  have hj := mul_join a b
  generalize a * b / 18446744073709551616 = H at *
  generalize a * b % 18446744073709551616 = L at *
  have hcon2 := rDiv_any H L c m h1 h2 hc
  rw [hj] at hcon2
  have Hc := Lib.hid hcon
  have Hc2 := Lib.hid hcon2
  obtain ⟨u, hu⟩ : ∃ u : Nat × Int, divS m (a * b) c = u := ⟨_, rfl⟩
  unfold divV at Hc2 ⊢
  rw [hu] at Hc2 ⊢
  clear hcon hcon2 hj hu
  go_enter Try.func33, Try.ntmps33
  go_wp2_with (first | (go_at_call 38; refine (Hc.out _).mono ?_; rintro e w1 ⟨rfl, hb1⟩) | (go_at_call 37; refine (Hc2.out _).mono ?_; rintro e w2 ⟨rfl, hb2⟩))
  go_ret2
  exact ⟨rfl, hb1.trans (hb2.mono hb1.size)⟩

end Go.Proofs.Ytjlfllhokhekbaa
