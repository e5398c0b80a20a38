/- The greatest flow by paths, plain law: the beginning, bounds, what is done of the queue. -/
import Derived.Test.YtoeghejbgibioaaQ2
namespace Go.Proofs.Ytoeghejbgibioaa
open Go Go.RowKit
set_option linter.unusedVariables false
set_option linter.unusedSimpArgs false
variable {is es : List Dt} {af bf : Int}
theorem map_q (ds : List Dt) {i : Nat} (hi : i < ds.length) : (ds.map Dt.q).getD i 0 = (ds.getD i default).q := by
  simp [List.getD_eq_getElem?_getD, hi]
theorem MOk.zero (h1 : dtErr is = 0) (h2 : dtErr es = 0) : MOk is es af bf ⟨is.map Dt.q, es.map Dt.q, fun _ _ => 0⟩ 0 :=
  ⟨by simp, by simp, fun i hi => by rw [map_q is hi]; exact (dtErr_getD h1 i).1, fun k hk => by rw [map_q es hk]; exact (dtErr_getD h2 k).1, fun _ _ _ _ => Int.le_refl _, fun _ _ _ _ h => absurd h (by simp),
    fun i hi => by rw [map_q is hi, Int.sub_self]; exact sN_zero _, fun k hk => by rw [map_q es hk, Int.sub_self]; exact sN_zero _, by
    rw [sN_congr is.length (g := fun _ => 0) fun i hi => by simp only [map_q is hi, Int.sub_self]]
    exact (sN_zero _).symm⟩
theorem sN_cst (c : Int) : ∀ n : Nat, sN n (fun _ => c) = n * c
  | 0 => by simp [sN]
  | n + 1 => by
    have := sN_cst c n
    simp only [sN] at this ⊢
    rw [this]
    push_cast
    rw [Int.add_mul]
    omega
theorem MOk.hle {s : MS} {T : Int} (h : MOk is es af bf s T) (h1 : dtErr is = 0) {i : Nat} (hi : i < is.length) : s.hv.getD i 0 ≤ 1000000000 := by
  have h3 := h.row i hi
  have h4 := sN_nn es.length (f := s.F i) (h.f0 i hi)
  have := dtErr_getD h1 i
  omega
theorem MOk.lle {s : MS} {T : Int} (h : MOk is es af bf s T) (h2 : dtErr es = 0) {k : Nat} (hk : k < es.length) : s.lv.getD k 0 ≤ 1000000000 := by
  have h3 := h.col k hk
  have h4 := sN_nn is.length (f := fun i => s.F i k) (fun i hi => h.f0 i hi k hk)
  have := dtErr_getD h2 k
  omega
theorem MOk.fle {s : MS} {T : Int} (h : MOk is es af bf s T) (h1 : dtErr is = 0) {i k : Nat} (hi : i < is.length) (hk : k < es.length) : s.F i k ≤ 1000000000 := by
  have h3 := h.row i hi
  have h4 := sN_term (f := s.F i) (h.f0 i hi) hk
  have := dtErr_getD h1 i
  have := h.h0 i hi
  omega
theorem MvOk.fle {s : MS} {N : Int} {e : Nat} (h : MvOk (is := is) (es := es) (af := af) (bf := bf) s N e) (h1 : dtErr is = 0) {i k : Nat} (hi : i < is.length) (hk : k < es.length) : s.F i k ≤ 1000000000 := by
  have h3 := h.row i hi
  have h4 := sN_term (f := s.F i) (h.f0 i hi) hk
  have := dtErr_getD h1 i
  have := h.h0 i hi
  omega
theorem MvOk.hle {s : MS} {N : Int} {e : Nat} (h : MvOk (is := is) (es := es) (af := af) (bf := bf) s N e) (h1 : dtErr is = 0) {i : Nat} (hi : i < is.length) : s.hv.getD i 0 ≤ 1000000000 := by
  have h3 := h.row i hi
  have h4 := sN_nn es.length (f := s.F i) (h.f0 i hi)
  have := dtErr_getD h1 i
  omega
theorem MOk.tle {s : MS} {T : Int} (h : MOk is es af bf s T) (h1 : dtErr is = 0) : 0 ≤ T ∧ T ≤ is.length * 1000000000 := by
  rw [h.tot]
  constructor
  · refine sN_nn _ fun i hi => ?_
    have h3 := h.row i hi
    have h4 := sN_nn es.length (f := s.F i) (h.f0 i hi)
    omega
  · rw [← sN_cst]
    refine sN_le _ fun i hi => ?_
    have := dtErr_getD h1 i
    have := h.h0 i hi
    omega
theorem PrOk.nil (s : MS) (fI fE qu : List Int) : PrOk is es af bf s fI fE qu 0 := ⟨fun t ht => absurd ht (Nat.not_lt_zero _), fun t ht => absurd ht (Nat.not_lt_zero _)⟩
theorem PrOk.succI {s : MS} {fI fE qu : List Int} {q i : Nat} (h : PrOk is es af bf s fI fE qu q) (hi : i < is.length) (hq : qu.getD q 0 = i) (ha : ∀ k, k < es.length → InM is es af bf i k → fE.getD k 0 ≠ 0) : PrOk is es af bf s fI fE qu (q + 1) :=
  ⟨fun t ht x hx he k hk hin => by
    by_cases e : t < q
    · exact h.im t e x hx he k hk hin
    · obtain rfl : t = q := by omega
      obtain rfl : x = i := by omega
      exact ha k hk hin, fun t ht k hk he => by
    by_cases e : t < q
    · exact h.ex t e k hk he
    · obtain rfl : t = q := by omega
      omega⟩
theorem PrOk.succE {s : MS} {fI fE qu : List Int} {q k : Nat} (h : PrOk is es af bf s fI fE qu q) (hk : k < es.length) (hq : qu.getD q 0 = (is.length : Int) + k) (h0 : s.lv.getD k 0 = 0) (ha : ∀ i, i < is.length → 0 < s.F i k → fI.getD i 0 ≠ 0) : PrOk is es af bf s fI fE qu (q + 1) :=
  ⟨fun t ht x hx he k' hk' hin => by
    by_cases e : t < q
    · exact h.im t e x hx he k' hk' hin
    · obtain rfl : t = q := by omega
      omega, fun t ht k' hk' he => by
    by_cases e : t < q
    · exact h.ex t e k' hk' he
    · obtain rfl : t = q := by omega
      obtain rfl : k' = k := by omega
      exact ⟨h0, ha⟩⟩
theorem row_set {l : List Int} {k z : Nat} {x y : Int} (hz : z = k) (hxy : y = x) {n : Nat} (hn : n = l.length) : ∀ a, a < n → ∀ b, b < 1 → Dle (setF (rowF iE l) z 0 [.val (.int .i64 y)] a b) (rowF iE (l.set k x) a b) := by
  subst hz hxy hn
  have hr := RowIs.set (RowIs.refl iE 1 l) (k := z) (x := y) (ds := [.val (.int .i64 y)]) rfl (fun q hq => by
    obtain rfl : q = 0 := by omega
    exact Dle.refl _)
  exact fun a ha b hb => hr.le a ha b hb
theorem row_nil (n : Nat) {f : Nat → Nat → D} (hf : ∀ a, f a 0 = .val (.int .i64 0)) : ∀ a, a < n → ∀ b, b < 1 → Dle (f a b) (rowF iE (List.replicate n 0) a b) := fun a ha b hb => by
  obtain rfl : b = 0 := by omega
  rw [hf]
  unfold rowF iE
  rw [show (List.replicate n (0 : Int)).getD a default = 0 by simp [List.getD_eq_getElem?_getD, ha]]
  exact Dle.refl _
theorem BOk.led {s : MS} {fI fE qu : List Int} (h : BOk is es af bf s fI fE qu) {k t : Nat} (hk : k < es.length) (ht : t < qu.length) (hq : qu.getD t 0 = (is.length : Int) + k) :
    ∃ x t', x < is.length ∧ fE.getD k 0 = (x : Int) + 1 ∧ InM is es af bf x k ∧ t' < t ∧ qu.getD t' 0 = x := by
  have hn : fE.getD k 0 ≠ 0 := by
    rcases h.qr _ (getD_mem ht) with ⟨i, hi, e, _⟩ | ⟨k', hk', e, hn⟩
    · omega
    · obtain rfl : k' = k := by omega
      exact hn
  rcases h.fe k hk with h0 | ⟨x, t2, t', h1, h2, h3, h4, h5, h6, h7⟩
  · exact absurd h0 hn
  · obtain rfl : t2 = t := nd_inj h.nd h5 ht (h6.trans hq.symm)
    exact ⟨x, t', h1, h2, h3, h4, h7⟩
theorem BOk.ledI {s : MS} {fI fE qu : List Int} (h : BOk is es af bf s fI fE qu) {x t : Nat} (hx : x < is.length) (ht : t < qu.length) (hq : qu.getD t 0 = x) :
    (fI.getD x 0 = -1 ∧ 0 < s.hv.getD x 0) ∨ ∃ k t', k < es.length ∧ fI.getD x 0 = (k : Int) + 1 ∧ 0 < s.F x k ∧ t' < t ∧ qu.getD t' 0 = (is.length : Int) + k := by
  have hn : fI.getD x 0 ≠ 0 := by
    rcases h.qr _ (getD_mem ht) with ⟨i, hi, e, hn⟩ | ⟨k', hk', e, hn⟩
    · obtain rfl : i = x := by omega
      exact hn
    · omega
  rcases h.fi x hx with h0 | h0 | ⟨k, t2, t', h1, h2, h3, h4, h5, h6, h7⟩
  · exact absurd h0 hn
  · exact .inl h0
  · obtain rfl : t2 = t := nd_inj h.nd h5 ht (h6.trans hq.symm)
    exact .inr ⟨k, t', h1, h2, h3, h4, h7⟩
end Go.Proofs.Ytoeghejbgibioaa
