/- Lists of slices: shares, cuts, divided from the front and from the back; the reference's. -/
import Derived.Test.YtacpjihbbmoolaaGreatB1
namespace Go.Proofs.YtacpjihbbmoolaaGreat
open Go Go.RowKit
set_option linter.unusedVariables false
set_option linter.unusedSimpArgs false
set_option maxRecDepth 100000
set_option maxHeartbeats 4000000
attribute [local irreducible] ResLe AVle ArgLe ArgP EntLe Dle ResH ArgQ

theorem ACalls.args {X : Cx} {f : FuncId} {cs ds : List AV} {r : AV} (h : ACalls X f ds r) (hle : AVsLe cs ds) : ACalls X f cs r := by
  obtain ⟨h1, h2⟩ := AVsLe_at hle
  exact ⟨h.fn, fun M w vs hg hp hl hd => h.out M w vs hg hp (by omega) fun i d v e1 e2 => by
    obtain ⟨c, e3, e4⟩ := h2 i d e1
    unfold AVle at e4
    exact fun ρ => e4 ρ M v (hd i c v e3 e2 ρ)⟩
theorem llD_one (us : List Sl) : AVle (.dat (.lst 1 1 fun i j => pickF (tabB 1 1) [slD us] (i * 1 + j))) (.dat (llD [us])) := AVle.dat (Dle.lst rfl fun i hi j hj => by
  obtain rfl : i = 0 := by omega
  obtain rfl : j = 0 := by omega
  exact Dle.refl _)
theorem join1_t (us : List Sl) (hn : us.length ≤ 100000) : ACalls XX 57 [.dat (.lst 1 1 fun i j => pickF (tabB 1 1) [slD us] (i * 1 + j))] (.dat (slD (joinL us))) := by
  have h := join_t [us] (by simp) (by simpa using hn)
  rw [List.flatten_singleton] at h
  exact h.args ⟨llD_one us, trivial⟩
theorem fill_row {F : Nat → Int} {n k : Nat} {v : Int} (hv : v = F k) : ∀ i, i < n → ∀ j, j < 1 → Dle (setF (rowF iE (fillL F n k)) k 0 [.val (.int .i64 v)] i j) (rowF iE (fillL F n (k + 1)) i j) := by
  have h := ((RowIs.refl iE 1 (fillL F n k)).set (k := k) (x := F k) (ds := [.val (.int .i64 v)]) rfl fun j hj => by
    obtain rfl : j = 0 := by omega
    subst hv
    exact Dle.refl _)
  rw [fillL_set] at h
  intro i hi j hj
  exact h.le i (by rw [fillL_len]; exact hi) j hj
theorem fits_at {us : List Sl} {ks : List Int} (h : fits us ks) {i : Nat} (hi : i < us.length) : 0 ≤ ks.getD i default ∧ ks.getD i default ≤ lenS (us.getD i default) := by
  induction us generalizing ks i with
  | nil => simp at hi
  | cons x l ih =>
    cases ks with
    | nil => exact h.elim
    | cons k ks =>
      cases i with
      | zero => simpa using h.1
      | succ i => simpa using ih h.2 (by simpa using hi)
theorem zip_at {f : Sl → Int → Sl} {us : List Sl} {ks : List Int} (hl : ks.length = us.length) {i : Nat} (hi : i < us.length) : (List.zipWith f us ks).getD i default = f (us.getD i default) (ks.getD i default) := by
  have h1 : i < ks.length := by omega
  simp [List.getElem?_zipWith, hi, h1]
theorem cntOk {us : List Sl} (hv : ∀ y ∈ us, slOk y) (hL : us.length ≤ 100000) : 0 ≤ cnt us ∧ cnt us ≤ 100000000000000 := by
  have h1 := cnt_nonneg (slOk_le hv)
  have h2 := cnt_le hv
  omega
def frA (us : List Sl) (u : Int) : List Sl := cutA us (shL us u)
def frB (us : List Sl) (u : Int) : List Sl := cutB us (shL us u)
end Go.Proofs.YtacpjihbbmoolaaGreat
