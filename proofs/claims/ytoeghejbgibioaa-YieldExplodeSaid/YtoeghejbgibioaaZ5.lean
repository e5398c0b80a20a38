/- Yields: the recipes are run (plain). -/
import Derived.Test.YtoeghejbgibioaaZ4
namespace Go.Proofs.Ytoeghejbgibioaa
open Go Go.RowKit
set_option linter.unusedVariables false
set_option linter.unusedSimpArgs false
set_option maxRecDepth 100000

def ceilV (L : ML) (x : Nd) : Int := (getM L x.c + x.q - 1) / x.q
def rnB (rs : List Rc) (k : Nat) (L : ML) (b : Int) (x : Nd) : Int := if mk rs x.c = k then (if b < ceilV L x then ceilV L x else b) else b
def rnO (rs : List Rc) (k : Nat) (L : ML) (b : Int) (us : List Nd) : Int := us.foldl (rnB rs k L) b
def rnP (b : Int) (L : ML) (x : Nd) : ML := putM L x.c (getM L x.c + b * x.q)
def rnI (b : Int) : ML → List Nd → Option ML
  | L, [] => some L
  | L, x :: l => if (1000000000000 - getM L x.c) / x.q < b then none else rnI b (rnP b L x) l
def rnK (rs : List Rc) (k : Nat) (s : ML × List Int) : Option (ML × List Int) :=
  match rnI (rnO rs k s.1 (s.2.getD k 0) (rs.getD k default).outs) s.1 (rs.getD k default).ins with
  | none => none
  | some L => some (L, s.2.set k (rnO rs k s.1 (s.2.getD k 0) (rs.getD k default).outs))
def rnF (rs : List Rc) : List Int → ML × List Int → Option (ML × List Int)
  | [], s => some s
  | k :: l, s => match rnK rs k.toNat s with
    | none => none
    | some s' => rnF rs l s'
def rnAll (rs : List Rc) (od : List Int) (c : ByteArray) (q : Int) : Option (ML × List Int) := rnF rs od (putM [] c q, List.replicate rs.length 0)
def LOk (m : Nat) (L : ML) : Prop := (∀ c, 0 ≤ getM L c ∧ getM L c ≤ 1000000000000) ∧ L.length ≤ m
def BOk (n : Nat) (B : List Int) : Prop := B.length = n ∧ ∀ k, 0 ≤ B.getD k 0 ∧ B.getD k 0 ≤ 1000000000000
theorem ceil_rng {L : ML} {x : Nd} {m : Nat} (h : LOk m L) (hq : 1 ≤ x.q) : 0 ≤ ceilV L x ∧ ceilV L x ≤ 1000000000000 := by
  have h1 := h.1 x.c
  unfold ceilV
  constructor
  · exact Int.ediv_nonneg (by omega) (by omega)
  · have h2 : getM L x.c + x.q - 1 ≤ 1000000000000 * x.q + (x.q - 1) := by
      have : getM L x.c * 1 ≤ 1000000000000 * x.q := Int.mul_le_mul h1.2 hq (by omega) (by omega)
      omega
    have h3 : (1000000000000 * x.q + (x.q - 1)) / x.q = 1000000000000 := by
      rw [Int.add_comm, Int.mul_comm, Int.add_mul_ediv_left _ _ (by omega), Int.ediv_eq_zero_of_lt (by omega) (by omega)]
      omega
    exact h3 ▸ Int.ediv_le_ediv (by omega) h2
theorem rnB_rng {rs : List Rc} {k : Nat} {L : ML} {b : Int} {x : Nd} {m : Nat} (h : LOk m L) (hq : 1 ≤ x.q) (hb : 0 ≤ b ∧ b ≤ 1000000000000) : 0 ≤ rnB rs k L b x ∧ rnB rs k L b x ≤ 1000000000000 := by
  have := ceil_rng h hq
  unfold rnB
  split
  · split <;> omega
  · exact hb
theorem rnO_rng {rs : List Rc} {k : Nat} {L : ML} {m : Nat} (h : LOk m L) : ∀ (us : List Nd) (b : Int), (∀ x ∈ us, 1 ≤ x.q) → 0 ≤ b ∧ b ≤ 1000000000000 → 0 ≤ rnO rs k L b us ∧ rnO rs k L b us ≤ 1000000000000
  | [], b, _, hb => hb
  | x :: l, b, hu, hb => rnO_rng h l _ (fun y hy => hu y (by simp [hy])) (rnB_rng h (hu x (by simp)) hb)
theorem rnO_snoc (rs : List Rc) (k : Nat) (L : ML) (b : Int) (us : List Nd) (x : Nd) : rnO rs k L b (us ++ [x]) = rnB rs k L (rnO rs k L b us) x := by unfold rnO; rw [List.foldl_append]; rfl
theorem mul_le_div {a b q : Int} (hq : 1 ≤ q) (h : ¬ a / q < b) : b * q ≤ a := by
  have h1 : b ≤ a / q := by omega
  exact (Int.le_ediv_iff_mul_le (by omega)).1 h1
theorem rnP_ok {b : Int} {L : ML} {x : Nd} {m : Nat} (h : LOk m L) (hq : 1 ≤ x.q) (hb : 0 ≤ b) (hc : ¬ (1000000000000 - getM L x.c) / x.q < b) : LOk (m + 1) (rnP b L x) ∧ 0 ≤ b * x.q ∧ getM L x.c + b * x.q ≤ 1000000000000 := by
  have h1 := h.1 x.c
  have h2 := mul_le_div hq hc
  have h3 : 0 ≤ b * x.q := Int.mul_nonneg hb (by omega)
  refine ⟨⟨fun c => ?_, ?_⟩, h3, by omega⟩
  · unfold rnP
    rw [getM_put]
    split
    · omega
    · exact h.1 c
  · unfold rnP
    have := len_put L x.c (getM L x.c + b * x.q)
    have := h.2
    omega
theorem rnI_ok {b : Int} (hb : 0 ≤ b) : ∀ (us : List Nd) (L : ML) (m : Nat) (L' : ML), LOk m L → (∀ x ∈ us, 1 ≤ x.q) → rnI b L us = some L' → LOk (m + us.length) L'
  | [], L, m, L', h, _, e => by
    cases e
    exact h
  | x :: l, L, m, L', h, hu, e => by
    unfold rnI at e
    split at e
    · cases e
    rename_i hc
    have := rnI_ok hb l _ (m + 1) L' (rnP_ok h (hu x (by simp)) hb hc).1 (fun y hy => hu y (by simp [hy])) e
    rw [List.length_cons]
    rw [show m + (l.length + 1) = m + 1 + l.length by omega]
    exact this
theorem BOk.set {n : Nat} {B : List Int} (h : BOk n B) (k : Nat) {v : Int} (hv : 0 ≤ v ∧ v ≤ 1000000000000) : BOk n (B.set k v) := by
  refine ⟨by simpa using h.1, fun j => ?_⟩
  rw [getD_set]
  split
  · exact hv
  · exact h.2 j
theorem visL_rng {n : Nat} {f : ByteArray → VS → Bool × VS} (hf : ∀ c (s : VS), (∀ x ∈ s.2, 0 ≤ x ∧ x < (n : Int)) → ∀ x ∈ (f c s).2.2, 0 ≤ x ∧ x < (n : Int)) : ∀ (l : List Nd) (s : VS), (∀ x ∈ s.2, 0 ≤ x ∧ x < (n : Int)) → ∀ x ∈ (visL f l s).2.2, 0 ≤ x ∧ x < (n : Int)
  | [], s, h => h
  | y :: l, s, h => by
    have h1 := hf y.c s h
    unfold visL
    cases hq : f y.c s with
    | mk b s' =>
      rw [hq] at h1
      cases b with
      | true => exact visL_rng hf l s' h1
      | false => exact h1
theorem visF_rng (rs : List Rc) : ∀ (m : Nat) (c : ByteArray) (s : VS), (∀ x ∈ s.2, 0 ≤ x ∧ x < (rs.length : Int)) → ∀ x ∈ (visF rs m c s).2.2, 0 ≤ x ∧ x < (rs.length : Int)
  | 0, _, s, h => h
  | m + 1, c, s, h => by
    unfold visF
    split
    · exact h
    rename_i h1
    split
    · exact h
    have hk : mk rs c < rs.length := by
      by_cases hk : mk rs c < rs.length
      · exact hk
      · exact absurd (.inl hk) h1
    have h3 := visL_rng (visF_rng rs m) (rs.getD (mk rs c) default).ins (s.1.set (mk rs c) 1, s.2) h
    cases hq : visL (visF rs m) (rs.getD (mk rs c) default).ins (s.1.set (mk rs c) 1, s.2) with
    | mk b s' =>
      rw [hq] at h3
      cases b with
      | true =>
        intro x hx
        rcases List.mem_append.1 (show x ∈ s'.2 ++ [(mk rs c : Int)] from hx) with hx | hx
        · exact h3 x hx
        · obtain rfl := List.mem_singleton.1 hx
          omega
      | false => exact h3
theorem ordL_rng (rs : List Rc) (c : ByteArray) : ∀ x ∈ ordL rs c, 0 ≤ x ∧ x < (rs.length : Int) := by
  have h := visF_rng rs (rs.length + 1) c (List.replicate rs.length 0, []) (fun x hx => by cases hx)
  intro x hx
  unfold ordL at hx
  split at hx
  · exact h x (List.mem_reverse.1 hx)
  · cases hx
theorem ordL_len (rs : List Rc) (c : ByteArray) : (ordL rs c).length ≤ rs.length := by
  have hg : VG rs.length (List.replicate rs.length (0 : Int), ([] : List Int)) := ⟨by simp, fun k => .inl (by simp [List.getD_eq_getElem?_getD, List.getElem?_replicate]; split <;> rfl)⟩
  have hok := (visF_ok rs (rs.length + 1) c (List.replicate rs.length 0, []) hg).ord
  have hf : fresh (List.replicate rs.length (0 : Int)) = rs.length := by unfold fresh; rw [List.countP_replicate]; simp
  simp only [hf, List.length_nil] at hok
  unfold ordL
  split
  · rw [List.length_reverse]
    have : (ordR rs c).2.2.length + fresh (ordR rs c).2.1 ≤ 0 + rs.length := hok
    omega
  · exact Nat.zero_le _
end Go.Proofs.Ytoeghejbgibioaa
