/- The reference's Explode: recipes and codes found. -/
import Derived.Test.YtoeghejbgibioaaE3
import Derived.Test.YtoeghejbgibioaaH5
namespace Go.Proofs.Ytoeghejbgibioaa
open Go Go.RowKit
set_option linter.unusedVariables false
set_option linter.unusedSimpArgs false
set_option maxRecDepth 100000
set_option maxHeartbeats 4000000
attribute [local irreducible] ResLe AVle ArgLe ArgP EntLe Dle ResH ArgQ strEq strLt

theorem hasC_qty {us : List Nd} (h : ∀ x ∈ us, 1 ≤ x.q) (c : ByteArray) : hasC us c = decide (0 < qtyS us c) := by
  have h1 := qtyS_nn us h c
  by_cases h2 : ∃ x ∈ us, x.c = c
  · obtain ⟨x, hx, rfl⟩ := h2
    have h3 : hasC us x.c = true := List.any_eq_true.2 ⟨x, hx, by simp⟩
    have h4 : 0 < qtyS us x.c := by
      have : qtyS us x.c ≠ 0 := fun h0 => by
        have h5 : ∀ l : List Nd, (∀ x ∈ l, 1 ≤ x.q) → x ∈ l → 0 < qtyS l x.c := fun l => by
          refine rev_ind (P := fun l : List Nd => (∀ x ∈ l, 1 ≤ x.q) → x ∈ l → 0 < qtyS l x.c) (fun _ h => by cases h) (fun l y ih hl hx => ?_) l
          rw [qtyS_snoc]
          have g1 := qtyS_nn l (fun z hz => hl z (by simp [hz])) x.c
          have g2 := hl y (by simp)
          rcases List.mem_append.1 hx with hx | hx
          · have := ih (fun z hz => hl z (by simp [hz])) hx
            split <;> omega
          · rw [List.mem_singleton] at hx
            subst hx
            rw [if_pos rfl]
            omega
        have := h5 us h hx
        omega
      omega
    rw [h3, decide_eq_true h4]
  · have h3 : hasC us c = false := by
      cases h4 : hasC us c with
      | false => rfl
      | true =>
        obtain ⟨x, hx, e⟩ := List.any_eq_true.1 h4
        exact absurd ⟨x, hx, of_decide_eq_true e⟩ h2
    have h4 : qtyS us c = 0 := (qty_none us c fun x hx hc => h2 ⟨x, hx, hc⟩).1
    rw [h3, h4]
    rfl
theorem mk_len (rs : List Rc) (c : ByteArray) : mk rs c ≤ rs.length := List.findIdx_le_length
def recI (rs : List Rc) (c : ByteArray) : Int := if mk rs c < rs.length then mk rs c else -1
theorem rrec_t (rs : List Rc) (c : ByteArray) (h : rcsOk rs) : ACalls XX 43 [.dat (rcD rs), sY c] (iA (recI rs c)) := by
  have h32 := h.1
  have hml := mk_len rs c
  refine ACalls.of (n := Try.f43.ntmps) XX_ok Try.func43 rfl (by kernel_rfl) rfl rfl (Nat.le_of_ble_eq_true rfl) ?_
  (repeat' (first | refine Zs ?_ | refine Zk ?_ | ((first | refine Za ?_ | refine Zr ?_ | refine Zp ?_ | refine Ze ?_ | refine Zd ?_ | refine Zn ?_ | refine Zc ?_ | refine UnK.mk (fun b hb => ?_)); conv => whnf) | (refine Zb (fun h => ?_) (fun h => ?_) <;> first | exact Zx | (conv => whnf))))
  refine (W.loopK (ι := Nat) [0, 1] [] (fun k => [(5, iA k)]) (fun _ => []) (fun k => k ≤ rs.length ∧ k ≤ mk rs c) (fun k => rs.length - k) 0 ⟨Nat.zero_le _, Nat.zero_le _⟩ ?_ ?_ ?_)
  · exact Yz
  · exact Yz
  conv => whnf
  intro k ⟨hk, hkm⟩
  by_cases hk' : k < rs.length
  · obtain ⟨_, _, a3, a4⟩ := h.at hk'
    have hq := yqty_t (rs.getD k default).outs c (by omega) (fun x hx => by have := asc_q a3 x hx; omega)
    have hs := mk_step rs c hk' hkm
    rw [hasC_qty (fun x hx => (asc_q a3 x hx).1) c] at hs
    (repeat' (first | refine Zs ?_ | refine Zk ?_ | ((first | refine Za ?_ | refine Zr ?_ | refine Zp ?_ | refine Ze ?_ | refine Zd ?_ | refine Zn ?_ | refine Zc ?_ | refine UnK.mk (fun b hb => ?_)); conv => whnf) | (refine Zb (fun h => ?_) (fun h => ?_) <;> first | exact Zx | (conv => whnf))))
    all_goals (try dsimp only [Int.toNat_natCast] at *)
    (repeat' (first | refine Zs ?_ | refine Zk ?_ | ((first | refine Za ?_ | refine Zr ?_ | refine Zp ?_ | refine Ze ?_ | refine Zd ?_ | refine Zn ?_ | refine Zc ?_ | refine UnK.mk (fun b hb => ?_) | refine Zy hq ?_); conv => whnf) | (refine Zb (fun h => ?_) (fun h => ?_) <;> first | exact Zx | (conv => whnf))))
    all_goals first | (exfalso; omega) | skip
    · rw [decide_eq_true h] at hs
      have e : mk rs c = k := of_decide_eq_true hs.symm
      (repeat' (first | exact trivial | exact Zm | exact Zl | exact ResLe.row0 rfl | exact Zi (by unfold recI; rw [if_pos (by omega), e]) | exact Zo (h := by unfold recI; rw [if_pos (by omega), e]) | exact ResLe.bo rfl rfl Iff.rfl | refine ResLe.agg ?_ | refine And.intro ?_ ?_ | ((conv => whnf); first | exact Zl | exact ResLe.row0 rfl | exact Zi (by unfold recI; rw [if_pos (by omega), e]) | exact Zo (h := by unfold recI; rw [if_pos (by omega), e]) | exact ResLe.bo rfl rfl Iff.rfl | refine ResLe.agg ?_ | refine And.intro ?_ ?_)))
    · rw [decide_eq_false (by omega)] at hs
      have e : mk rs c ≠ k := of_decide_eq_false hs.symm
      refine ⟨k + 1, ⟨by omega, by omega⟩, by omega, ?_, ?_, ?_, ?_⟩
      all_goals exact Yz
  · (repeat' (first | refine Zs ?_ | refine Zk ?_ | ((first | refine Za ?_ | refine Zr ?_ | refine Zp ?_ | refine Ze ?_ | refine Zd ?_ | refine Zn ?_ | refine Zc ?_ | refine UnK.mk (fun b hb => ?_)); conv => whnf) | (refine Zb (fun h => ?_) (fun h => ?_) <;> first | exact Zx | (conv => whnf))))
    all_goals first | (exfalso; omega) | skip
    (repeat' (first | exact trivial | exact Zm | exact Zl | exact ResLe.row0 rfl | exact Zi (by unfold recI; rw [if_neg (by omega)]) | exact Zo (h := by unfold recI; rw [if_neg (by omega)]) | exact ResLe.bo rfl rfl Iff.rfl | refine ResLe.agg ?_ | refine And.intro ?_ ?_ | ((conv => whnf); first | exact Zl | exact ResLe.row0 rfl | exact Zi (by unfold recI; rw [if_neg (by omega)]) | exact Zo (h := by unfold recI; rw [if_neg (by omega)]) | exact ResLe.bo rfl rfl Iff.rfl | refine ResLe.agg ?_ | refine And.intro ?_ ?_)))
theorem find_step {α : Type} [Inhabited α] (l : List α) (p : α → Bool) {k : Nat} (hk : k < l.length) (h : k ≤ l.findIdx p) : p (l.getD k default) = decide (l.findIdx p = k) := by
  rw [ygetD_of hk]
  by_cases h1 : l.findIdx p = k
  · have h2 : l.findIdx p < l.length := by omega
    have h3 := List.findIdx_getElem (xs := l) (p := p) (w := h2)
    simp only [h1] at h3
    rw [h3]
    simp [h1]
  · have h2 : k < l.findIdx p := by omega
    have h3 := List.not_of_lt_findIdx h2
    simp only [h1, decide_false]
    simpa using h3
def idxN (cs : List ByteArray) (c : ByteArray) : Nat := cs.findIdx fun x => decide (x = c)
def idxI (cs : List ByteArray) (c : ByteArray) : Int := if idxN cs c < cs.length then idxN cs c else -1
theorem idxN_le (cs : List ByteArray) (c : ByteArray) : idxN cs c ≤ cs.length := List.findIdx_le_length
theorem idxN_in {cs : List ByteArray} {c : ByteArray} (h : c ∈ cs) : idxN cs c < cs.length := List.findIdx_lt_length_of_exists ⟨c, h, by simp⟩
theorem idxN_at {cs : List ByteArray} {c : ByteArray} (h : idxN cs c < cs.length) : cs.getD (idxN cs c) default = c := by
  have := find_step cs (fun x => decide (x = c)) h (Nat.le_refl _)
  simp only [show List.findIdx (fun x => decide (x = c)) cs = idxN cs c from rfl, decide_true] at this
  exact of_decide_eq_true this
theorem idxN_of {cs : List ByteArray} (hn : cs.Nodup) {i : Nat} (hi : i < cs.length) : idxN cs (cs.getD i default) = i := by
  have h1 := idxN_in (ygetD_in (us := cs) hi)
  have h2 := idxN_at h1
  generalize idxN cs (cs.getD i default) = j at *
  rw [ygetD_of h1, ygetD_of hi] at h2
  exact nd_at hn h2
theorem rindex_t (cs : List ByteArray) (c : ByteArray) (hL : cs.length ≤ 1000) : ACalls XX 44 [.dat (bsD cs), sY c] (iA (idxI cs c)) := by
  have hle := idxN_le cs c
  refine ACalls.of (n := Try.f44.ntmps) XX_ok Try.func44 rfl (by kernel_rfl) rfl rfl (Nat.le_of_ble_eq_true rfl) ?_
  (repeat' (first | refine Zs ?_ | refine Zk ?_ | ((first | refine Za ?_ | refine Zr ?_ | refine Zp ?_ | refine Ze ?_ | refine Zd ?_ | refine Zn ?_ | refine Zc ?_ | refine UnK.mk (fun b hb => ?_)); conv => whnf) | (refine Zb (fun h => ?_) (fun h => ?_) <;> first | exact Zx | (conv => whnf))))
  refine (W.loopK (ι := Nat) [0, 1] [] (fun k => [(5, iA k)]) (fun _ => []) (fun k => k ≤ cs.length ∧ k ≤ idxN cs c) (fun k => cs.length - k) 0 ⟨Nat.zero_le _, Nat.zero_le _⟩ ?_ ?_ ?_)
  · exact Yz
  · exact Yz
  conv => whnf
  intro k ⟨hk, hz⟩
  by_cases hk' : k < cs.length
  · have hst := strEq_iff (cs.getD k default) c
    have hs := find_step cs (fun x => decide (x = c)) hk' hz
    simp only [show List.findIdx (fun x => decide (x = c)) cs = idxN cs c from rfl] at hs
    (repeat' (first | refine Zs ?_ | refine Zk ?_ | ((first | refine Za ?_ | refine Zr ?_ | refine Zp ?_ | refine Ze ?_ | refine Zd ?_ | refine Zn ?_ | refine Zc ?_ | refine UnK.mk (fun b hb => ?_)); conv => whnf) | (refine Zb (fun h => ?_) (fun h => ?_) <;> first | exact Zx | (conv => whnf))))
    all_goals (try dsimp only [Int.toNat_natCast] at *)
    (repeat' (first | refine Zs ?_ | refine Zk ?_ | ((first | refine Za ?_ | refine Zr ?_ | refine Zp ?_ | refine Ze ?_ | refine Zd ?_ | refine Zn ?_ | refine Zc ?_ | refine UnK.mk (fun b hb => ?_)); conv => whnf) | (refine Zb (fun h => ?_) (fun h => ?_) <;> first | exact Zx | (conv => whnf))))
    all_goals first | (exfalso; omega) | skip
    · have e := hst.1 h
      rw [decide_eq_true e] at hs
      have e2 : idxN cs c = k := of_decide_eq_true hs.symm
      (repeat' (first | exact trivial | exact Zm | exact Zl | exact ResLe.row0 rfl | exact Zi (by unfold idxI; rw [if_pos (by omega), e2]) | exact Zo (h := by unfold idxI; rw [if_pos (by omega), e2]) | exact ResLe.bo rfl rfl Iff.rfl | refine ResLe.agg ?_ | refine And.intro ?_ ?_ | ((conv => whnf); first | exact Zl | exact ResLe.row0 rfl | exact Zi (by unfold idxI; rw [if_pos (by omega), e2]) | exact Zo (h := by unfold idxI; rw [if_pos (by omega), e2]) | exact ResLe.bo rfl rfl Iff.rfl | refine ResLe.agg ?_ | refine And.intro ?_ ?_)))
    · have e : ¬ cs.getD k default = c := fun e => by rw [hst.2 e] at h; cases h
      rw [decide_eq_false e] at hs
      have e2 : idxN cs c ≠ k := of_decide_eq_false hs.symm
      refine ⟨k + 1, ⟨by omega, by omega⟩, by omega, ?_, ?_, ?_, ?_⟩
      all_goals exact Yz
  · (repeat' (first | refine Zs ?_ | refine Zk ?_ | ((first | refine Za ?_ | refine Zr ?_ | refine Zp ?_ | refine Ze ?_ | refine Zd ?_ | refine Zn ?_ | refine Zc ?_ | refine UnK.mk (fun b hb => ?_)); conv => whnf) | (refine Zb (fun h => ?_) (fun h => ?_) <;> first | exact Zx | (conv => whnf))))
    all_goals first | (exfalso; omega) | skip
    (repeat' (first | exact trivial | exact Zm | exact Zl | exact ResLe.row0 rfl | exact Zi (by unfold idxI; rw [if_neg (by omega)]) | exact Zo (h := by unfold idxI; rw [if_neg (by omega)]) | exact ResLe.bo rfl rfl Iff.rfl | refine ResLe.agg ?_ | refine And.intro ?_ ?_ | ((conv => whnf); first | exact Zl | exact ResLe.row0 rfl | exact Zi (by unfold idxI; rw [if_neg (by omega)]) | exact Zo (h := by unfold idxI; rw [if_neg (by omega)]) | exact ResLe.bo rfl rfl Iff.rfl | refine ResLe.agg ?_ | refine And.intro ?_ ?_)))
def bE (b : Bool) (_ : Nat) : D := .val (.bool b)
abbrev bD (l : List Bool) : D := .lst 1 l.length (rowF bE l)
theorem rused_t (rs : List Rc) (cs : List ByteArray) (gone : List Bool) (c : ByteArray) (h : rcsOk rs) (hL : cs.length ≤ 1000) (hg : gone.length = cs.length) : ACalls XX 45 [.dat (rcD rs), .dat (bsD cs), .dat (bD gone), sY c] (bA (decide (usedP rs cs gone c))) := by
  have h32 := h.1
  refine ACalls.of (n := Try.f45.ntmps) XX_ok Try.func45 rfl (by kernel_rfl) rfl rfl (Nat.le_of_ble_eq_true rfl) ?_
  (repeat' (first | refine Zs ?_ | refine Zk ?_ | ((first | refine Za ?_ | refine Zr ?_ | refine Zp ?_ | refine Ze ?_ | refine Zd ?_ | refine Zn ?_ | refine Zc ?_ | refine UnK.mk (fun b hb => ?_)); conv => whnf) | (refine Zb (fun h => ?_) (fun h => ?_) <;> first | exact Zx | (conv => whnf))))
  refine (W.loopK (ι := Nat) [0, 1, 2, 3] [] (fun k => [(9, iA k)]) (fun _ => []) (fun k => k ≤ cs.length ∧ ∀ j, j < k → ¬ (gone.getD j false = false ∧ mk rs (cs.getD j default) < rs.length ∧ 0 < useQ rs (mk rs (cs.getD j default)) c)) (fun k => cs.length - k) 0 ⟨Nat.zero_le _, fun j hj => absurd hj (by omega)⟩ ?_ ?_ ?_)
  · exact Yz
  · exact Yz
  conv => whnf
  intro k ⟨hk, hz⟩
  by_cases hk' : k < cs.length
  · have hr := rrec_t rs (cs.getD k default) h
    have hnx : ¬ (gone.getD k false = false ∧ mk rs (cs.getD k default) < rs.length ∧ 0 < useQ rs (mk rs (cs.getD k default)) c) → ∀ j, j < k + 1 → ¬ (gone.getD j false = false ∧ mk rs (cs.getD j default) < rs.length ∧ 0 < useQ rs (mk rs (cs.getD j default)) c) := fun hn j hj => by
      by_cases hjk : j = k
      · subst hjk; exact hn
      · exact hz j (by omega)
    have hgd : gone.getD k default = gone.getD k false := rfl
    by_cases hm : mk rs (cs.getD k default) < rs.length
    · have e1 : recI rs (cs.getD k default) = mk rs (cs.getD k default) := if_pos hm
      rw [e1] at hr
      obtain ⟨a1, a2, _, _⟩ := h.at hm
      have hq := yqty_t (rs.getD (mk rs (cs.getD k default)) default).ins c (by omega) (fun x hx => by have := asc_q a1 x hx; omega)
      have hu : useQ rs (mk rs (cs.getD k default)) c = qtyS (rs.getD (mk rs (cs.getD k default)) default).ins c := rfl
      rw [hu] at hnx
      have hyes : gone.getD k false = false → 0 < qtyS (rs.getD (mk rs (cs.getD k default)) default).ins c → usedP rs cs gone c := fun g1 g2 => ⟨k, hk', g1, hm, g2⟩
      generalize mk rs (cs.getD k default) = m at *
      (repeat' (first | refine Zs ?_ | refine Zk ?_ | ((first | refine Za ?_ | refine Zr ?_ | refine Zp ?_ | refine Ze ?_ | refine Zd ?_ | refine Zn ?_ | refine Zc ?_ | refine UnK.mk (fun b hb => ?_)); conv => whnf) | (refine Zb (fun h => ?_) (fun h => ?_) <;> first | exact Zx | (conv => whnf))))
      all_goals (try dsimp only [Int.toNat_natCast] at *)
      (repeat' (first | refine Zs ?_ | refine Zk ?_ | ((first | refine Za ?_ | refine Zr ?_ | refine Zp ?_ | refine Ze ?_ | refine Zd ?_ | refine Zn ?_ | refine Zc ?_ | refine UnK.mk (fun b hb => ?_) | refine Zy hr ?_); conv => whnf) | (refine Zb (fun h => ?_) (fun h => ?_) <;> first | exact Zx | (conv => whnf))))
      all_goals (try dsimp only [Int.toNat_natCast] at *)
      (repeat' (first | refine Zs ?_ | refine Zk ?_ | ((first | refine Za ?_ | refine Zr ?_ | refine Zp ?_ | refine Ze ?_ | refine Zd ?_ | refine Zn ?_ | refine Zc ?_ | refine UnK.mk (fun b hb => ?_) | refine Zy hr ?_ | refine Zy hq ?_); conv => whnf) | (refine Zb (fun h => ?_) (fun h => ?_) <;> first | exact Zx | (conv => whnf))))
      all_goals first | (exfalso; omega) | (have hy := hyes (by assumption) (by assumption)); (repeat' (first | exact trivial | exact Zm | exact Zl | exact ResLe.row0 rfl | exact Zi (by simp [hy]) | exact Zo (h := by simp [hy]) | exact ResLe.bo rfl rfl Iff.rfl | refine ResLe.agg ?_ | refine And.intro ?_ ?_ | ((conv => whnf); first | exact Zl | exact ResLe.row0 rfl | exact Zi (by simp [hy]) | exact Zo (h := by simp [hy]) | exact ResLe.bo rfl rfl Iff.rfl | refine ResLe.agg ?_ | refine And.intro ?_ ?_))); done | skip
      all_goals (refine ⟨k + 1, ⟨by omega, hnx (by rintro ⟨g1, g2, g3⟩; first | omega | simp_all)⟩, by omega, ?_, ?_, ?_, ?_⟩)
      all_goals exact Yz
    · have e1 : recI rs (cs.getD k default) = -1 := if_neg hm
      rw [e1] at hr
      have hnx := hnx fun hh => hm hh.2.1
      (repeat' (first | refine Zs ?_ | refine Zk ?_ | ((first | refine Za ?_ | refine Zr ?_ | refine Zp ?_ | refine Ze ?_ | refine Zd ?_ | refine Zn ?_ | refine Zc ?_ | refine UnK.mk (fun b hb => ?_)); conv => whnf) | (refine Zb (fun h => ?_) (fun h => ?_) <;> first | exact Zx | (conv => whnf))))
      all_goals (try dsimp only [Int.toNat_natCast] at *)
      (repeat' (first | refine Zs ?_ | refine Zk ?_ | ((first | refine Za ?_ | refine Zr ?_ | refine Zp ?_ | refine Ze ?_ | refine Zd ?_ | refine Zn ?_ | refine Zc ?_ | refine UnK.mk (fun b hb => ?_) | refine Zy hr ?_); conv => whnf) | (refine Zb (fun h => ?_) (fun h => ?_) <;> first | exact Zx | (conv => whnf))))
      all_goals first | (exfalso; omega) | skip
      all_goals (refine ⟨k + 1, ⟨by omega, hnx⟩, by omega, ?_, ?_, ?_, ?_⟩)
      all_goals exact Yz
  · have hno : ¬ usedP rs cs gone c := fun ⟨j, hj, g⟩ => hz j (by omega) g
    (repeat' (first | refine Zs ?_ | refine Zk ?_ | ((first | refine Za ?_ | refine Zr ?_ | refine Zp ?_ | refine Ze ?_ | refine Zd ?_ | refine Zn ?_ | refine Zc ?_ | refine UnK.mk (fun b hb => ?_)); conv => whnf) | (refine Zb (fun h => ?_) (fun h => ?_) <;> first | exact Zx | (conv => whnf))))
    all_goals first | (exfalso; omega) | skip
    (repeat' (first | exact trivial | exact Zm | exact Zl | exact ResLe.row0 rfl | exact Zi (by simp [hno]) | exact Zo (h := by simp [hno]) | exact ResLe.bo rfl rfl Iff.rfl | refine ResLe.agg ?_ | refine And.intro ?_ ?_ | ((conv => whnf); first | exact Zl | exact ResLe.row0 rfl | exact Zi (by simp [hno]) | exact Zo (h := by simp [hno]) | exact ResLe.bo rfl rfl Iff.rfl | refine ResLe.agg ?_ | refine And.intro ?_ ?_)))
end Go.Proofs.Ytoeghejbgibioaa
