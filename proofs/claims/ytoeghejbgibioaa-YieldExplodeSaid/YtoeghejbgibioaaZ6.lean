/- Yields: the recipes are run. -/
import Derived.Test.YtoeghejbgibioaaZ5
namespace Go.Proofs.Ytoeghejbgibioaa
open Go Go.RowKit
set_option linter.unusedVariables false
set_option linter.unusedSimpArgs false
set_option maxRecDepth 100000
set_option maxHeartbeats 4000000
attribute [local irreducible] ResLe AVle ArgLe ArgP EntLe Dle ResH ArgQ strEq strLt

structure RS where
  i : Nat
  L : ML
  B : List Int
structure IS where
  i : Nat
  L : ML
theorem mk_le {rs : List Rc} {k : Nat} (hk : k < rs.length) {x : Nd} (hx : x ∈ (rs.getD k default).outs) : mk rs x.c ≤ k := by
  by_cases h : mk rs x.c ≤ k
  · exact h
  · have h2 := mk_step rs x.c hk (by omega)
    have h3 : hasC (rs.getD k default).outs x.c = true := List.any_eq_true.2 ⟨x, hx, by simp⟩
    rw [h3] at h2
    have := of_decide_eq_true h2.symm
    omega
theorem set_self (B : List Int) (k : Nat) : B.set k (B.getD k 0) = B := by
  apply List.ext_getElem?
  intro t
  rw [List.getElem?_set]
  split
  · rename_i h
    subst h
    split
    · rename_i h1
      rw [List.getD_eq_getElem?_getD, List.getElem?_eq_getElem h1, Option.getD_some]
    · rename_i h1
      rw [List.getElem?_eq_none (by omega)]
  · rfl
theorem run_any (rs : List Rc) (h : rcsOk rs) (od : List Int) (ho : od.length ≤ 32) (hr : ∀ x ∈ od, 0 ≤ x ∧ x < (rs.length : Int)) (c : ByteArray) (q : Int) (hc : c.size ≤ 1000) (hq : 0 ≤ q ∧ q ≤ 1000000000) :
    (∀ L B, rnAll rs od c q = some (L, B) → HC XX 38 [.dat (rcD rs), .mp 5000, .dat (iD od), .agg [sY c, iA q]] [(5000, .mp XX.P 9 3 (mkT rs rs.length))] (.tup [.mp 19, .dat (iD B), iA 0]) [(5000, .mp XX.P 9 3 (mkT rs rs.length)), (19, .mp XX.P 9 3 L)] (some 19)) ∧
    (rnAll rs od c q = none → HC XX 38 [.dat (rcD rs), .mp 5000, .dat (iD od), .agg [sY c, iA q]] [(5000, .mp XX.P 9 3 (mkT rs rs.length))] (.tup [.dat (.val (.map none)), .dat (iD []), iA 16]) [(5000, .mp XX.P 9 3 (mkT rs rs.length))] none) := by
  have hm : (1000 : Nat) ≤ maxLen := by decide
  have h32 := h.1
  have s1 : c.size ≤ maxLen := by omega
  have s2 : ([] : ML).length < maxLen := by show 0 < maxLen; omega
  have s3 : -9223372036854775808 ≤ q ∧ q ≤ 9223372036854775807 := by omega
  have hL0 : LOk (1 + 8 * 0) (putM [] c q) := ⟨fun x => by rw [getM_put]; split <;> first | omega | (show 0 ≤ (0 : Int) ∧ (0 : Int) ≤ 1000000000000; omega), len_put [] c q⟩
  have hB0 : BOk rs.length (List.replicate rs.length 0) := ⟨by simp, fun k => by rw [List.getD_eq_getElem?_getD, List.getElem?_replicate]; split <;> simp⟩
  refine ⟨fun L1 B1 hR => ?_, fun hR => ?_⟩
  · obtain ⟨R, eR⟩ : ∃ R, R = some (L1, B1) := ⟨_, rfl⟩
    unfold rnAll at hR
    rw [← eR] at hR
    refine HC.of (n := Try.f38.ntmps) XX_ok Try.func38 rfl (by kernel_rfl) rfl rfl (Nat.le_of_ble_eq_true rfl) rfl rfl ?_
    (repeat' (first | refine Zs ?_ | refine Zk ?_ | ((first | refine Za ?_ | refine Zr ?_ | refine Zp ?_ | refine Ze ?_ | refine Zd ?_ | refine W.drawT dr38 rfl mixed rfl ?_ | refine Zn ?_ | refine Zc ?_ | refine UnK.mk (fun b hb => ?_) | refine Zc ?_ ⟨rfl, rfl, rfl, s1, s2, s3⟩); conv => whnf) | (refine Zb (fun h => ?_) (fun h => ?_) <;> first | exact Zx | (conv => whnf))))
    all_goals (try dsimp only [Int.toNat_natCast] at *)
    refine (W.loopK (ι := RS) [0, 1, 11, 12, 28, 29] [5000] (fun s => [(30, iA s.i)]) (fun s => [(19, .mp XX.P 9 3 s.L), (27, .row 3 1 rs.length (rowF iE s.B))]) (fun s => s.i ≤ od.length ∧ LOk (1 + 8 * s.i) s.L ∧ BOk rs.length s.B ∧ rnF rs (od.drop s.i) (s.L, s.B) = R) (fun s => od.length - s.i) ⟨0, putM [] c q, List.replicate rs.length 0⟩ ⟨Nat.zero_le _, hL0, hB0, hR⟩ ?_ ?_ ?_)
    · exact Yz
    · (repeat' (first | exact trivial | exact Yr | exact Yi (by first | rfl | omega) | exact Yo (by first | rfl | omega) | exact Yd | exact Yn | exact Ye (by first | rfl | omega) | exact ⟨_, rfl, Yf, rfl⟩ | refine ⟨_, rfl, Yb ?_, rfl⟩ | refine ⟨_, rfl, Yw (by first | rfl | omega) ?_, rfl⟩ | refine And.intro ?_ ?_))
      intro i hi j hj
      obtain rfl : j = 0 := by omega
      refine Dle.of_eq ?_
      show D.val (Value.int .i64 0) = .val (.int .i64 ((List.replicate rs.length (0 : Int)).getD i default))
      rw [List.getD_eq_getElem?_getD, List.getElem?_replicate]
      split <;> rfl
    conv => whnf
    intro ⟨i, L, B⟩ ⟨p1, p2, p3, p4⟩
    dsimp only at p1 p2 p3 p4 ⊢
    by_cases hi : i < od.length
    rotate_left
    · obtain rfl : i = od.length := by omega
      rw [List.drop_length] at p4
      (repeat' (first | refine Zs ?_ | refine Zk ?_ | ((first | refine Za ?_ | refine Zr ?_ | refine Zp ?_ | refine Ze ?_ | refine Zd ?_ | refine W.drawT dr38 rfl mixed rfl ?_ | refine Zn ?_ | refine Zc ?_ | refine UnK.mk (fun b hb => ?_)); conv => whnf) | (refine Zb (fun h => ?_) (fun h => ?_) <;> first | exact Zx | (conv => whnf))))
      all_goals first | (exfalso; omega) | skip
      have p5 : some (L, B) = R := p4
      first
        | (exfalso; rw [eR] at p5; cases p5; done)
        | skip
      all_goals (rw [eR] at p5; obtain ⟨rfl, rfl⟩ : L = L1 ∧ B = B1 := by (injection p5 with p5; injection p5 with a b; exact ⟨a, b⟩))
      all_goals ((conv => whnf); (repeat' (first | exact trivial | exact AVle.refl _ | exact EntLe.refl _ | exact AVle.int (by first | rfl | omega) | exact ResH.same (AVle.refl _) | exact ResH.same (AVle.own (by first | rfl | omega)) | exact ResH.same (AVle.int (by first | rfl | omega)) | exact ResH.same (AVle.bool (by simp only [decide_eq_true_eq, decide_eq_false_iff_not, decide_eq_decide]; first | rfl | omega)) | exact ResH.same (AVle.tt_ (by simp only [decide_eq_true_eq, decide_eq_false_iff_not, decide_eq_decide]; first | rfl | omega)) | exact ResH.same (AVle.ff_ (by simp only [decide_eq_true_eq, decide_eq_false_iff_not, decide_eq_decide]; first | rfl | omega)) | exact ResH.same (AVle.tt_ rfl) | exact ResH.same (AVle.ff_ rfl) | refine ResH.agg ?_ | exact ⟨_, rfl, EntLe.refl _, rfl⟩ | refine ⟨_, rfl, EntLe.blk ?_, rfl⟩ | refine ⟨_, rfl, EntLe.row (by first | rfl | omega) ?_, rfl⟩ | refine And.intro ?_ ?_ | ((conv => whnf); first | exact ResH.same (AVle.refl _) | exact ResH.same (AVle.own (by first | rfl | omega)) | exact ResH.same (AVle.int (by first | rfl | omega)) | exact ResH.same (AVle.bool (by simp only [decide_eq_true_eq, decide_eq_false_iff_not, decide_eq_decide]; first | rfl | omega)) | exact ResH.same (AVle.tt_ (by simp only [decide_eq_true_eq, decide_eq_false_iff_not, decide_eq_decide]; first | rfl | omega)) | exact ResH.same (AVle.ff_ (by simp only [decide_eq_true_eq, decide_eq_false_iff_not, decide_eq_decide]; first | rfl | omega)) | exact ResH.same (AVle.tt_ rfl) | exact ResH.same (AVle.ff_ rfl) | refine ResH.agg ?_))))
      all_goals (have eB : AV.dat (iD B) = .dat (.lst 1 rs.length (rowF iE B)) := by
                   show AV.dat (.lst 1 B.length _) = _
                   rw [p3.1])
      all_goals (rw [eB])
      all_goals exact ResH.row0 rfl rfl rfl
    have hd : od.drop i = od.getD i default :: od.drop (i + 1) := by rw [ygetD_of hi]; exact List.drop_eq_getElem_cons hi
    have hk0 := hr (od.getD i default) (ygetD_in hi)
    obtain ⟨k, hk⟩ : ∃ k : Nat, od.getD i default = k := ⟨(od.getD i default).toNat, by omega⟩
    rw [hk] at hd hk0
    have hkl : k < rs.length := by omega
    rw [hd] at p4
    have hget := fun x => mkT_get rs x rs.length (Nat.le_refl _)
    obtain ⟨a1, a2, a3, a4⟩ := h.at hkl
    have hB := p3.2 k
    have hBl := p3.1
    have eK : rnF rs ((k : Int) :: od.drop (i + 1)) (L, B) = match rnI (rnO rs k L (B.getD k 0) (rs.getD k default).outs) L (rs.getD k default).ins with
        | none => none
        | some L' => rnF rs (od.drop (i + 1)) (L', B.set k (rnO rs k L (B.getD k 0) (rs.getD k default).outs)) := by
      show (match rnK rs (k : Int).toNat (L, B) with
        | none => none
        | some s' => rnF rs (od.drop (i + 1)) s') = _
      rw [Int.toNat_natCast]
      unfold rnK
      dsimp only
      cases rnI (rnO rs k L (B.getD k 0) (rs.getD k default).outs) L (rs.getD k default).ins <;> rfl
    rw [eK] at p4
    clear eK hd
    have hO := fun us hus => rnO_rng (rs := rs) (k := k) p2 us (B.getD k 0) hus hB
    have hmk := fun x (hx : x ∈ (rs.getD k default).outs) => mk_le hkl hx
    obtain ⟨b0, hb0⟩ : ∃ b0, b0 = B.getD k 0 := ⟨_, rfl⟩
    have hset := set_self B k
    rw [← hb0] at p4 hO hset hB
    (repeat' (first | refine Zs ?_ | refine Zk ?_ | ((first | refine Zas 6 ?_ | refine Zr ?_ | refine Zp ?_ | refine Ze ?_ | refine Zd ?_ | refine W.drawT dr38 rfl mixed rfl ?_ | refine Zn ?_ | refine Zc ?_ | refine UnK.mk (fun b hb => ?_)); conv => whnf) | (refine Zb (fun h => ?_) (fun h => ?_) <;> first | exact Zx | (conv => whnf))))
    all_goals first | (exfalso; omega) | skip
    all_goals (try dsimp only [Int.toNat_natCast] at *)
    rw [hk]
    (repeat' (first | refine Zs ?_ | refine Zk ?_ | ((first | refine Za ?_ | refine Zr ?_ | refine Zp ?_ | refine Ze ?_ | refine Zd ?_ | refine W.drawT dr38 rfl mixed rfl ?_ | refine Zn ?_ | refine Zc ?_ | refine UnK.mk (fun b hb => ?_)); conv => whnf) | (refine Zb (fun h => ?_) (fun h => ?_) <;> first | exact Zx | (conv => whnf))))
    all_goals (try dsimp only [Int.toNat_natCast] at *)
    (repeat' (first | refine Zs ?_ | refine Zk ?_ | ((first | refine Za ?_ | refine Zr ?_ | refine Zp ?_ | refine Ze ?_ | refine Zd ?_ | refine W.drawT dr38 rfl mixed rfl ?_ | refine Zn ?_ | refine Zc ?_ | refine UnK.mk (fun b hb => ?_)); conv => whnf) | (refine Zb (fun h => ?_) (fun h => ?_) <;> first | exact Zx | (conv => whnf))))
    all_goals (try dsimp only [Int.toNat_natCast] at *)
    all_goals first | (exfalso; omega) | skip
    refine (W.loopK (ι := Nat) [0, 1, 11, 12, 14, 28, 29, 30, 38, 39] [5000, 19] (fun j => [(40, iA j)]) (fun j => [(27, .row 3 1 rs.length (rowF iE (B.set k (rnO rs k L b0 ((rs.getD k default).outs.take j)))))]) (fun j => j ≤ (rs.getD k default).outs.length) (fun j => (rs.getD k default).outs.length - j) 0 (Nat.zero_le _) ?_ ?_ ?_)
    · exact Yz
    · (repeat' (first | exact trivial | exact Yr | exact Yi (by first | rfl | omega) | exact Yo (by first | rfl | omega) | exact Yd | exact Yn | exact Ye (by first | rfl | omega) | exact ⟨_, rfl, Yf, rfl⟩ | refine ⟨_, rfl, Yb ?_, rfl⟩ | refine ⟨_, rfl, Yw (by first | rfl | omega) ?_, rfl⟩ | refine And.intro ?_ ?_))
      intro a ha b hb
      show Dle _ (rowF iE (B.set k b0) a b)
      rw [hset]
      exact Dle.refl _
    conv => whnf
    intro j hj
    by_cases hj' : j < (rs.getD k default).outs.length
    · have hx := a3 j hj'
      have hxm := hmk _ (ygetD_in hj')
      have s4 : ((rs.getD k default).outs.getD j default).c.size ≤ maxLen := by rw [hx.1.1]; omega
      have hv := ceil_rng p2 hx.2.1
      have hg1 := p2.1 ((rs.getD k default).outs.getD j default).c
      have e1 : rnO rs k L b0 ((rs.getD k default).outs.take (j + 1)) = rnB rs k L (rnO rs k L b0 ((rs.getD k default).outs.take j)) ((rs.getD k default).outs.getD j default) := by rw [take_snoc _ hj', rnO_snoc]
      have hb1 := hO ((rs.getD k default).outs.take j) (fun y hy => by
        obtain ⟨t, ht, rfl⟩ := List.getElem_of_mem (List.mem_of_mem_take hy)
        have := (a3 t ht).2.1
        rwa [ygetD_of ht] at this)
      have eG := hget ((rs.getD k default).outs.getD j default).c
      rw [if_pos (by omega)] at eG
      have q1 := hx.2.1
      have q2 := hx.2.2.1
      have eV : ceilV L ((rs.getD k default).outs.getD j default) = (getM L ((rs.getD k default).outs.getD j default).c + ((rs.getD k default).outs.getD j default).q - 1) / ((rs.getD k default).outs.getD j default).q := rfl
      unfold rnB at e1
      rw [eV] at e1 hv
      clear eV p4 hO hmk hget hset a1 a3
      generalize rnO rs k L b0 ((rs.getD k default).outs.take j) = b1 at *
      (repeat' (first | refine Zs ?_ | refine Zk ?_ | ((first | refine Zas 9 ?_ | refine Zr ?_ | refine Zp ?_ | refine Ze ?_ | refine Zd ?_ | refine W.drawT dr38 rfl mixed rfl ?_ | refine Zn ?_ | refine Zc ?_ | refine UnK.mk (fun b hb => ?_)); conv => whnf) | (refine Zb (fun h => ?_) (fun h => ?_) <;> first | exact Zx | (conv => whnf))))
      all_goals (try dsimp only [Int.toNat_natCast] at *)
      all_goals first | (exfalso; omega) | skip
      generalize (rs.getD k default).outs.getD j default = x at *
      conv => whnf
      (repeat' (first | refine Zs ?_ | refine Zk ?_ | ((first | refine Za ?_ | refine Zr ?_ | refine Zp ?_ | refine Ze ?_ | refine Zd ?_ | refine Zn ?_ | refine Zc ?_ | refine UnK.mk (fun b hb => ?_) | refine Zc ?_ ⟨rfl, rfl, rfl, s4⟩); conv => whnf) | (refine Zb (fun h => ?_) (fun h => ?_) <;> first | exact Zx | (conv => whnf))))
      · have heq : mk rs x.c = k := by rw [eG] at h; omega
        rw [if_pos heq] at e1
        have eb : (B.set k b1).getD (0 + k) default = b1 := by
          rw [Nat.zero_add]
          show (B.set k b1).getD k 0 = b1
          rw [getD_set, if_pos ⟨rfl, by omega⟩]
        (repeat' (first | refine Zs ?_ | refine Zk ?_ | ((first | refine Za ?_ | refine Zr ?_ | refine Zp ?_ | refine Ze ?_ | refine Zd ?_ | refine W.drawT dr38 rfl mixed rfl ?_ | refine Zn ?_ | refine Zc ?_ | refine UnK.mk (fun b hb => ?_) | refine Zc ?_ ⟨rfl, rfl, rfl, s4⟩); conv => whnf) | (refine Zb (fun h => ?_) (fun h => ?_) <;> first | exact Zx | (conv => whnf))))
        all_goals first | (exfalso; omega) | skip
        refine ⟨j + 1, by omega, by omega, ?_, ?_, ?_, ?_⟩
        all_goals (try rw [e1])
        all_goals (repeat' (first | exact trivial | exact Yr | exact Yi (by first | rfl | omega) | exact Yo (by first | rfl | omega) | exact Yd | exact Yn | exact Ye (by first | rfl | omega) | exact ⟨_, rfl, Yf, rfl⟩ | refine ⟨_, rfl, Yb ?_, rfl⟩ | refine ⟨_, rfl, Yw (by first | rfl | omega) ?_, rfl⟩ | refine And.intro ?_ ?_))
        intro a ha b hb
        have hr := RowIs.set (RowIs.refl iE 1 (B.set k b1)) (k := k) (x := if b1 < (getM L x.c + x.q - 1) / x.q then (getM L x.c + x.q - 1) / x.q else b1) (ds := [.val (.int .i64 (if (B.set k b1).getD (0 + k) default < (getM L x.c + x.q - 1) / x.q then (getM L x.c + x.q - 1) / x.q else (B.set k b1).getD (0 + k) default))]) rfl (fun t ht => by
          obtain rfl : t = 0 := by omega
          rw [eb]
          exact Dle.refl _)
        have := hr.le a (by simp; omega) b hb
        simpa only [Nat.zero_add, Int.toNat_natCast, List.set_set, eb] using this
      · have hne : mk rs x.c ≠ k := fun hh => h (by rw [eG, hh])
        rw [if_neg hne] at e1
        refine ⟨j + 1, by omega, by omega, ?_, ?_, ?_, ?_⟩
        all_goals (try rw [e1])
        all_goals exact Yz
    obtain rfl : j = (rs.getD k default).outs.length := by omega
    rw [List.take_length]
    have hb1 := hO (rs.getD k default).outs (fun y hy => by
      obtain ⟨t, ht, rfl⟩ := List.getElem_of_mem hy
      have := (a3 t ht).2.1
      rwa [ygetD_of ht] at this)
    have eb : (B.set k (rnO rs k L b0 (rs.getD k default).outs)).getD (0 + k) default = rnO rs k L b0 (rs.getD k default).outs := by
      rw [Nat.zero_add]
      show (B.set k _).getD k 0 = _
      rw [getD_set, if_pos ⟨rfl, by omega⟩]
    have hB2 := p3.set k hb1
    clear hO hmk hset
    generalize rnO rs k L b0 (rs.getD k default).outs = b1 at *
    obtain ⟨RI, hRI⟩ : ∃ RI, rnI b1 L (rs.getD k default).ins = RI := ⟨_, rfl⟩
    rw [hRI] at p4
    (repeat' (first | refine Zs ?_ | refine Zk ?_ | ((first | refine Za ?_ | refine Zr ?_ | refine Zp ?_ | refine Ze ?_ | refine Zd ?_ | refine W.drawT dr38 rfl mixed rfl ?_ | refine Zn ?_ | refine Zc ?_ | refine UnK.mk (fun b hb => ?_)); conv => whnf) | (refine Zb (fun h => ?_) (fun h => ?_) <;> first | exact Zx | (conv => whnf))))
    all_goals (try dsimp only [Int.toNat_natCast] at *)
    (repeat' (first | refine Zs ?_ | refine Zk ?_ | ((first | refine Za ?_ | refine Zr ?_ | refine Zp ?_ | refine Ze ?_ | refine Zd ?_ | refine W.drawT dr38 rfl mixed rfl ?_ | refine Zn ?_ | refine Zc ?_ | refine UnK.mk (fun b hb => ?_)); conv => whnf) | (refine Zb (fun h => ?_) (fun h => ?_) <;> first | exact Zx | (conv => whnf))))
    all_goals (try dsimp only [Int.toNat_natCast] at *)
    all_goals first | (exfalso; omega) | skip
    refine (W.loopK (ι := IS) [0, 1, 11, 12, 14, 28, 29, 30, 74, 75] [5000, 27] (fun s => [(76, iA s.i)]) (fun s => [(19, .mp XX.P 9 3 s.L)]) (fun s => s.i ≤ (rs.getD k default).ins.length ∧ LOk (1 + 8 * i + s.i) s.L ∧ rnI b1 s.L ((rs.getD k default).ins.drop s.i) = RI) (fun s => (rs.getD k default).ins.length - s.i) ⟨0, L⟩ ⟨Nat.zero_le _, p2, hRI⟩ ?_ ?_ ?_)
    · exact Yz
    · exact Yz
    conv => whnf
    intro ⟨j, L2⟩ ⟨m1, m2, m3⟩
    dsimp only at m1 m2 m3 ⊢
    by_cases hj2 : j < (rs.getD k default).ins.length
    · have hx := a1 j hj2
      have hd : (rs.getD k default).ins.drop j = (rs.getD k default).ins.getD j default :: (rs.getD k default).ins.drop (j + 1) := by rw [ygetD_of hj2]; exact List.drop_eq_getElem_cons hj2
      rw [hd] at m3
      have s4 : ((rs.getD k default).ins.getD j default).c.size ≤ maxLen := by rw [hx.1.1]; omega
      have q1 := hx.2.1
      have q2 := hx.2.2.1
      have s5 : L2.length < maxLen := by have := m2.2; omega
      have hg1 := m2.1 ((rs.getD k default).ins.getD j default).c
      have hP := fun hc => rnP_ok (b := b1) m2 q1 hb1.1 hc
      have e3 : rnI b1 L2 ((rs.getD k default).ins.getD j default :: (rs.getD k default).ins.drop (j + 1)) = if (1000000000000 - getM L2 ((rs.getD k default).ins.getD j default).c) / ((rs.getD k default).ins.getD j default).q < b1 then none else rnI b1 (rnP b1 L2 ((rs.getD k default).ins.getD j default)) ((rs.getD k default).ins.drop (j + 1)) := rfl
      rw [e3] at m3
      clear e3 hd hget a1 a3
      (repeat' (first | refine Zs ?_ | refine Zk ?_ | ((first | refine Zas 15 ?_ | refine Zr ?_ | refine Zp ?_ | refine Ze ?_ | refine Zd ?_ | refine W.drawT dr38 rfl mixed rfl ?_ | refine Zn ?_ | refine Zc ?_ | refine UnK.mk (fun b hb => ?_)); conv => whnf) | (refine Zb (fun h => ?_) (fun h => ?_) <;> first | exact Zx | (conv => whnf))))
      all_goals (try dsimp only [Int.toNat_natCast] at *)
      all_goals first | (exfalso; omega) | skip
      generalize (rs.getD k default).ins.getD j default = x at *
      conv => whnf
      have hD : 0 ≤ (1000000000000 - getM L2 x.c) / x.q := Int.ediv_nonneg (by omega) (by omega)
      have hD2 : (1000000000000 - getM L2 x.c) / x.q ≤ 1000000000000 := Int.le_trans (Int.ediv_le_self _ (by omega)) (by omega)
      by_cases hc : (1000000000000 - getM L2 x.c) / x.q < b1
      · rw [if_pos hc] at m3
        rw [← m3] at p4
        (repeat' (first | refine Zs ?_ | refine Zk ?_ | ((first | refine Za ?_ | refine Zr ?_ | refine Zp ?_ | refine Ze ?_ | refine Zd ?_ | refine W.drawT dr38 rfl mixed rfl ?_ | refine Zn ?_ | refine Zc ?_ | refine UnK.mk (fun b hb => ?_) | refine Zc ?_ ⟨rfl, rfl, rfl, s4⟩); conv => whnf) | (refine Zb (fun h => ?_) (fun h => ?_) <;> first | exact Zx | (conv => whnf))))
        all_goals first | (exfalso; omega) | skip
        have p5 : none = R := p4
        first
          | (exfalso; rw [eR] at p5; cases p5; done)
          | skip
        all_goals ((conv => whnf); (repeat' (first | exact trivial | exact AVle.refl _ | exact EntLe.refl _ | exact AVle.int (by first | rfl | omega) | exact ResH.same (AVle.refl _) | exact ResH.same (AVle.own (by first | rfl | omega)) | exact ResH.same (AVle.int (by first | rfl | omega)) | exact ResH.same (AVle.bool (by simp only [decide_eq_true_eq, decide_eq_false_iff_not, decide_eq_decide]; first | rfl | omega)) | exact ResH.same (AVle.tt_ (by simp only [decide_eq_true_eq, decide_eq_false_iff_not, decide_eq_decide]; first | rfl | omega)) | exact ResH.same (AVle.ff_ (by simp only [decide_eq_true_eq, decide_eq_false_iff_not, decide_eq_decide]; first | rfl | omega)) | exact ResH.same (AVle.tt_ rfl) | exact ResH.same (AVle.ff_ rfl) | refine ResH.agg ?_ | exact ⟨_, rfl, EntLe.refl _, rfl⟩ | refine ⟨_, rfl, EntLe.blk ?_, rfl⟩ | refine ⟨_, rfl, EntLe.row (by first | rfl | omega) ?_, rfl⟩ | refine And.intro ?_ ?_ | ((conv => whnf); first | exact ResH.same (AVle.refl _) | exact ResH.same (AVle.own (by first | rfl | omega)) | exact ResH.same (AVle.int (by first | rfl | omega)) | exact ResH.same (AVle.bool (by simp only [decide_eq_true_eq, decide_eq_false_iff_not, decide_eq_decide]; first | rfl | omega)) | exact ResH.same (AVle.tt_ (by simp only [decide_eq_true_eq, decide_eq_false_iff_not, decide_eq_decide]; first | rfl | omega)) | exact ResH.same (AVle.ff_ (by simp only [decide_eq_true_eq, decide_eq_false_iff_not, decide_eq_decide]; first | rfl | omega)) | exact ResH.same (AVle.tt_ rfl) | exact ResH.same (AVle.ff_ rfl) | refine ResH.agg ?_))))
        all_goals (conv => whnf)
        all_goals exact ResH.same Yn
      · rw [if_neg hc] at m3
        obtain ⟨P1, P2, P3⟩ := hP hc
        have eb2 : (B.set k b1).getD (0 + (k : Int).toNat) default = b1 := by rw [Int.toNat_natCast]; exact eb
        have P2' : 0 ≤ (B.set k b1).getD (0 + (k : Int).toNat) default * x.q := by rw [eb2]; exact P2
        have P3' : getM L2 x.c + (B.set k b1).getD (0 + (k : Int).toNat) default * x.q ≤ 1000000000000 := by rw [eb2]; exact P3
        have s6 : -9223372036854775808 ≤ getM L2 x.c + (B.set k b1).getD (0 + (k : Int).toNat) default * x.q ∧ getM L2 x.c + (B.set k b1).getD (0 + (k : Int).toNat) default * x.q ≤ 9223372036854775807 := by omega
        (repeat' (first | refine Zs ?_ | refine Zk ?_ | ((first | refine Za ?_ | refine Zr ?_ | refine Zp ?_ | refine Ze ?_ | refine Zd ?_ | refine W.drawT dr38 rfl mixed rfl ?_ | refine Zn ?_ | refine Zc ?_ | refine UnK.mk (fun b hb => ?_) | refine Zc ?_ ⟨rfl, rfl, rfl, s4⟩ | refine Zc ?_ ⟨rfl, rfl, rfl, s4, s5, s6⟩); conv => whnf) | (refine Zb (fun h => ?_) (fun h => ?_) <;> first | exact Zx | (conv => whnf))))
        all_goals first | (exfalso; omega) | skip
        refine ⟨⟨j + 1, rnP b1 L2 x⟩, ⟨by simp only; omega, P1, m3⟩, by simp only; omega, ?_, ?_, ?_, ?_⟩
        all_goals (try rw [eb2])
        all_goals exact Yz
    obtain rfl : j = (rs.getD k default).ins.length := by omega
    rw [List.drop_length] at m3
    have m3' : some L2 = RI := m3
    rw [← m3'] at p4
    (repeat' (first | refine Zs ?_ | refine Zk ?_ | ((first | refine Za ?_ | refine Zr ?_ | refine Zp ?_ | refine Ze ?_ | refine Zd ?_ | refine W.drawT dr38 rfl mixed rfl ?_ | refine Zn ?_ | refine Zc ?_ | refine UnK.mk (fun b hb => ?_)); conv => whnf) | (refine Zb (fun h => ?_) (fun h => ?_) <;> first | exact Zx | (conv => whnf))))
    all_goals first | (exfalso; omega) | skip
    refine ⟨⟨i + 1, L2, B.set k b1⟩, ⟨by simp only; omega, ⟨m2.1, by have := m2.2; simp only; omega⟩, hB2, p4⟩, by simp only; omega, ?_, ?_, ?_, ?_⟩
    all_goals exact Yz
  · obtain ⟨R, eR⟩ : ∃ R, R = (none : Option (ML × List Int)) := ⟨_, rfl⟩
    unfold rnAll at hR
    rw [← eR] at hR
    refine HC.of (n := Try.f38.ntmps) XX_ok Try.func38 rfl (by kernel_rfl) rfl rfl (Nat.le_of_ble_eq_true rfl) rfl rfl ?_
    (repeat' (first | refine Zs ?_ | refine Zk ?_ | ((first | refine Za ?_ | refine Zr ?_ | refine Zp ?_ | refine Ze ?_ | refine Zd ?_ | refine W.drawT dr38 rfl mixed rfl ?_ | refine Zn ?_ | refine Zc ?_ | refine UnK.mk (fun b hb => ?_) | refine Zc ?_ ⟨rfl, rfl, rfl, s1, s2, s3⟩); conv => whnf) | (refine Zb (fun h => ?_) (fun h => ?_) <;> first | exact Zx | (conv => whnf))))
    all_goals (try dsimp only [Int.toNat_natCast] at *)
    refine (W.loopK (ι := RS) [0, 1, 11, 12, 28, 29] [5000] (fun s => [(30, iA s.i)]) (fun s => [(19, .mp XX.P 9 3 s.L), (27, .row 3 1 rs.length (rowF iE s.B))]) (fun s => s.i ≤ od.length ∧ LOk (1 + 8 * s.i) s.L ∧ BOk rs.length s.B ∧ rnF rs (od.drop s.i) (s.L, s.B) = R) (fun s => od.length - s.i) ⟨0, putM [] c q, List.replicate rs.length 0⟩ ⟨Nat.zero_le _, hL0, hB0, hR⟩ ?_ ?_ ?_)
    · exact Yz
    · (repeat' (first | exact trivial | exact Yr | exact Yi (by first | rfl | omega) | exact Yo (by first | rfl | omega) | exact Yd | exact Yn | exact Ye (by first | rfl | omega) | exact ⟨_, rfl, Yf, rfl⟩ | refine ⟨_, rfl, Yb ?_, rfl⟩ | refine ⟨_, rfl, Yw (by first | rfl | omega) ?_, rfl⟩ | refine And.intro ?_ ?_))
      intro i hi j hj
      obtain rfl : j = 0 := by omega
      refine Dle.of_eq ?_
      show D.val (Value.int .i64 0) = .val (.int .i64 ((List.replicate rs.length (0 : Int)).getD i default))
      rw [List.getD_eq_getElem?_getD, List.getElem?_replicate]
      split <;> rfl
    conv => whnf
    intro ⟨i, L, B⟩ ⟨p1, p2, p3, p4⟩
    dsimp only at p1 p2 p3 p4 ⊢
    by_cases hi : i < od.length
    rotate_left
    · obtain rfl : i = od.length := by omega
      rw [List.drop_length] at p4
      (repeat' (first | refine Zs ?_ | refine Zk ?_ | ((first | refine Za ?_ | refine Zr ?_ | refine Zp ?_ | refine Ze ?_ | refine Zd ?_ | refine W.drawT dr38 rfl mixed rfl ?_ | refine Zn ?_ | refine Zc ?_ | refine UnK.mk (fun b hb => ?_)); conv => whnf) | (refine Zb (fun h => ?_) (fun h => ?_) <;> first | exact Zx | (conv => whnf))))
      all_goals first | (exfalso; omega) | skip
      have p5 : some (L, B) = R := p4
      first
        | (exfalso; rw [eR] at p5; cases p5; done)
        | skip
      all_goals (rw [eR] at p5; obtain ⟨rfl, rfl⟩ : L = L1 ∧ B = B1 := by (injection p5 with p5; injection p5 with a b; exact ⟨a, b⟩))
      all_goals ((conv => whnf); (repeat' (first | exact trivial | exact AVle.refl _ | exact EntLe.refl _ | exact AVle.int (by first | rfl | omega) | exact ResH.same (AVle.refl _) | exact ResH.same (AVle.own (by first | rfl | omega)) | exact ResH.same (AVle.int (by first | rfl | omega)) | exact ResH.same (AVle.bool (by simp only [decide_eq_true_eq, decide_eq_false_iff_not, decide_eq_decide]; first | rfl | omega)) | exact ResH.same (AVle.tt_ (by simp only [decide_eq_true_eq, decide_eq_false_iff_not, decide_eq_decide]; first | rfl | omega)) | exact ResH.same (AVle.ff_ (by simp only [decide_eq_true_eq, decide_eq_false_iff_not, decide_eq_decide]; first | rfl | omega)) | exact ResH.same (AVle.tt_ rfl) | exact ResH.same (AVle.ff_ rfl) | refine ResH.agg ?_ | exact ⟨_, rfl, EntLe.refl _, rfl⟩ | refine ⟨_, rfl, EntLe.blk ?_, rfl⟩ | refine ⟨_, rfl, EntLe.row (by first | rfl | omega) ?_, rfl⟩ | refine And.intro ?_ ?_ | ((conv => whnf); first | exact ResH.same (AVle.refl _) | exact ResH.same (AVle.own (by first | rfl | omega)) | exact ResH.same (AVle.int (by first | rfl | omega)) | exact ResH.same (AVle.bool (by simp only [decide_eq_true_eq, decide_eq_false_iff_not, decide_eq_decide]; first | rfl | omega)) | exact ResH.same (AVle.tt_ (by simp only [decide_eq_true_eq, decide_eq_false_iff_not, decide_eq_decide]; first | rfl | omega)) | exact ResH.same (AVle.ff_ (by simp only [decide_eq_true_eq, decide_eq_false_iff_not, decide_eq_decide]; first | rfl | omega)) | exact ResH.same (AVle.tt_ rfl) | exact ResH.same (AVle.ff_ rfl) | refine ResH.agg ?_))))
      all_goals (have eB : AV.dat (iD B) = .dat (.lst 1 rs.length (rowF iE B)) := by
                   show AV.dat (.lst 1 B.length _) = _
                   rw [p3.1])
      all_goals (rw [eB])
      all_goals exact ResH.row0 rfl rfl rfl
    have hd : od.drop i = od.getD i default :: od.drop (i + 1) := by rw [ygetD_of hi]; exact List.drop_eq_getElem_cons hi
    have hk0 := hr (od.getD i default) (ygetD_in hi)
    obtain ⟨k, hk⟩ : ∃ k : Nat, od.getD i default = k := ⟨(od.getD i default).toNat, by omega⟩
    rw [hk] at hd hk0
    have hkl : k < rs.length := by omega
    rw [hd] at p4
    have hget := fun x => mkT_get rs x rs.length (Nat.le_refl _)
    obtain ⟨a1, a2, a3, a4⟩ := h.at hkl
    have hB := p3.2 k
    have hBl := p3.1
    have eK : rnF rs ((k : Int) :: od.drop (i + 1)) (L, B) = match rnI (rnO rs k L (B.getD k 0) (rs.getD k default).outs) L (rs.getD k default).ins with
        | none => none
        | some L' => rnF rs (od.drop (i + 1)) (L', B.set k (rnO rs k L (B.getD k 0) (rs.getD k default).outs)) := by
      show (match rnK rs (k : Int).toNat (L, B) with
        | none => none
        | some s' => rnF rs (od.drop (i + 1)) s') = _
      rw [Int.toNat_natCast]
      unfold rnK
      dsimp only
      cases rnI (rnO rs k L (B.getD k 0) (rs.getD k default).outs) L (rs.getD k default).ins <;> rfl
    rw [eK] at p4
    clear eK hd
    have hO := fun us hus => rnO_rng (rs := rs) (k := k) p2 us (B.getD k 0) hus hB
    have hmk := fun x (hx : x ∈ (rs.getD k default).outs) => mk_le hkl hx
    obtain ⟨b0, hb0⟩ : ∃ b0, b0 = B.getD k 0 := ⟨_, rfl⟩
    have hset := set_self B k
    rw [← hb0] at p4 hO hset hB
    (repeat' (first | refine Zs ?_ | refine Zk ?_ | ((first | refine Zas 6 ?_ | refine Zr ?_ | refine Zp ?_ | refine Ze ?_ | refine Zd ?_ | refine W.drawT dr38 rfl mixed rfl ?_ | refine Zn ?_ | refine Zc ?_ | refine UnK.mk (fun b hb => ?_)); conv => whnf) | (refine Zb (fun h => ?_) (fun h => ?_) <;> first | exact Zx | (conv => whnf))))
    all_goals first | (exfalso; omega) | skip
    all_goals (try dsimp only [Int.toNat_natCast] at *)
    rw [hk]
    (repeat' (first | refine Zs ?_ | refine Zk ?_ | ((first | refine Za ?_ | refine Zr ?_ | refine Zp ?_ | refine Ze ?_ | refine Zd ?_ | refine W.drawT dr38 rfl mixed rfl ?_ | refine Zn ?_ | refine Zc ?_ | refine UnK.mk (fun b hb => ?_)); conv => whnf) | (refine Zb (fun h => ?_) (fun h => ?_) <;> first | exact Zx | (conv => whnf))))
    all_goals (try dsimp only [Int.toNat_natCast] at *)
    (repeat' (first | refine Zs ?_ | refine Zk ?_ | ((first | refine Za ?_ | refine Zr ?_ | refine Zp ?_ | refine Ze ?_ | refine Zd ?_ | refine W.drawT dr38 rfl mixed rfl ?_ | refine Zn ?_ | refine Zc ?_ | refine UnK.mk (fun b hb => ?_)); conv => whnf) | (refine Zb (fun h => ?_) (fun h => ?_) <;> first | exact Zx | (conv => whnf))))
    all_goals (try dsimp only [Int.toNat_natCast] at *)
    all_goals first | (exfalso; omega) | skip
    refine (W.loopK (ι := Nat) [0, 1, 11, 12, 14, 28, 29, 30, 38, 39] [5000, 19] (fun j => [(40, iA j)]) (fun j => [(27, .row 3 1 rs.length (rowF iE (B.set k (rnO rs k L b0 ((rs.getD k default).outs.take j)))))]) (fun j => j ≤ (rs.getD k default).outs.length) (fun j => (rs.getD k default).outs.length - j) 0 (Nat.zero_le _) ?_ ?_ ?_)
    · exact Yz
    · (repeat' (first | exact trivial | exact Yr | exact Yi (by first | rfl | omega) | exact Yo (by first | rfl | omega) | exact Yd | exact Yn | exact Ye (by first | rfl | omega) | exact ⟨_, rfl, Yf, rfl⟩ | refine ⟨_, rfl, Yb ?_, rfl⟩ | refine ⟨_, rfl, Yw (by first | rfl | omega) ?_, rfl⟩ | refine And.intro ?_ ?_))
      intro a ha b hb
      show Dle _ (rowF iE (B.set k b0) a b)
      rw [hset]
      exact Dle.refl _
    conv => whnf
    intro j hj
    by_cases hj' : j < (rs.getD k default).outs.length
    · have hx := a3 j hj'
      have hxm := hmk _ (ygetD_in hj')
      have s4 : ((rs.getD k default).outs.getD j default).c.size ≤ maxLen := by rw [hx.1.1]; omega
      have hv := ceil_rng p2 hx.2.1
      have hg1 := p2.1 ((rs.getD k default).outs.getD j default).c
      have e1 : rnO rs k L b0 ((rs.getD k default).outs.take (j + 1)) = rnB rs k L (rnO rs k L b0 ((rs.getD k default).outs.take j)) ((rs.getD k default).outs.getD j default) := by rw [take_snoc _ hj', rnO_snoc]
      have hb1 := hO ((rs.getD k default).outs.take j) (fun y hy => by
        obtain ⟨t, ht, rfl⟩ := List.getElem_of_mem (List.mem_of_mem_take hy)
        have := (a3 t ht).2.1
        rwa [ygetD_of ht] at this)
      have eG := hget ((rs.getD k default).outs.getD j default).c
      rw [if_pos (by omega)] at eG
      have q1 := hx.2.1
      have q2 := hx.2.2.1
      have eV : ceilV L ((rs.getD k default).outs.getD j default) = (getM L ((rs.getD k default).outs.getD j default).c + ((rs.getD k default).outs.getD j default).q - 1) / ((rs.getD k default).outs.getD j default).q := rfl
      unfold rnB at e1
      rw [eV] at e1 hv
      clear eV p4 hO hmk hget hset a1 a3
      generalize rnO rs k L b0 ((rs.getD k default).outs.take j) = b1 at *
      (repeat' (first | refine Zs ?_ | refine Zk ?_ | ((first | refine Zas 9 ?_ | refine Zr ?_ | refine Zp ?_ | refine Ze ?_ | refine Zd ?_ | refine W.drawT dr38 rfl mixed rfl ?_ | refine Zn ?_ | refine Zc ?_ | refine UnK.mk (fun b hb => ?_)); conv => whnf) | (refine Zb (fun h => ?_) (fun h => ?_) <;> first | exact Zx | (conv => whnf))))
      all_goals (try dsimp only [Int.toNat_natCast] at *)
      all_goals first | (exfalso; omega) | skip
      generalize (rs.getD k default).outs.getD j default = x at *
      conv => whnf
      (repeat' (first | refine Zs ?_ | refine Zk ?_ | ((first | refine Za ?_ | refine Zr ?_ | refine Zp ?_ | refine Ze ?_ | refine Zd ?_ | refine Zn ?_ | refine Zc ?_ | refine UnK.mk (fun b hb => ?_) | refine Zc ?_ ⟨rfl, rfl, rfl, s4⟩); conv => whnf) | (refine Zb (fun h => ?_) (fun h => ?_) <;> first | exact Zx | (conv => whnf))))
      · have heq : mk rs x.c = k := by rw [eG] at h; omega
        rw [if_pos heq] at e1
        have eb : (B.set k b1).getD (0 + k) default = b1 := by
          rw [Nat.zero_add]
          show (B.set k b1).getD k 0 = b1
          rw [getD_set, if_pos ⟨rfl, by omega⟩]
        (repeat' (first | refine Zs ?_ | refine Zk ?_ | ((first | refine Za ?_ | refine Zr ?_ | refine Zp ?_ | refine Ze ?_ | refine Zd ?_ | refine W.drawT dr38 rfl mixed rfl ?_ | refine Zn ?_ | refine Zc ?_ | refine UnK.mk (fun b hb => ?_) | refine Zc ?_ ⟨rfl, rfl, rfl, s4⟩); conv => whnf) | (refine Zb (fun h => ?_) (fun h => ?_) <;> first | exact Zx | (conv => whnf))))
        all_goals first | (exfalso; omega) | skip
        refine ⟨j + 1, by omega, by omega, ?_, ?_, ?_, ?_⟩
        all_goals (try rw [e1])
        all_goals (repeat' (first | exact trivial | exact Yr | exact Yi (by first | rfl | omega) | exact Yo (by first | rfl | omega) | exact Yd | exact Yn | exact Ye (by first | rfl | omega) | exact ⟨_, rfl, Yf, rfl⟩ | refine ⟨_, rfl, Yb ?_, rfl⟩ | refine ⟨_, rfl, Yw (by first | rfl | omega) ?_, rfl⟩ | refine And.intro ?_ ?_))
        intro a ha b hb
        have hr := RowIs.set (RowIs.refl iE 1 (B.set k b1)) (k := k) (x := if b1 < (getM L x.c + x.q - 1) / x.q then (getM L x.c + x.q - 1) / x.q else b1) (ds := [.val (.int .i64 (if (B.set k b1).getD (0 + k) default < (getM L x.c + x.q - 1) / x.q then (getM L x.c + x.q - 1) / x.q else (B.set k b1).getD (0 + k) default))]) rfl (fun t ht => by
          obtain rfl : t = 0 := by omega
          rw [eb]
          exact Dle.refl _)
        have := hr.le a (by simp; omega) b hb
        simpa only [Nat.zero_add, Int.toNat_natCast, List.set_set, eb] using this
      · have hne : mk rs x.c ≠ k := fun hh => h (by rw [eG, hh])
        rw [if_neg hne] at e1
        refine ⟨j + 1, by omega, by omega, ?_, ?_, ?_, ?_⟩
        all_goals (try rw [e1])
        all_goals exact Yz
    obtain rfl : j = (rs.getD k default).outs.length := by omega
    rw [List.take_length]
    have hb1 := hO (rs.getD k default).outs (fun y hy => by
      obtain ⟨t, ht, rfl⟩ := List.getElem_of_mem hy
      have := (a3 t ht).2.1
      rwa [ygetD_of ht] at this)
    have eb : (B.set k (rnO rs k L b0 (rs.getD k default).outs)).getD (0 + k) default = rnO rs k L b0 (rs.getD k default).outs := by
      rw [Nat.zero_add]
      show (B.set k _).getD k 0 = _
      rw [getD_set, if_pos ⟨rfl, by omega⟩]
    have hB2 := p3.set k hb1
    clear hO hmk hset
    generalize rnO rs k L b0 (rs.getD k default).outs = b1 at *
    obtain ⟨RI, hRI⟩ : ∃ RI, rnI b1 L (rs.getD k default).ins = RI := ⟨_, rfl⟩
    rw [hRI] at p4
    (repeat' (first | refine Zs ?_ | refine Zk ?_ | ((first | refine Za ?_ | refine Zr ?_ | refine Zp ?_ | refine Ze ?_ | refine Zd ?_ | refine W.drawT dr38 rfl mixed rfl ?_ | refine Zn ?_ | refine Zc ?_ | refine UnK.mk (fun b hb => ?_)); conv => whnf) | (refine Zb (fun h => ?_) (fun h => ?_) <;> first | exact Zx | (conv => whnf))))
    all_goals (try dsimp only [Int.toNat_natCast] at *)
    (repeat' (first | refine Zs ?_ | refine Zk ?_ | ((first | refine Za ?_ | refine Zr ?_ | refine Zp ?_ | refine Ze ?_ | refine Zd ?_ | refine W.drawT dr38 rfl mixed rfl ?_ | refine Zn ?_ | refine Zc ?_ | refine UnK.mk (fun b hb => ?_)); conv => whnf) | (refine Zb (fun h => ?_) (fun h => ?_) <;> first | exact Zx | (conv => whnf))))
    all_goals (try dsimp only [Int.toNat_natCast] at *)
    all_goals first | (exfalso; omega) | skip
    refine (W.loopK (ι := IS) [0, 1, 11, 12, 14, 28, 29, 30, 74, 75] [5000, 27] (fun s => [(76, iA s.i)]) (fun s => [(19, .mp XX.P 9 3 s.L)]) (fun s => s.i ≤ (rs.getD k default).ins.length ∧ LOk (1 + 8 * i + s.i) s.L ∧ rnI b1 s.L ((rs.getD k default).ins.drop s.i) = RI) (fun s => (rs.getD k default).ins.length - s.i) ⟨0, L⟩ ⟨Nat.zero_le _, p2, hRI⟩ ?_ ?_ ?_)
    · exact Yz
    · exact Yz
    conv => whnf
    intro ⟨j, L2⟩ ⟨m1, m2, m3⟩
    dsimp only at m1 m2 m3 ⊢
    by_cases hj2 : j < (rs.getD k default).ins.length
    · have hx := a1 j hj2
      have hd : (rs.getD k default).ins.drop j = (rs.getD k default).ins.getD j default :: (rs.getD k default).ins.drop (j + 1) := by rw [ygetD_of hj2]; exact List.drop_eq_getElem_cons hj2
      rw [hd] at m3
      have s4 : ((rs.getD k default).ins.getD j default).c.size ≤ maxLen := by rw [hx.1.1]; omega
      have q1 := hx.2.1
      have q2 := hx.2.2.1
      have s5 : L2.length < maxLen := by have := m2.2; omega
      have hg1 := m2.1 ((rs.getD k default).ins.getD j default).c
      have hP := fun hc => rnP_ok (b := b1) m2 q1 hb1.1 hc
      have e3 : rnI b1 L2 ((rs.getD k default).ins.getD j default :: (rs.getD k default).ins.drop (j + 1)) = if (1000000000000 - getM L2 ((rs.getD k default).ins.getD j default).c) / ((rs.getD k default).ins.getD j default).q < b1 then none else rnI b1 (rnP b1 L2 ((rs.getD k default).ins.getD j default)) ((rs.getD k default).ins.drop (j + 1)) := rfl
      rw [e3] at m3
      clear e3 hd hget a1 a3
      (repeat' (first | refine Zs ?_ | refine Zk ?_ | ((first | refine Zas 15 ?_ | refine Zr ?_ | refine Zp ?_ | refine Ze ?_ | refine Zd ?_ | refine W.drawT dr38 rfl mixed rfl ?_ | refine Zn ?_ | refine Zc ?_ | refine UnK.mk (fun b hb => ?_)); conv => whnf) | (refine Zb (fun h => ?_) (fun h => ?_) <;> first | exact Zx | (conv => whnf))))
      all_goals (try dsimp only [Int.toNat_natCast] at *)
      all_goals first | (exfalso; omega) | skip
      generalize (rs.getD k default).ins.getD j default = x at *
      conv => whnf
      have hD : 0 ≤ (1000000000000 - getM L2 x.c) / x.q := Int.ediv_nonneg (by omega) (by omega)
      have hD2 : (1000000000000 - getM L2 x.c) / x.q ≤ 1000000000000 := Int.le_trans (Int.ediv_le_self _ (by omega)) (by omega)
      by_cases hc : (1000000000000 - getM L2 x.c) / x.q < b1
      · rw [if_pos hc] at m3
        rw [← m3] at p4
        (repeat' (first | refine Zs ?_ | refine Zk ?_ | ((first | refine Za ?_ | refine Zr ?_ | refine Zp ?_ | refine Ze ?_ | refine Zd ?_ | refine W.drawT dr38 rfl mixed rfl ?_ | refine Zn ?_ | refine Zc ?_ | refine UnK.mk (fun b hb => ?_) | refine Zc ?_ ⟨rfl, rfl, rfl, s4⟩); conv => whnf) | (refine Zb (fun h => ?_) (fun h => ?_) <;> first | exact Zx | (conv => whnf))))
        all_goals first | (exfalso; omega) | skip
        have p5 : none = R := p4
        first
          | (exfalso; rw [eR] at p5; cases p5; done)
          | skip
        all_goals ((conv => whnf); (repeat' (first | exact trivial | exact AVle.refl _ | exact EntLe.refl _ | exact AVle.int (by first | rfl | omega) | exact ResH.same (AVle.refl _) | exact ResH.same (AVle.own (by first | rfl | omega)) | exact ResH.same (AVle.int (by first | rfl | omega)) | exact ResH.same (AVle.bool (by simp only [decide_eq_true_eq, decide_eq_false_iff_not, decide_eq_decide]; first | rfl | omega)) | exact ResH.same (AVle.tt_ (by simp only [decide_eq_true_eq, decide_eq_false_iff_not, decide_eq_decide]; first | rfl | omega)) | exact ResH.same (AVle.ff_ (by simp only [decide_eq_true_eq, decide_eq_false_iff_not, decide_eq_decide]; first | rfl | omega)) | exact ResH.same (AVle.tt_ rfl) | exact ResH.same (AVle.ff_ rfl) | refine ResH.agg ?_ | exact ⟨_, rfl, EntLe.refl _, rfl⟩ | refine ⟨_, rfl, EntLe.blk ?_, rfl⟩ | refine ⟨_, rfl, EntLe.row (by first | rfl | omega) ?_, rfl⟩ | refine And.intro ?_ ?_ | ((conv => whnf); first | exact ResH.same (AVle.refl _) | exact ResH.same (AVle.own (by first | rfl | omega)) | exact ResH.same (AVle.int (by first | rfl | omega)) | exact ResH.same (AVle.bool (by simp only [decide_eq_true_eq, decide_eq_false_iff_not, decide_eq_decide]; first | rfl | omega)) | exact ResH.same (AVle.tt_ (by simp only [decide_eq_true_eq, decide_eq_false_iff_not, decide_eq_decide]; first | rfl | omega)) | exact ResH.same (AVle.ff_ (by simp only [decide_eq_true_eq, decide_eq_false_iff_not, decide_eq_decide]; first | rfl | omega)) | exact ResH.same (AVle.tt_ rfl) | exact ResH.same (AVle.ff_ rfl) | refine ResH.agg ?_))))
        all_goals (conv => whnf)
        all_goals exact ResH.same Yn
      · rw [if_neg hc] at m3
        obtain ⟨P1, P2, P3⟩ := hP hc
        have eb2 : (B.set k b1).getD (0 + (k : Int).toNat) default = b1 := by rw [Int.toNat_natCast]; exact eb
        have P2' : 0 ≤ (B.set k b1).getD (0 + (k : Int).toNat) default * x.q := by rw [eb2]; exact P2
        have P3' : getM L2 x.c + (B.set k b1).getD (0 + (k : Int).toNat) default * x.q ≤ 1000000000000 := by rw [eb2]; exact P3
        have s6 : -9223372036854775808 ≤ getM L2 x.c + (B.set k b1).getD (0 + (k : Int).toNat) default * x.q ∧ getM L2 x.c + (B.set k b1).getD (0 + (k : Int).toNat) default * x.q ≤ 9223372036854775807 := by omega
        (repeat' (first | refine Zs ?_ | refine Zk ?_ | ((first | refine Za ?_ | refine Zr ?_ | refine Zp ?_ | refine Ze ?_ | refine Zd ?_ | refine W.drawT dr38 rfl mixed rfl ?_ | refine Zn ?_ | refine Zc ?_ | refine UnK.mk (fun b hb => ?_) | refine Zc ?_ ⟨rfl, rfl, rfl, s4⟩ | refine Zc ?_ ⟨rfl, rfl, rfl, s4, s5, s6⟩); conv => whnf) | (refine Zb (fun h => ?_) (fun h => ?_) <;> first | exact Zx | (conv => whnf))))
        all_goals first | (exfalso; omega) | skip
        refine ⟨⟨j + 1, rnP b1 L2 x⟩, ⟨by simp only; omega, P1, m3⟩, by simp only; omega, ?_, ?_, ?_, ?_⟩
        all_goals (try rw [eb2])
        all_goals exact Yz
    obtain rfl : j = (rs.getD k default).ins.length := by omega
    rw [List.drop_length] at m3
    have m3' : some L2 = RI := m3
    rw [← m3'] at p4
    (repeat' (first | refine Zs ?_ | refine Zk ?_ | ((first | refine Za ?_ | refine Zr ?_ | refine Zp ?_ | refine Ze ?_ | refine Zd ?_ | refine W.drawT dr38 rfl mixed rfl ?_ | refine Zn ?_ | refine Zc ?_ | refine UnK.mk (fun b hb => ?_)); conv => whnf) | (refine Zb (fun h => ?_) (fun h => ?_) <;> first | exact Zx | (conv => whnf))))
    all_goals first | (exfalso; omega) | skip
    refine ⟨⟨i + 1, L2, B.set k b1⟩, ⟨by simp only; omega, ⟨m2.1, by have := m2.2; simp only; omega⟩, hB2, p4⟩, by simp only; omega, ?_, ?_, ?_, ?_⟩
    all_goals exact Yz
end Go.Proofs.Ytoeghejbgibioaa
