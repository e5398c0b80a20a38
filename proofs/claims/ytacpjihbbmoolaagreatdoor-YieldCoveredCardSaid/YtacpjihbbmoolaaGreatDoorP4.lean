/- yield.deal: the units dealt out one after another. -/
import Derived.Test.YtacpjihbbmoolaaGreatDoorC7

namespace Go.Proofs.YtacpjihbbmoolaaGreatDoor
open Go Go.RowKit
set_option linter.unusedVariables false
set_option linter.unusedSimpArgs false
set_option maxRecDepth 100000
set_option maxHeartbeats 4000000
theorem W.reP {X : Cx} {n : Nat} {st : St} {Q : Exit → St → Prop} {cd : Code} (t : Nat) (c : AV) (h : AVle (st.get t) c) (k : St.un st fun fr hp => W X n cd ⟨(t, c) :: fr, hp⟩ Q) : W X n cd st Q := ⟨fun hX R hn ρ M a w hs =>
  (show W X n cd ⟨(t, c) :: st.fr, st.hp⟩ Q from k).out hX R hn ρ M a w (hs.reslot (h _ _ _ (hs.slots t)))⟩
attribute [local irreducible] ResLe AVle ArgLe ArgP EntLe Dle ResH ArgQ

def dlF : Int → List Sl → List Sl → List Sl → List Sl × List Sl × List Sl
  | _, g, [], l => (g, [], l)
  | u, g, x :: t, l => if u ≤ 0 then (g, x :: t, l) else if u < x.e - x.s then (g, ⟨x.m, x.s + u, x.e⟩ :: t, extR l ⟨x.m, x.s, x.s + u⟩) else dlF (u - (x.e - x.s)) (g ++ [⟨x.m, x.e, x.e⟩]) t (extR l ⟨x.m, x.s, x.e⟩)
def poolC (g al : List Sl) : AV := match al with
  | [] => match g with
    | [] => .own 5001 3 0 0
    | [_] => .own 5001 3 1 0
    | _ :: _ :: _ => .dat (.lst 3 0 fun _ _ => .val undef)
  | _ :: t => .own 5001 3 g.length (t.length + 1)
noncomputable abbrev poolH (g al : List Sl) : List (Nat × Ent) := [(5000, .blk 43 [poolC g al]), (5001, .row 63 3 (g ++ al).length (rowF slE (g ++ al)))]
def duOk (y : Sl) : Prop := 0 ≤ y.s ∧ y.s < y.e ∧ y.e ≤ 1000000000
theorem pool_row {A : List Sl} {lo : Nat} (v : Int) (h : lo < A.length) (f : Nat → Nat → D) (hf : f = setF (rowF slE A) lo 1 [.val (.int .i64 v)]) : ∀ i, i < A.length → ∀ j, j < 3 → Dle (f i j) (rowF slE (A.set lo ⟨(A.getD lo default).m, v, (A.getD lo default).e⟩) i j) := by
  subst hf
  intro i hi j hj
  rw [setF_eq]
  unfold rowF
  split
  · rename_i hc
    obtain ⟨rfl, h2, h3⟩ := hc
    obtain rfl : j = 1 := by simp at h3; omega
    simp [h]
    exact Dle.refl _
  · rename_i hc
    by_cases hil : i = lo
    · subst hil
      have hj2 : j = 0 ∨ j = 2 := by
        rcases (show j = 0 ∨ j = 1 ∨ j = 2 by omega) with h|h|h
        · exact .inl h
        · subst h; exact absurd ⟨rfl, Nat.le_refl _, by simp⟩ hc
        · exact .inr h
      have e2 : (A.set i (⟨(A.getD i default).m, v, (A.getD i default).e⟩ : Sl)).getD i default = ⟨(A.getD i default).m, v, (A.getD i default).e⟩ := by simp [h]
      rw [e2]
      rcases hj2 with rfl|rfl <;> exact Dle.refl _
    · have e2 : (A.set lo (⟨(A.getD lo default).m, v, (A.getD lo default).e⟩ : Sl)).getD i default = A.getD i default := by
        simp [List.getElem?_set, Ne.symm hil]
      rw [e2]
      exact Dle.refl _
theorem glues_row2 {l : List Sl} {x : Sl} (h : glues l x) {v : Int} (hv : v = x.e) (f : Nat → Nat → D) (hf : f = setF (rowF slE l) (l.length - 1) 2 [.val (.int .i64 v)]) : ∀ i, i < l.length → ∀ j, j < 3 → Dle (f i j) (rowF slE (extR l x) i j) := by
  subst hv
  exact glues_row h f hf
theorem set_mid (g : List Sl) (x y : Sl) (t : List Sl) : (g ++ x :: t).set g.length y = g ++ y :: t := by simp
theorem extR_len1 (l : List Sl) (x : Sl) : (extR l x).length ≤ l.length + 1 := by
  by_cases h : glues l x
  · rw [extR_glue h]; omega
  · rw [extR_snoc h]; simp
theorem pool_nm (d : D) (g al : List Sl) : nmAll none (.dat d) (poolH g al) = true := by
  rcases al with _|⟨x, t⟩
  · rcases g with _|⟨g1, _|⟨g2, g⟩⟩ <;> rfl
  · rfl
theorem pool_clean (g al : List Sl) : cleanH 83 (poolH g al) = true := by
  rcases al with _|⟨x, t⟩
  · rcases g with _|⟨g1, _|⟨g2, g⟩⟩ <;> rfl
  · rfl
theorem dnext_h (u : Int) (g al : List Sl) (hu : 0 ≤ u ∧ u ≤ 1000000000000000) (hv : ∀ y ∈ al, duOk y) (hN : (g ++ al).length ≤ 10000) :
    HC XX 65 [iA u, .ptr 5000 0] (poolH g al) (.dat (slD (dlF u g al []).2.2)) (poolH (dlF u g al []).1 (dlF u g al []).2.1) none := by
  obtain ⟨R, hR⟩ : ∃ R, dlF u g al [] = R := ⟨_, rfl⟩
  obtain ⟨N, hNN⟩ : ∃ N, (g ++ al).length = N := ⟨_, rfl⟩
  rw [hR]
  refine HC.of (n := Tryz.f65.ntmps) XX_ok Tryz.func65 rfl (by kernel_rfl) rfl rfl (Nat.le_of_ble_eq_true rfl) rfl (pool_nm _ _ _) ?_
  (repeat' (first|((first|refine Zg ?_|refine Zt dr65 ?_|refine Zn ?_|refine Zc ?_|refine Zu fun b hb=>?_);conv=>whnf)|(refine Zb ?_ ?_<;>(intro h;first|exact Zx|conv=>whnf))))
  refine (W.adopt 4 83 63 3 (rowF slE []) rfl rfl (pool_clean _ _) rfl ?_)
  conv => whnf
  refine (W.loopK (ι := Int × List Sl × List Sl × List Sl) [1] [] (fun s => [(0, iA s.1), (4, .own 83 3 0 s.2.2.2.length)]) (fun s => [(5000, .blk 43 [poolC s.2.1 s.2.2.1]), (5001, .row 63 3 (s.2.1 ++ s.2.2.1).length (rowF slE (s.2.1 ++ s.2.2.1))), (83, .row 63 3 s.2.2.2.length (rowF slE s.2.2.2))])
    (fun s => dlF s.1 s.2.1 s.2.2.1 s.2.2.2 = R ∧ (0 ≤ s.1 ∧ s.1 ≤ 1000000000000000) ∧ (∀ y ∈ s.2.2.1, duOk y) ∧ (s.2.1 ++ s.2.2.1).length ≤ 10000 ∧ (0 < s.1 → s.2.2.2.length + s.2.2.1.length ≤ 10001)) (fun s => s.1.toNat) (u, g, al, []) ⟨hR, hu, hv, hN, fun _ => by simp at hN ⊢; omega⟩ ?_ ?_ ?_)
  · exact Yz
  · exact Yz
  conv => whnf
  intro ⟨u, g, al, l⟩ ⟨p1, p2, p3, p4, p5⟩
  simp only at p1 p2 p3 p4 p5
  dsimp only
  rcases al with _|⟨x, t⟩
  · obtain rfl : (g, [], l) = R := by rw [← p1]; unfold dlF; rfl
    rcases g with _|⟨g1, _|⟨g2, g⟩⟩
    all_goals (conv=>whnf)
    all_goals (repeat' (first|((first|refine Zg ?_|refine Zt dr65 ?_|refine Zn ?_|refine Zc ?_|refine Zu fun b hb=>?_);conv=>whnf)|(refine Zb ?_ ?_<;>(intro h;first|exact Zx|conv=>whnf))))
    all_goals first|(exfalso; omega)|skip
    all_goals (dsimp only)
    all_goals (conv=>whnf); (repeat' (first|exact Zhq|refine ResH.agg ?_|refine ⟨_, rfl, EntLe.blk ?_, rfl⟩|refine ⟨_, rfl, EntLe.row (by first|rfl|omega) ?_, rfl⟩|refine And.intro ?_ ?_|((conv=>whnf); first|exact Zhq|refine ResH.agg ?_)))
    all_goals (try (conv=>whnf))
    all_goals first|exact ResH.row0 rfl rfl rfl|skip
  have hx := p3 x (List.mem_cons_self ..)
  have ht : ∀ y ∈ t, duOk y := fun y hy => p3 y (List.mem_cons_of_mem _ hy)
  unfold duOk at hx
  by_cases hu0 : u ≤ 0
  · obtain rfl : (g, x :: t, l) = R := by rw [← p1]; unfold dlF; rw [if_pos hu0]
    conv => whnf
    (repeat' (first|((first|refine Zg ?_|refine Zt dr65 ?_|refine Zn ?_|refine Zc ?_|refine Zu fun b hb=>?_);conv=>whnf)|(refine Zb ?_ ?_<;>(intro h;first|exact Zx|conv=>whnf))))
    all_goals first|(exfalso; omega)|skip
    all_goals (dsimp only)
    all_goals (conv=>whnf); (repeat' (first|exact Zhq|refine ResH.agg ?_|refine ⟨_, rfl, EntLe.blk ?_, rfl⟩|refine ⟨_, rfl, EntLe.row (by first|rfl|omega) ?_, rfl⟩|refine And.intro ?_ ?_|((conv=>whnf); first|exact Zhq|refine ResH.agg ?_)))
    all_goals (try (conv=>whnf))
    all_goals first|exact ResH.row0 rfl rfl rfl|skip
  have p5 := p5 (by omega)
  have hA0 : (g ++ x :: t).getD g.length default = x := by simp
  have hAl : (g ++ x :: t).length = g.length + t.length + 1 := by simp; omega
  have hset := fun y => set_mid g x y t
  have hp1 : dlF u g (x :: t) l = if u ≤ 0 then (g, x :: t, l) else if u < x.e - x.s then (g, ⟨x.m, x.s + u, x.e⟩ :: t, extR l ⟨x.m, x.s, x.s + u⟩) else dlF (u - (x.e - x.s)) (g ++ [⟨x.m, x.e, x.e⟩]) t (extR l ⟨x.m, x.s, x.e⟩) := by rw [dlF]
  rw [p1, if_neg hu0] at hp1
  clear p1 hR p3 hv
  have pC : poolC g (x :: t) = .own 5001 3 g.length (t.length + 1) := rfl
  rw [pC]
  generalize hA : g ++ x :: t = A at *
  subst hA0
  have hlo : g.length < A.length := by omega
  have hl1 : ∀ n : Nat, ((n : Int) - 1).toNat = n - 1 := fun n => by omega
  by_cases hk : u < (A.getD g.length default).e - (A.getD g.length default).s
  · rw [if_pos hk] at hp1
    have hkk : (if (A.getD g.length default).e - (A.getD g.length default).s < u then (A.getD g.length default).e - (A.getD g.length default).s else u) = u := if_neg (by omega)
    conv => whnf
    (repeat' (first|((first|refine Zg ?_|refine Zn ?_|refine Zc ?_|refine Zu fun b hb=>?_);conv=>whnf)|(refine Zb ?_ ?_<;>(intro h;first|exact Zx|conv=>whnf))))
    all_goals first|(exfalso; omega)|skip
    conv => whnf
    refine (W.reP 5 (.rptr 5001 3 g.length 0) (by exact AVle.refl _) ?_); conv => whnf
    (repeat' (first|((first|refine Zv 5 ?_|refine Zt dr65 ?_|refine Zn ?_|refine Zc ?_|refine Zu fun b hb=>?_);conv=>whnf)|(refine Zb ?_ ?_<;>(intro h;first|exact Zx|conv=>whnf))))
    all_goals first|(exfalso; omega)|skip
    conv => whnf
    refine (W.reP 6 (iA u) (by exact AVle.int hkk) ?_); conv => whnf
    by_cases hg : glues l ⟨(A.getD g.length default).m, (A.getD g.length default).s, (A.getD g.length default).s + u⟩
    · have hrow := fun v hv f hf => glues_row2 (v := v) hg hv f hf
      have hlen := extR_glue hg
      have hg' := hg
      unfold glues lastS at hg'
      (repeat' (first|((first|refine Zv 7 ?_|refine Zt dr65 ?_|refine Zn ?_|refine Zc ?_|refine Zu fun b hb=>?_);conv=>whnf)|(refine Zb ?_ ?_<;>(intro h;first|exact Zx|conv=>whnf))))
      all_goals (try rw [hl1] at *)
      (repeat' (first|((first|refine Zv 7 ?_|refine Zt dr65 ?_|refine Zn ?_|refine Zc ?_|refine Zu fun b hb=>?_);conv=>whnf)|(refine Zb ?_ ?_<;>(intro h;first|exact Zx|conv=>whnf))))
      all_goals (try simp only [Nat.zero_add] at *)
      all_goals first|(exfalso; omega)|skip
      (repeat' (first|((first|refine Zg ?_|refine Zn ?_|refine Zc ?_|refine Zu fun b hb=>?_);conv=>whnf)|(refine Zb ?_ ?_<;>(intro h;first|exact Zx|conv=>whnf))))
      all_goals (try rw [hl1] at *)
      all_goals (try simp only [Nat.zero_add] at *)
      (repeat' (first|((first|refine Zg ?_|refine Zn ?_|refine Zc ?_|refine Zu fun b hb=>?_);conv=>whnf)|(refine Zb ?_ ?_<;>(intro h;first|exact Zx|conv=>whnf))))
      all_goals first|(exfalso; omega)|skip
      all_goals (conv=>whnf)
      refine (W.weak ⟨[(0, iA 0), (1, .ptr 5000 0), (4, .own 83 3 0 (extR l ⟨(A.getD g.length default).m, (A.getD g.length default).s, (A.getD g.length default).s + u⟩).length), (5, .rptr 5001 3 g.length 0)], [(5000, .blk 43 [.own 5001 3 g.length (t.length + 1)]), (5001, .row 63 3 A.length (rowF slE (A.set g.length ⟨(A.getD g.length default).m, (A.getD g.length default).s + u, (A.getD g.length default).e⟩))), (83, .row 63 3 (extR l ⟨(A.getD g.length default).m, (A.getD g.length default).s, (A.getD g.length default).s + u⟩).length (rowF slE (extR l ⟨(A.getD g.length default).m, (A.getD g.length default).s, (A.getD g.length default).s + u⟩)))]⟩ ?_ ?_ ?_)
      · (repeat' (first|exact Yq|exact Yi (by first|rfl|exact hlen.symm|omega)|exact Yo (by first|rfl|exact hlen.symm|omega)|exact Ye (by first|rfl|exact hlen.symm|omega)|refine ⟨_, rfl, Yb ?_, rfl⟩|refine ⟨_, rfl, Yw (by first|rfl|exact hlen.symm|omega) ?_, rfl⟩|refine And.intro ?_ ?_))
      · (repeat' (first|exact Yq|exact Yi (by first|rfl|exact hlen.symm|omega)|exact Yo (by first|rfl|exact hlen.symm|omega)|exact Ye (by first|rfl|exact hlen.symm|omega)|refine ⟨_, rfl, Yb ?_, rfl⟩|refine ⟨_, rfl, Yw (by first|rfl|exact hlen.symm|omega) ?_, rfl⟩|refine And.intro ?_ ?_))
        · refine pool_row _ hlo _ ?_
          rfl
        · refine hrow ((l.getD (l.length - 1) default).e + u) (by omega) _ (by rw [Nat.zero_add, hl1])
      conv => whnf
      have hL0 := extR_len1 l ⟨(A.getD g.length default).m, (A.getD g.length default).s, (A.getD g.length default).s + u⟩
      have hs2 := hset ⟨(A.getD g.length default).m, (A.getD g.length default).s + u, (A.getD g.length default).e⟩
      generalize hL2 : extR l ⟨(A.getD g.length default).m, (A.getD g.length default).s, (A.getD g.length default).s + u⟩ = L2 at *
      generalize hA2 : A.set g.length ⟨(A.getD g.length default).m, (A.getD g.length default).s + u, (A.getD g.length default).e⟩ = A2 at *
      have e0 : A2.getD g.length default = ⟨(A.getD g.length default).m, (A.getD g.length default).s + u, (A.getD g.length default).e⟩ := by rw [hs2]; simp
      have e1 : (A2.getD g.length default).s = (A.getD g.length default).s + u := by rw [e0]
      have e2 : (A2.getD g.length default).e = (A.getD g.length default).e := by rw [e0]
      have e3 : A2.length = A.length := by rw [← hA2, List.length_set]
      clear hrow hg hg' hset hL2 e0
      (repeat' (first|((first|refine Zg ?_|refine Zt dr65 ?_|refine Zn ?_|refine Zc ?_|refine Zu fun b hb=>?_);conv=>whnf)|(refine Zb ?_ ?_<;>(intro h;first|exact Zx|conv=>whnf))))
      all_goals first|(exfalso; omega)|skip
      refine ⟨(0, g, ⟨(A.getD g.length default).m, (A.getD g.length default).s + u, (A.getD g.length default).e⟩ :: t, L2), ⟨by rw [hp1]; unfold dlF; rw [if_pos (Int.le_refl _)], ⟨by simp only; omega, by simp only; omega⟩, fun y hy => ?_, by rw [← hs2, e3]; exact p4, fun h => absurd h (by simp)⟩, by simp only; omega, ?_, ?_, ?_, ?_⟩
      · rcases List.mem_cons.1 hy with h|h
        · subst h; unfold duOk; simp only; omega
        · exact ht y h
      all_goals (try simp only [← hs2])
      all_goals (repeat' (first|exact Yq|exact Yi (by first|rfl|exact e3.symm|omega)|exact Yo (by first|rfl|exact e3.symm|omega)|exact Ye (by first|rfl|exact e3.symm|omega)|refine ⟨_, rfl, Yb ?_, rfl⟩|refine ⟨_, rfl, Yw (by first|rfl|exact e3.symm|omega) ?_, rfl⟩|refine And.intro ?_ ?_))
      exact fun _ _ _ _ => Dle.refl _
    · have hsn := extR_snoc hg
      have hg' := hg
      unfold glues lastS at hg'
      (repeat' (first|((first|refine Zv 9 ?_|refine Zt dr65 ?_|refine Zn ?_|refine Zc ?_|refine Zu fun b hb=>?_);conv=>whnf)|(refine Zb ?_ ?_<;>(intro h;first|exact Zx|conv=>whnf))))
      all_goals (try rw [hl1] at *)
      (repeat' (first|((first|refine Zv 9 ?_|refine Zt dr65 ?_|refine Zn ?_|refine Zc ?_|refine Zu fun b hb=>?_);conv=>whnf)|(refine Zb ?_ ?_<;>(intro h;first|exact Zx|conv=>whnf))))
      all_goals (try simp only [Nat.zero_add] at *)
      all_goals first|(exfalso; omega)|skip
      all_goals (conv=>whnf)
      (repeat' (first|((first|refine Zg ?_|refine Zn ?_|refine Zc ?_|refine Zu fun b hb=>?_);conv=>whnf)|(refine Zb ?_ ?_<;>(intro h;first|exact Zx|conv=>whnf))))
      all_goals (try rw [hl1] at *)
      all_goals (try simp only [Nat.zero_add] at *)
      (repeat' (first|((first|refine Zg ?_|refine Zn ?_|refine Zc ?_|refine Zu fun b hb=>?_);conv=>whnf)|(refine Zb ?_ ?_<;>(intro h;first|exact Zx|conv=>whnf))))
      all_goals first|(exfalso; omega)|skip
      all_goals (conv=>whnf)
      all_goals
        refine (W.weak ⟨[(0, iA 0), (1, .ptr 5000 0), (4, .own 83 3 0 (extR l ⟨(A.getD g.length default).m, (A.getD g.length default).s, (A.getD g.length default).s + u⟩).length), (5, .rptr 5001 3 g.length 0)], [(5000, .blk 43 [.own 5001 3 g.length (t.length + 1)]), (5001, .row 63 3 A.length (rowF slE (A.set g.length ⟨(A.getD g.length default).m, (A.getD g.length default).s + u, (A.getD g.length default).e⟩))), (83, .row 63 3 (extR l ⟨(A.getD g.length default).m, (A.getD g.length default).s, (A.getD g.length default).s + u⟩).length (rowF slE (extR l ⟨(A.getD g.length default).m, (A.getD g.length default).s, (A.getD g.length default).s + u⟩)))]⟩ ?_ ?_ ?_)
        · (repeat' (first|exact Yq|exact Yi (by first|rfl|(rw [hsn]; simp; done)|omega)|exact Yo (by first|rfl|(rw [hsn]; simp; done)|omega)|exact Ye (by first|rfl|(rw [hsn]; simp; done)|omega)|refine ⟨_, rfl, Yb ?_, rfl⟩|refine ⟨_, rfl, Yw (by first|rfl|(rw [hsn]; simp; done)|omega) ?_, rfl⟩|refine And.intro ?_ ?_))
        · (repeat' (first|exact Yq|exact Yi (by first|rfl|(rw [hsn]; simp; done)|omega)|exact Yo (by first|rfl|(rw [hsn]; simp; done)|omega)|exact Ye (by first|rfl|(rw [hsn]; simp; done)|omega)|refine ⟨_, rfl, Yb ?_, rfl⟩|refine ⟨_, rfl, Yw (by first|rfl|(rw [hsn]; simp; done)|omega) ?_, rfl⟩|refine And.intro ?_ ?_))
          · refine pool_row _ hlo _ ?_
            rfl
          · rw [hsn]
            refine rowF_snoc rfl fun j hj => ?_
            rcases j with _|_|_|j <;> first|exact Dle.refl _|omega|(refine Dle.of_eq ?_; rfl)
        conv => whnf
        have hL0 := extR_len1 l ⟨(A.getD g.length default).m, (A.getD g.length default).s, (A.getD g.length default).s + u⟩
        have hs2 := hset ⟨(A.getD g.length default).m, (A.getD g.length default).s + u, (A.getD g.length default).e⟩
        generalize hL2 : extR l ⟨(A.getD g.length default).m, (A.getD g.length default).s, (A.getD g.length default).s + u⟩ = L2 at *
        generalize hA2 : A.set g.length ⟨(A.getD g.length default).m, (A.getD g.length default).s + u, (A.getD g.length default).e⟩ = A2 at *
        have e0 : A2.getD g.length default = ⟨(A.getD g.length default).m, (A.getD g.length default).s + u, (A.getD g.length default).e⟩ := by rw [hs2]; simp
        have e1 : (A2.getD g.length default).s = (A.getD g.length default).s + u := by rw [e0]
        have e2 : (A2.getD g.length default).e = (A.getD g.length default).e := by rw [e0]
        have e3 : A2.length = A.length := by rw [← hA2, List.length_set]
        clear hsn hg hg' hset hL2 e0
        (repeat' (first|((first|refine Zg ?_|refine Zt dr65 ?_|refine Zn ?_|refine Zc ?_|refine Zu fun b hb=>?_);conv=>whnf)|(refine Zb ?_ ?_<;>(intro h;first|exact Zx|conv=>whnf))))
        all_goals first|(exfalso; omega)|skip
        refine ⟨(0, g, ⟨(A.getD g.length default).m, (A.getD g.length default).s + u, (A.getD g.length default).e⟩ :: t, L2), ⟨by rw [hp1]; unfold dlF; rw [if_pos (Int.le_refl _)], ⟨by simp only; omega, by simp only; omega⟩, fun y hy => ?_, by rw [← hs2, e3]; exact p4, fun h => absurd h (by simp)⟩, by simp only; omega, ?_, ?_, ?_, ?_⟩
        · rcases List.mem_cons.1 hy with h|h
          · subst h; unfold duOk; simp only; omega
          · exact ht y h
        all_goals (try simp only [← hs2])
        all_goals (repeat' (first|exact Yq|exact Yi (by first|rfl|exact e3.symm|omega)|exact Yo (by first|rfl|exact e3.symm|omega)|exact Ye (by first|rfl|exact e3.symm|omega)|refine ⟨_, rfl, Yb ?_, rfl⟩|refine ⟨_, rfl, Yw (by first|rfl|exact e3.symm|omega) ?_, rfl⟩|refine And.intro ?_ ?_))
        exact fun _ _ _ _ => Dle.refl _
  · rw [if_neg hk] at hp1
    have hkk : (if (A.getD g.length default).e - (A.getD g.length default).s < u then (A.getD g.length default).e - (A.getD g.length default).s else u) = (A.getD g.length default).e - (A.getD g.length default).s := by split <;> omega
    conv => whnf
    (repeat' (first|((first|refine Zg ?_|refine Zn ?_|refine Zc ?_|refine Zu fun b hb=>?_);conv=>whnf)|(refine Zb ?_ ?_<;>(intro h;first|exact Zx|conv=>whnf))))
    all_goals first|(exfalso; omega)|skip
    conv => whnf
    refine (W.reP 5 (.rptr 5001 3 g.length 0) (by exact AVle.refl _) ?_); conv => whnf
    (repeat' (first|((first|refine Zv 5 ?_|refine Zt dr65 ?_|refine Zn ?_|refine Zc ?_|refine Zu fun b hb=>?_);conv=>whnf)|(refine Zb ?_ ?_<;>(intro h;first|exact Zx|conv=>whnf))))
    all_goals first|(exfalso; omega)|skip
    conv => whnf
    refine (W.reP 6 (iA ((A.getD g.length default).e - (A.getD g.length default).s)) (by exact AVle.int hkk) ?_); conv => whnf
    by_cases hg : glues l ⟨(A.getD g.length default).m, (A.getD g.length default).s, (A.getD g.length default).e⟩
    · have hrow := fun v hv f hf => glues_row2 (v := v) hg hv f hf
      have hlen := extR_glue hg
      have hg' := hg
      unfold glues lastS at hg'
      (repeat' (first|((first|refine Zv 7 ?_|refine Zt dr65 ?_|refine Zn ?_|refine Zc ?_|refine Zu fun b hb=>?_);conv=>whnf)|(refine Zb ?_ ?_<;>(intro h;first|exact Zx|conv=>whnf))))
      all_goals (try rw [hl1] at *)
      (repeat' (first|((first|refine Zv 7 ?_|refine Zt dr65 ?_|refine Zn ?_|refine Zc ?_|refine Zu fun b hb=>?_);conv=>whnf)|(refine Zb ?_ ?_<;>(intro h;first|exact Zx|conv=>whnf))))
      all_goals (try simp only [Nat.zero_add] at *)
      all_goals first|(exfalso; omega)|skip
      (repeat' (first|((first|refine Zg ?_|refine Zn ?_|refine Zc ?_|refine Zu fun b hb=>?_);conv=>whnf)|(refine Zb ?_ ?_<;>(intro h;first|exact Zx|conv=>whnf))))
      all_goals (try rw [hl1] at *)
      all_goals (try simp only [Nat.zero_add] at *)
      (repeat' (first|((first|refine Zg ?_|refine Zn ?_|refine Zc ?_|refine Zu fun b hb=>?_);conv=>whnf)|(refine Zb ?_ ?_<;>(intro h;first|exact Zx|conv=>whnf))))
      all_goals first|(exfalso; omega)|skip
      all_goals (conv=>whnf)
      refine (W.weak ⟨[(0, iA (u - ((A.getD g.length default).e - (A.getD g.length default).s))), (1, .ptr 5000 0), (4, .own 83 3 0 (extR l ⟨(A.getD g.length default).m, (A.getD g.length default).s, (A.getD g.length default).e⟩).length), (5, .rptr 5001 3 g.length 0)], [(5000, .blk 43 [.own 5001 3 g.length (t.length + 1)]), (5001, .row 63 3 A.length (rowF slE (A.set g.length ⟨(A.getD g.length default).m, (A.getD g.length default).e, (A.getD g.length default).e⟩))), (83, .row 63 3 (extR l ⟨(A.getD g.length default).m, (A.getD g.length default).s, (A.getD g.length default).e⟩).length (rowF slE (extR l ⟨(A.getD g.length default).m, (A.getD g.length default).s, (A.getD g.length default).e⟩)))]⟩ ?_ ?_ ?_)
      · (repeat' (first|exact Yq|exact Yi (by first|rfl|exact hlen.symm|omega)|exact Yo (by first|rfl|exact hlen.symm|omega)|exact Ye (by first|rfl|exact hlen.symm|omega)|refine ⟨_, rfl, Yb ?_, rfl⟩|refine ⟨_, rfl, Yw (by first|rfl|exact hlen.symm|omega) ?_, rfl⟩|refine And.intro ?_ ?_))
      · (repeat' (first|exact Yq|exact Yi (by first|rfl|exact hlen.symm|omega)|exact Yo (by first|rfl|exact hlen.symm|omega)|exact Ye (by first|rfl|exact hlen.symm|omega)|refine ⟨_, rfl, Yb ?_, rfl⟩|refine ⟨_, rfl, Yw (by first|rfl|exact hlen.symm|omega) ?_, rfl⟩|refine And.intro ?_ ?_))
        · refine pool_row _ hlo _ ?_
          rw [show (A.getD g.length default).s + ((A.getD g.length default).e - (A.getD g.length default).s) = (A.getD g.length default).e by omega]
        · refine hrow ((l.getD (l.length - 1) default).e + ((A.getD g.length default).e - (A.getD g.length default).s)) (by omega) _ (by rw [Nat.zero_add, hl1])
      conv => whnf
      have hL0 := extR_len1 l ⟨(A.getD g.length default).m, (A.getD g.length default).s, (A.getD g.length default).e⟩
      have hs2 := hset ⟨(A.getD g.length default).m, (A.getD g.length default).e, (A.getD g.length default).e⟩
      generalize hL2 : extR l ⟨(A.getD g.length default).m, (A.getD g.length default).s, (A.getD g.length default).e⟩ = L2 at *
      generalize hA2 : A.set g.length ⟨(A.getD g.length default).m, (A.getD g.length default).e, (A.getD g.length default).e⟩ = A2 at *
      have e0 : A2.getD g.length default = ⟨(A.getD g.length default).m, (A.getD g.length default).e, (A.getD g.length default).e⟩ := by rw [hs2]; simp
      have e1 : (A2.getD g.length default).s = (A.getD g.length default).e := by rw [e0]
      have e2 : (A2.getD g.length default).e = (A.getD g.length default).e := by rw [e0]
      have e3 : A2.length = A.length := by rw [← hA2, List.length_set]
      clear hrow hg hg' hset hL2 e0
      have hs3 : A2 = (g ++ [⟨(A.getD g.length default).m, (A.getD g.length default).e, (A.getD g.length default).e⟩]) ++ t := by rw [hs2]; simp
      generalize hy : (⟨(A.getD g.length default).m, (A.getD g.length default).e, (A.getD g.length default).e⟩ : Sl) = y at *
      generalize hu2 : (u - ((A.getD g.length default).e - (A.getD g.length default).s)) = u2 at *
      (repeat' (first|((first|refine Zv 12 ?_|refine Zt dr65 ?_|refine Zn ?_|refine Zc ?_|refine Zu fun b hb=>?_);conv=>whnf)|(refine Zb ?_ ?_<;>(intro h;first|exact Zx|conv=>whnf))))
      all_goals first|(exfalso; omega)|skip
      all_goals (conv=>whnf)
      have hm : u2.toNat < u.toNat := by omega
      have hu3 : 0 ≤ u2 ∧ u2 ≤ 1000000000000000 := by omega
      have hl5 : L2.length + t.length ≤ 10001 := by simp only [List.length_cons] at p5; omega
      clear hs2 hA pC hA2 e1 e2 hu2 hy hkk hk hx hlo
      rcases g with _|⟨g1, _|⟨g2, g⟩⟩ <;> rcases t with _|⟨t1, t⟩
      all_goals
        (repeat' (first|((first|refine Zg ?_|refine Zt dr65 ?_|refine Zn ?_|refine Zc ?_|refine Zu fun b hb=>?_);conv=>whnf)|(refine Zb ?_ ?_<;>(intro h;first|exact Zx|conv=>whnf))))
        all_goals first|(exfalso; omega)|skip
        all_goals (first|(refine ⟨⟨rfl, rfl, by (try simp only [List.length_cons, List.length_nil] at hAl ⊢); omega⟩, ?_⟩;conv=>whnf)|(refine ⟨by (try simp only [List.length_cons, List.length_nil] at *); omega, ?_⟩;conv=>whnf)|skip)
        (repeat' (first|((first|refine Zg ?_|refine Zt dr65 ?_|refine Zn ?_|refine Zc ?_|refine Zu fun b hb=>?_);conv=>whnf)|(refine Zb ?_ ?_<;>(intro h;first|exact Zx|conv=>whnf))))
        all_goals first|(exfalso; omega)|skip
        all_goals refine ⟨(u2, _, _, L2), ⟨hp1.symm, hu3, ht, by rw [← hs3, e3]; exact p4, fun _ => hl5⟩, hm, ?_, ?_, ?_, ?_⟩
        all_goals (try simp only [← hs3])
        all_goals (repeat' (first|exact Yq|exact Yi (by first|rfl|exact e3.symm|(simp; done)|(simp; omega))|exact Yo (by first|rfl|exact e3.symm|(simp; done)|(simp; omega))|exact Ye (by first|rfl|exact e3.symm|(simp; done)|(simp; omega))|refine ⟨_, rfl, Yb ?_, rfl⟩|refine ⟨_, rfl, Yw (by first|rfl|exact e3.symm|(simp; done)|(simp; omega)) ?_, rfl⟩|refine And.intro ?_ ?_))
        all_goals (try exact fun _ _ _ _ => Dle.refl _)
        all_goals exact AVle.of_eq (by show AV.own 5001 3 _ _ = AV.own 5001 3 (g1 :: g2 :: g ++ [y]).length (t.length + 1); congr 1 <;> first|(simp; done)|(simp; omega))
    · have hsn := extR_snoc hg
      have hg' := hg
      unfold glues lastS at hg'
      (repeat' (first|((first|refine Zv 9 ?_|refine Zt dr65 ?_|refine Zn ?_|refine Zc ?_|refine Zu fun b hb=>?_);conv=>whnf)|(refine Zb ?_ ?_<;>(intro h;first|exact Zx|conv=>whnf))))
      all_goals (try rw [hl1] at *)
      (repeat' (first|((first|refine Zv 9 ?_|refine Zt dr65 ?_|refine Zn ?_|refine Zc ?_|refine Zu fun b hb=>?_);conv=>whnf)|(refine Zb ?_ ?_<;>(intro h;first|exact Zx|conv=>whnf))))
      all_goals (try simp only [Nat.zero_add] at *)
      all_goals first|(exfalso; omega)|skip
      all_goals (conv=>whnf)
      (repeat' (first|((first|refine Zg ?_|refine Zn ?_|refine Zc ?_|refine Zu fun b hb=>?_);conv=>whnf)|(refine Zb ?_ ?_<;>(intro h;first|exact Zx|conv=>whnf))))
      all_goals (try rw [hl1] at *)
      all_goals (try simp only [Nat.zero_add] at *)
      (repeat' (first|((first|refine Zg ?_|refine Zn ?_|refine Zc ?_|refine Zu fun b hb=>?_);conv=>whnf)|(refine Zb ?_ ?_<;>(intro h;first|exact Zx|conv=>whnf))))
      all_goals first|(exfalso; omega)|skip
      all_goals (conv=>whnf)
      all_goals
        refine (W.weak ⟨[(0, iA (u - ((A.getD g.length default).e - (A.getD g.length default).s))), (1, .ptr 5000 0), (4, .own 83 3 0 (extR l ⟨(A.getD g.length default).m, (A.getD g.length default).s, (A.getD g.length default).e⟩).length), (5, .rptr 5001 3 g.length 0)], [(5000, .blk 43 [.own 5001 3 g.length (t.length + 1)]), (5001, .row 63 3 A.length (rowF slE (A.set g.length ⟨(A.getD g.length default).m, (A.getD g.length default).e, (A.getD g.length default).e⟩))), (83, .row 63 3 (extR l ⟨(A.getD g.length default).m, (A.getD g.length default).s, (A.getD g.length default).e⟩).length (rowF slE (extR l ⟨(A.getD g.length default).m, (A.getD g.length default).s, (A.getD g.length default).e⟩)))]⟩ ?_ ?_ ?_)
        · (repeat' (first|exact Yq|exact Yi (by first|rfl|(rw [hsn]; simp; done)|omega)|exact Yo (by first|rfl|(rw [hsn]; simp; done)|omega)|exact Ye (by first|rfl|(rw [hsn]; simp; done)|omega)|refine ⟨_, rfl, Yb ?_, rfl⟩|refine ⟨_, rfl, Yw (by first|rfl|(rw [hsn]; simp; done)|omega) ?_, rfl⟩|refine And.intro ?_ ?_))
        · (repeat' (first|exact Yq|exact Yi (by first|rfl|(rw [hsn]; simp; done)|omega)|exact Yo (by first|rfl|(rw [hsn]; simp; done)|omega)|exact Ye (by first|rfl|(rw [hsn]; simp; done)|omega)|refine ⟨_, rfl, Yb ?_, rfl⟩|refine ⟨_, rfl, Yw (by first|rfl|(rw [hsn]; simp; done)|omega) ?_, rfl⟩|refine And.intro ?_ ?_))
          · refine pool_row _ hlo _ ?_
            rw [show (A.getD g.length default).s + ((A.getD g.length default).e - (A.getD g.length default).s) = (A.getD g.length default).e by omega]
          · rw [hsn]
            refine rowF_snoc rfl fun j hj => ?_
            rcases j with _|_|_|j <;> first|exact Dle.refl _|omega|(refine Dle.of_eq ?_; exact congrArg (fun z => D.val (Value.int .i64 z)) (by dsimp only; omega))
        conv => whnf
        have hL0 := extR_len1 l ⟨(A.getD g.length default).m, (A.getD g.length default).s, (A.getD g.length default).e⟩
        have hs2 := hset ⟨(A.getD g.length default).m, (A.getD g.length default).e, (A.getD g.length default).e⟩
        generalize hL2 : extR l ⟨(A.getD g.length default).m, (A.getD g.length default).s, (A.getD g.length default).e⟩ = L2 at *
        generalize hA2 : A.set g.length ⟨(A.getD g.length default).m, (A.getD g.length default).e, (A.getD g.length default).e⟩ = A2 at *
        have e0 : A2.getD g.length default = ⟨(A.getD g.length default).m, (A.getD g.length default).e, (A.getD g.length default).e⟩ := by rw [hs2]; simp
        have e1 : (A2.getD g.length default).s = (A.getD g.length default).e := by rw [e0]
        have e2 : (A2.getD g.length default).e = (A.getD g.length default).e := by rw [e0]
        have e3 : A2.length = A.length := by rw [← hA2, List.length_set]
        clear hsn hg hg' hset hL2 e0
        have hs3 : A2 = (g ++ [⟨(A.getD g.length default).m, (A.getD g.length default).e, (A.getD g.length default).e⟩]) ++ t := by rw [hs2]; simp
        generalize hy : (⟨(A.getD g.length default).m, (A.getD g.length default).e, (A.getD g.length default).e⟩ : Sl) = y at *
        generalize hu2 : (u - ((A.getD g.length default).e - (A.getD g.length default).s)) = u2 at *
        (repeat' (first|((first|refine Zv 12 ?_|refine Zt dr65 ?_|refine Zn ?_|refine Zc ?_|refine Zu fun b hb=>?_);conv=>whnf)|(refine Zb ?_ ?_<;>(intro h;first|exact Zx|conv=>whnf))))
        all_goals first|(exfalso; omega)|skip
        all_goals (conv=>whnf)
        have hm : u2.toNat < u.toNat := by omega
        have hu3 : 0 ≤ u2 ∧ u2 ≤ 1000000000000000 := by omega
        have hl5 : L2.length + t.length ≤ 10001 := by simp only [List.length_cons] at p5; omega
        clear hs2 hA pC hA2 e1 e2 hu2 hy hkk hk hx hlo
        rcases g with _|⟨g1, _|⟨g2, g⟩⟩ <;> rcases t with _|⟨t1, t⟩
        all_goals
          (repeat' (first|((first|refine Zg ?_|refine Zt dr65 ?_|refine Zn ?_|refine Zc ?_|refine Zu fun b hb=>?_);conv=>whnf)|(refine Zb ?_ ?_<;>(intro h;first|exact Zx|conv=>whnf))))
          all_goals first|(exfalso; omega)|skip
          all_goals (first|(refine ⟨⟨rfl, rfl, by (try simp only [List.length_cons, List.length_nil] at hAl ⊢); omega⟩, ?_⟩;conv=>whnf)|(refine ⟨by (try simp only [List.length_cons, List.length_nil] at *); omega, ?_⟩;conv=>whnf)|skip)
          (repeat' (first|((first|refine Zg ?_|refine Zt dr65 ?_|refine Zn ?_|refine Zc ?_|refine Zu fun b hb=>?_);conv=>whnf)|(refine Zb ?_ ?_<;>(intro h;first|exact Zx|conv=>whnf))))
          all_goals first|(exfalso; omega)|skip
          all_goals refine ⟨(u2, _, _, L2), ⟨hp1.symm, hu3, ht, by rw [← hs3, e3]; exact p4, fun _ => hl5⟩, hm, ?_, ?_, ?_, ?_⟩
          all_goals (try simp only [← hs3])
          all_goals (repeat' (first|exact Yq|exact Yi (by first|rfl|exact e3.symm|(simp; done)|(simp; omega))|exact Yo (by first|rfl|exact e3.symm|(simp; done)|(simp; omega))|exact Ye (by first|rfl|exact e3.symm|(simp; done)|(simp; omega))|refine ⟨_, rfl, Yb ?_, rfl⟩|refine ⟨_, rfl, Yw (by first|rfl|exact e3.symm|(simp; done)|(simp; omega)) ?_, rfl⟩|refine And.intro ?_ ?_))
          all_goals (try exact fun _ _ _ _ => Dle.refl _)
          all_goals exact AVle.of_eq (by show AV.own 5001 3 _ _ = AV.own 5001 3 (g1 :: g2 :: g ++ [y]).length (t.length + 1); congr 1 <;> first|(simp; done)|(simp; omega))
end Go.Proofs.YtacpjihbbmoolaaGreatDoor
