/- The reference's recipes: needs, quantities, whether a recipe is valid; a part of a sequence of units. -/
import Derived.Test.YtacpjihbbmoolaaGreatDoorC5

namespace Go.Proofs.YtacpjihbbmoolaaGreatDoor
open Go Go.RowKit
set_option linter.unusedVariables false
set_option linter.unusedSimpArgs false
set_option maxRecDepth 100000
set_option maxHeartbeats 4000000
attribute [local irreducible] ResLe AVle ArgLe ArgP EntLe Dle ResH ArgQ

structure Nd where
  c : ByteArray
  q : Int
instance : Inhabited Nd := ⟨⟨⟨#[]⟩, 0⟩⟩
def ndE (x : Nd) (j : Nat) : D := match j with
  | 0 => .val (.string x.c)
  | _ => .val (.int .i64 x.q)
abbrev ndD (ns : List Nd) : D := .lst 2 ns.length (rowF ndE ns)
structure Rc where
  id : Int
  ins : List Nd
  outs : List Nd
  sc : List Int
instance : Inhabited Rc := ⟨⟨0, [], [], []⟩⟩
abbrev rcA (r : Rc) : AV := .agg [iA r.id, .dat (ndD r.ins), .dat (ndD r.outs), .dat (iD r.sc)]
def rcE (r : Rc) (j : Nat) : D := match j with
  | 0 => .val (.int .i64 r.id)
  | 1 => ndD r.ins
  | 2 => ndD r.outs
  | _ => iD r.sc
abbrev rcD (rs : List Rc) : D := .lst 4 rs.length (rowF rcE rs)
def leS (a b : ByteArray) : Prop := (strLt a b || strEq a b) = true
instance (a b : ByteArray) : Decidable (leS a b) := by unfold leS; exact inferInstance
def ndOk (x : Nd) : Prop := codeOk x.c ∧ qOk x.q
def ndAsc (ns : List Nd) : Prop := ∀ i, i + 1 < ns.length → ¬ leS (ns.getD (i + 1) default).c (ns.getD i default).c
def needsP (ns : List Nd) : Prop := (1 ≤ ns.length ∧ ns.length ≤ 8) ∧ (∀ x ∈ ns, ndOk x) ∧ ndAsc ns
noncomputable instance (x : Nd) : Decidable (ndOk x) := Classical.propDecidable _
noncomputable instance (ns : List Nd) : Decidable (needsP ns) := Classical.propDecidable _
theorem rneeds_t (ns : List Nd) (hL : ns.length ≤ 9223372036854775807) (hC : ∀ x ∈ ns, x.c.size ≤ 9223372036854775807) : ACalls XX 121 [.dat (ndD ns)] (bA (decide (needsP ns))) := by
  refine ACalls.of (n := Tryz.f121.ntmps) XX_ok Tryz.func121 rfl (by kernel_rfl) rfl rfl (Nat.le_of_ble_eq_true rfl) ?_
  (repeat' (first|((first|refine Zg ?_|refine Zt dr121 ?_|refine Zn ?_|refine Zc ?_|refine Zu fun b hb=>?_);conv=>whnf)|(refine Zb ?_ ?_<;>(intro h;first|exact Zx|conv=>whnf))))
  refine (W.loopK (ι := Nat) [0] [] (fun k => [(3, iA k)]) (fun _ => []) (fun k => k ≤ ns.length ∧ (∀ i, i < k → ndOk (ns.getD i default)) ∧ ∀ i, i + 1 < k → ¬ leS (ns.getD (i + 1) default).c (ns.getD i default).c) (fun k => ns.length - k) 0 ⟨Nat.zero_le _, fun i hi => absurd hi (by omega), fun i hi => absurd hi (by omega)⟩ ?_ ?_ ?_)
  · exact Yz
  · exact Yz
  conv => whnf
  intro k ⟨hk, hz, hy⟩
  by_cases hk' : k < ns.length
  · have hc := rcode8_t (ns.getD k default).c (hC _ (getD_in hk'))
    by_cases h0 : ndOk (ns.getD k default)
    · have hc8 := h0.1
      have hq := h0.2
      unfold qOk at hq
      rw [decide_eq_true hc8] at hc
      rcases Nat.eq_zero_or_pos k with hk0|hkp
      · (repeat' (first|((first|refine Zg ?_|refine Zt dr121 ?_|refine Zn ?_|refine Zc ?_|refine Zu fun b hb=>?_);conv=>whnf)|(refine Zb ?_ ?_<;>(intro h;first|exact Zx|conv=>whnf))))
        all_goals (try dsimp only [Int.toNat_natCast] at *)
        (repeat' (first|((first|refine Zg ?_|refine Zt dr121 ?_|refine Zn ?_|refine Zc ?_|refine Zu fun b hb=>?_|refine Zy hc ?_|refine Zz hc ?_);conv=>whnf)|(refine Zb ?_ ?_<;>(intro h;first|exact Zx|conv=>whnf))))
        all_goals (try dsimp only [Int.toNat_natCast] at *)
        all_goals first|(exfalso; omega)|skip
        refine ⟨k + 1, ⟨by omega, fun i hi => ?_, fun i hi => absurd hi (by omega)⟩, by omega, ?_, ?_, ?_, ?_⟩
        · obtain rfl : i = k := by omega
          exact h0
        all_goals exact Yz
      · obtain ⟨j, rfl⟩ : ∃ j, k = j + 1 := ⟨k - 1, by omega⟩
        have hj1 : (((j + 1 : Nat) : Int) - 1).toNat = j := by omega
        by_cases hle : leS (ns.getD (j + 1) default).c (ns.getD j default).c
        · have hn : ¬ needsP ns := fun h => h.2.2 j hk' hle
          unfold leS at hle
          (repeat' (first|((first|refine Zg ?_|refine Zt dr121 ?_|refine Zn ?_|refine Zc ?_|refine Zu fun b hb=>?_);conv=>whnf)|(refine Zb ?_ ?_<;>(intro h;first|exact Zx|conv=>whnf))))
          all_goals (try dsimp only [Int.toNat_natCast] at *)
          (repeat' (first|((first|refine Zg ?_|refine Zt dr121 ?_|refine Zn ?_|refine Zc ?_|refine Zu fun b hb=>?_|refine Zy hc ?_|refine Zz hc ?_);conv=>whnf)|(refine Zb ?_ ?_<;>(intro h;first|exact Zx|conv=>whnf))))
          all_goals (try dsimp only [Int.toNat_natCast] at *)
          all_goals (try simp only [hj1] at *)
          (repeat' (first|((first|refine Zg ?_|refine Zt dr121 ?_|refine Zn ?_|refine Zc ?_|refine Zu fun b hb=>?_|refine Zy hc ?_|refine Zz hc ?_);conv=>whnf)|(refine Zb ?_ ?_<;>(intro h;first|exact Zx|conv=>whnf))))
          all_goals (try dsimp only [Int.toNat_natCast] at *)
          all_goals first|((repeat' (first|exact Zrq|exact Zi (by exact hn)|exact Zo (h := by exact hn)|refine ResLe.agg ?_|refine And.intro ?_ ?_|((conv=>whnf); first|exact Zrq|exact Zi (by exact hn)|exact Zo (h := by exact hn)|refine ResLe.agg ?_|refine And.intro ?_ ?_))); done)|(exfalso; first|omega|(simp_all; done))
        · have hle' := hle
          unfold leS at hle'
          (repeat' (first|((first|refine Zg ?_|refine Zt dr121 ?_|refine Zn ?_|refine Zc ?_|refine Zu fun b hb=>?_);conv=>whnf)|(refine Zb ?_ ?_<;>(intro h;first|exact Zx|conv=>whnf))))
          all_goals (try dsimp only [Int.toNat_natCast] at *)
          (repeat' (first|((first|refine Zg ?_|refine Zt dr121 ?_|refine Zn ?_|refine Zc ?_|refine Zu fun b hb=>?_|refine Zy hc ?_|refine Zz hc ?_);conv=>whnf)|(refine Zb ?_ ?_<;>(intro h;first|exact Zx|conv=>whnf))))
          all_goals (try dsimp only [Int.toNat_natCast] at *)
          all_goals (try simp only [hj1] at *)
          (repeat' (first|((first|refine Zg ?_|refine Zt dr121 ?_|refine Zn ?_|refine Zc ?_|refine Zu fun b hb=>?_|refine Zy hc ?_|refine Zz hc ?_);conv=>whnf)|(refine Zb ?_ ?_<;>(intro h;first|exact Zx|conv=>whnf))))
          all_goals (try dsimp only [Int.toNat_natCast] at *)
          all_goals first|(exfalso; first|omega|(simp_all; done))|skip
          refine ⟨j + 1 + 1, ⟨by omega, fun i hi => ?_, fun i hi => ?_⟩, by omega, ?_, ?_, ?_, ?_⟩
          · by_cases hik : i = j + 1
            · subst hik; exact h0
            · exact hz i (by omega)
          · by_cases hik : i = j
            · subst hik; exact hle
            · exact hy i (by omega)
          all_goals exact Yz
    · have hn : ¬ needsP ns := fun h => h0 (h.2.1 _ (getD_in hk'))
      by_cases hc8 : codeOk (ns.getD k default).c
      · have hq : ¬ qOk (ns.getD k default).q := fun h => h0 ⟨hc8, h⟩
        unfold qOk at hq
        rw [decide_eq_true hc8] at hc
        (repeat' (first|((first|refine Zg ?_|refine Zt dr121 ?_|refine Zn ?_|refine Zc ?_|refine Zu fun b hb=>?_);conv=>whnf)|(refine Zb ?_ ?_<;>(intro h;first|exact Zx|conv=>whnf))))
        all_goals (try dsimp only [Int.toNat_natCast] at *)
        (repeat' (first|((first|refine Zg ?_|refine Zt dr121 ?_|refine Zn ?_|refine Zc ?_|refine Zu fun b hb=>?_|refine Zy hc ?_|refine Zz hc ?_);conv=>whnf)|(refine Zb ?_ ?_<;>(intro h;first|exact Zx|conv=>whnf))))
        all_goals (try dsimp only [Int.toNat_natCast] at *)
        all_goals first|((repeat' (first|exact Zrq|exact Zi (by exact hn)|exact Zo (h := by exact hn)|refine ResLe.agg ?_|refine And.intro ?_ ?_|((conv=>whnf); first|exact Zrq|exact Zi (by exact hn)|exact Zo (h := by exact hn)|refine ResLe.agg ?_|refine And.intro ?_ ?_))); done)|(exfalso; omega)
      · rw [decide_eq_false hc8] at hc
        (repeat' (first|((first|refine Zg ?_|refine Zt dr121 ?_|refine Zn ?_|refine Zc ?_|refine Zu fun b hb=>?_);conv=>whnf)|(refine Zb ?_ ?_<;>(intro h;first|exact Zx|conv=>whnf))))
        all_goals (try dsimp only [Int.toNat_natCast] at *)
        (repeat' (first|((first|refine Zg ?_|refine Zt dr121 ?_|refine Zn ?_|refine Zc ?_|refine Zu fun b hb=>?_|refine Zy hc ?_|refine Zz hc ?_);conv=>whnf)|(refine Zb ?_ ?_<;>(intro h;first|exact Zx|conv=>whnf))))
        all_goals (try dsimp only [Int.toNat_natCast] at *)
        all_goals (repeat' (first|exact Zrq|exact Zi (by exact hn)|exact Zo (h := by exact hn)|refine ResLe.agg ?_|refine And.intro ?_ ?_|((conv=>whnf); first|exact Zrq|exact Zi (by exact hn)|exact Zo (h := by exact hn)|refine ResLe.agg ?_|refine And.intro ?_ ?_)))
  · obtain rfl : k = ns.length := by omega
    have e : needsP ns ↔ (1 ≤ ns.length ∧ ns.length ≤ 8) := ⟨fun h => h.1, fun h => ⟨h, all_getD.2 hz, hy⟩⟩
    (repeat' (first|((first|refine Zg ?_|refine Zt dr121 ?_|refine Zn ?_|refine Zc ?_|refine Zu fun b hb=>?_);conv=>whnf)|(refine Zb ?_ ?_<;>(intro h;first|exact Zx|conv=>whnf))))
    all_goals (repeat' (first|exact Zrq|exact Zi (by rw [e]; omega)|exact Zo (h := by rw [e]; omega)|refine ResLe.agg ?_|refine And.intro ?_ ?_|((conv=>whnf); first|exact Zrq|exact Zi (by rw [e]; omega)|exact Zo (h := by rw [e]; omega)|refine ResLe.agg ?_|refine And.intro ?_ ?_)))

def qtyN (ns : List Nd) (c : ByteArray) : Int := ((ns.filter fun x => strEq x.c c).map Nd.q).sum
theorem qtyN_snoc (ns : List Nd) (c : ByteArray) (k : Nat) (h : k < ns.length) : qtyN (ns.take (k + 1)) c = qtyN (ns.take k) c + if strEq (ns.getD k default).c c = true then (ns.getD k default).q else 0 := by
  unfold qtyN
  rw [take_snoc ns k h, List.filter_append, List.map_append, List.sum_append]
  congr 1
  generalize ns.getD k default = x
  by_cases hh : strEq x.c c = true
  · rw [if_pos hh]; simp [hh]
  · rw [if_neg hh]; simp [hh]
theorem qtyN_rng {ns : List Nd} (hq : ∀ x ∈ ns, 0 ≤ x.q ∧ x.q ≤ 1000000000) (c : ByteArray) : ∀ k, k ≤ ns.length → 0 ≤ qtyN (ns.take k) c ∧ qtyN (ns.take k) c ≤ 1000000000 * k := by
  intro k
  induction k with
  | zero => intro _; simp [qtyN]
  | succ k ih =>
    intro hk
    have := ih (by omega)
    have hx := hq _ (getD_in (k := k) (by omega))
    rw [qtyN_snoc ns c k (by omega)]
    split <;> (push_cast; omega)
theorem rqty_t (ns : List Nd) (c : ByteArray) (hL : ns.length ≤ 1000000) (hq : ∀ x ∈ ns, 0 ≤ x.q ∧ x.q ≤ 1000000000) : ACalls XX 100 [.dat (ndD ns), sA c] (iA (qtyN ns c)) := by
  refine ACalls.of (n := Tryz.f100.ntmps) XX_ok Tryz.func100 rfl (by kernel_rfl) rfl rfl (Nat.le_of_ble_eq_true rfl) ?_
  (repeat' (first|((first|refine Zg ?_|refine Zn ?_|refine Zc ?_|refine Zu fun b hb=>?_);conv=>whnf)|(refine Zb ?_ ?_<;>(intro h;first|exact Zx|conv=>whnf))))
  refine (W.loopK (ι := Nat) [0, 1] [] (fun k => [(6, iA k), (5, iA (qtyN (ns.take k) c))]) (fun _ => []) (fun k => k ≤ ns.length) (fun k => ns.length - k) 0 (Nat.zero_le _) ?_ ?_ ?_)
  · (repeat' (first|exact Yq|exact Yi (by first|rfl|(simp [qtyN]; done)|omega)|exact Yo (by first|rfl|(simp [qtyN]; done)|omega)|exact Ye (by first|rfl|(simp [qtyN]; done)|omega)|refine ⟨_, rfl, Yb ?_, rfl⟩|refine ⟨_, rfl, Yw (by first|rfl|(simp [qtyN]; done)|omega) ?_, rfl⟩|refine And.intro ?_ ?_))
  · exact Yz
  conv => whnf
  intro k hk
  by_cases hk' : k < ns.length
  · have hs := qtyN_snoc ns c k hk'
    have hr := qtyN_rng hq c k hk
    have hx := hq _ (getD_in hk')
    by_cases hh : strEq (ns.getD k default).c c = true
    · rw [if_pos hh] at hs
      (repeat' (first|((first|refine Zg ?_|refine Zn ?_|refine Zc ?_|refine Zu fun b hb=>?_);conv=>whnf)|(refine Zb ?_ ?_<;>(intro h;first|exact Zx|conv=>whnf))))
      all_goals (try dsimp only [Int.toNat_natCast] at *)
      (repeat' (first|((first|refine Zg ?_|refine Zn ?_|refine Zc ?_|refine Zu fun b hb=>?_);conv=>whnf)|(refine Zb ?_ ?_<;>(intro h;first|exact Zx|conv=>whnf))))
      all_goals first|(exfalso; simp_all; done)|skip
      refine ⟨k + 1, by omega, by omega, ?_, ?_, ?_, ?_⟩
      all_goals (repeat' (first|exact Yq|exact Yi (by first|rfl|exact hs.symm|omega)|exact Yo (by first|rfl|exact hs.symm|omega)|exact Ye (by first|rfl|exact hs.symm|omega)|refine ⟨_, rfl, Yb ?_, rfl⟩|refine ⟨_, rfl, Yw (by first|rfl|exact hs.symm|omega) ?_, rfl⟩|refine And.intro ?_ ?_))
    · rw [if_neg hh] at hs
      (repeat' (first|((first|refine Zg ?_|refine Zn ?_|refine Zc ?_|refine Zu fun b hb=>?_);conv=>whnf)|(refine Zb ?_ ?_<;>(intro h;first|exact Zx|conv=>whnf))))
      all_goals (try dsimp only [Int.toNat_natCast] at *)
      (repeat' (first|((first|refine Zg ?_|refine Zn ?_|refine Zc ?_|refine Zu fun b hb=>?_);conv=>whnf)|(refine Zb ?_ ?_<;>(intro h;first|exact Zx|conv=>whnf))))
      all_goals first|(exfalso; simp_all; done)|skip
      refine ⟨k + 1, by omega, by omega, ?_, ?_, ?_, ?_⟩
      all_goals (repeat' (first|exact Yq|exact Yi (by first|rfl|(rw [hs]; omega)|omega)|exact Yo (by first|rfl|(rw [hs]; omega)|omega)|exact Ye (by first|rfl|(rw [hs]; omega)|omega)|refine ⟨_, rfl, Yb ?_, rfl⟩|refine ⟨_, rfl, Yw (by first|rfl|(rw [hs]; omega)|omega) ?_, rfl⟩|refine And.intro ?_ ?_))
  · obtain rfl : k = ns.length := by omega
    rw [List.take_length] at *
    (repeat' (first|((first|refine Zg ?_|refine Zn ?_|refine Zc ?_|refine Zu fun b hb=>?_);conv=>whnf)|(refine Zb ?_ ?_<;>(intro h;first|exact Zx|conv=>whnf))))
    all_goals exact Zrz

def scOk (sc : List Int) : Prop := ∀ x ∈ sc, 0 ≤ x ∧ x ≤ 1000000
def rcOk (r : Rc) : Prop := idOk r.id ∧ needsP r.ins ∧ needsP r.outs ∧ r.sc.length = r.outs.length ∧ scOk r.sc ∧ r.sc.sum ≠ 0
noncomputable instance (r : Rc) : Decidable (rcOk r) := Classical.propDecidable _
noncomputable def recErr (r : Rc) : Int := if rcOk r then 0 else 1
theorem scSum_rng {sc : List Int} (h : scOk sc) : ∀ k, k ≤ sc.length → 0 ≤ (sc.take k).sum ∧ (sc.take k).sum ≤ 1000000 * k := by
  intro k
  induction k with
  | zero => intro _; simp
  | succ k ih =>
    intro hk
    have := ih (by omega)
    have hx := h _ (getD_in (k := k) (by omega))
    have hs : (sc.take (k + 1)).sum = (sc.take k).sum + sc.getD k default := sum_take0 sc k (by omega)
    rw [hs]
    push_cast
    omega
theorem rrecipe_t (r : Rc) (hi : r.ins.length ≤ 9223372036854775807) (ho : r.outs.length ≤ 9223372036854775807) (hs : r.sc.length ≤ 9223372036854775807) (hCi : ∀ x ∈ r.ins, x.c.size ≤ 9223372036854775807) (hCo : ∀ x ∈ r.outs, x.c.size ≤ 9223372036854775807) : ACalls XX 99 [rcA r] (iA (recErr r)) := by
  have h1 := rneeds_t r.ins hi hCi
  have h2 := rneeds_t r.outs ho hCo
  have hbad : ¬ rcOk r → recErr r = 1 := fun h => by unfold recErr; rw [if_neg h]
  by_cases e0 : idOk r.id ∧ needsP r.ins ∧ needsP r.outs ∧ r.sc.length = r.outs.length
  · obtain ⟨f1, f2, f3, f4⟩ := e0
    have f1' := f1
    unfold idOk at f1'
    have f3' := f3.1
    rw [decide_eq_true f2] at h1
    rw [decide_eq_true f3] at h2
    refine ACalls.of (n := Tryz.f99.ntmps) XX_ok Tryz.func99 rfl (by kernel_rfl) rfl rfl (Nat.le_of_ble_eq_true rfl) ?_
    (repeat' (first|((first|refine Zg ?_|refine Zn ?_|refine Zc ?_|refine Zu fun b hb=>?_|refine Zy h1 ?_|refine Zy h2 ?_);conv=>whnf)|(refine Zb ?_ ?_<;>(intro h;first|exact Zx|conv=>whnf))))
    all_goals first|(exfalso; omega)|skip
    refine (W.loopK (ι := Nat) [1] [1] (fun k => [(4, iA k), (3, iA (r.sc.take k).sum)]) (fun _ => []) (fun k => k ≤ r.sc.length ∧ (∀ i, i < k → 0 ≤ r.sc.getD i default ∧ r.sc.getD i default ≤ 1000000) ∧ 0 ≤ (r.sc.take k).sum ∧ (r.sc.take k).sum ≤ 1000000 * k) (fun k => r.sc.length - k) 0 ⟨Nat.zero_le _, fun i hi => absurd hi (by omega), by simp, by simp⟩ ?_ ?_ ?_)
    · (repeat' (first|exact Yq|exact Yi (by first|rfl|(simp; done)|omega)|exact Yo (by first|rfl|(simp; done)|omega)|exact Ye (by first|rfl|(simp; done)|omega)|refine ⟨_, rfl, Yb ?_, rfl⟩|refine ⟨_, rfl, Yw (by first|rfl|(simp; done)|omega) ?_, rfl⟩|refine And.intro ?_ ?_))
    · exact Yz
    conv => whnf
    intro k ⟨hk, hz, hr0, hr1⟩
    by_cases hk' : k < r.sc.length
    · have hsn : (r.sc.take (k + 1)).sum = (r.sc.take k).sum + r.sc.getD k default := sum_take0 r.sc k hk'
      (repeat' (first|((first|refine Zg ?_|refine Zn ?_|refine Zc ?_|refine Zu fun b hb=>?_);conv=>whnf)|(refine Zb ?_ ?_<;>(intro h;first|exact Zx|conv=>whnf))))
      all_goals (try dsimp only [Int.toNat_natCast] at *)
      (repeat' (first|((first|refine Zg ?_|refine Zn ?_|refine Zc ?_|refine Zu fun b hb=>?_);conv=>whnf)|(refine Zb ?_ ?_<;>(intro h;first|exact Zx|conv=>whnf))))
      all_goals (try dsimp only [Int.toNat_natCast] at *)
      (repeat' (first|((first|refine Zg ?_|refine Zn ?_|refine Zc ?_|refine Zu fun b hb=>?_);conv=>whnf)|(refine Zb ?_ ?_<;>(intro h;first|exact Zx|conv=>whnf))))
      all_goals first
        | ((repeat' (first|exact Zrq|exact Zi (by exact (hbad fun h => by have := h.2.2.2.2.1 _ (getD_in hk'); omega).symm)|exact Zo (h := by exact (hbad fun h => by have := h.2.2.2.2.1 _ (getD_in hk'); omega).symm)|refine ResLe.agg ?_|refine And.intro ?_ ?_|((conv=>whnf); first|exact Zrq|exact Zi (by exact (hbad fun h => by have := h.2.2.2.2.1 _ (getD_in hk'); omega).symm)|exact Zo (h := by exact (hbad fun h => by have := h.2.2.2.2.1 _ (getD_in hk'); omega).symm)|refine ResLe.agg ?_|refine And.intro ?_ ?_))); done)
        | skip
      refine ⟨k + 1, ⟨by omega, fun i hi => ?_, by omega, by push_cast; omega⟩, by omega, ?_, ?_, ?_, ?_⟩
      · by_cases hik : i = k
        · subst hik; omega
        · exact hz i (by omega)
      all_goals (repeat' (first|exact Yq|exact Yi (by first|rfl|exact hsn.symm|omega)|exact Yo (by first|rfl|exact hsn.symm|omega)|exact Ye (by first|rfl|exact hsn.symm|omega)|refine ⟨_, rfl, Yb ?_, rfl⟩|refine ⟨_, rfl, Yw (by first|rfl|exact hsn.symm|omega) ?_, rfl⟩|refine And.intro ?_ ?_))
    · obtain rfl : k = r.sc.length := by omega
      rw [List.take_length] at *
      by_cases hs0 : r.sc.sum = 0
      · (repeat' (first|((first|refine Zg ?_|refine Zn ?_|refine Zc ?_|refine Zu fun b hb=>?_);conv=>whnf)|(refine Zb ?_ ?_<;>(intro h;first|exact Zx|conv=>whnf))))
        all_goals first|((repeat' (first|exact Zrq|exact Zi (by exact (hbad fun h => h.2.2.2.2.2 hs0).symm)|exact Zo (h := by exact (hbad fun h => h.2.2.2.2.2 hs0).symm)|refine ResLe.agg ?_|refine And.intro ?_ ?_|((conv=>whnf); first|exact Zrq|exact Zi (by exact (hbad fun h => h.2.2.2.2.2 hs0).symm)|exact Zo (h := by exact (hbad fun h => h.2.2.2.2.2 hs0).symm)|refine ResLe.agg ?_|refine And.intro ?_ ?_))); done)|(exfalso; omega)
      · have hok : recErr r = 0 := by unfold recErr; rw [if_pos ⟨f1, f2, f3, f4, all_getD.2 hz, hs0⟩]
        rw [hok]
        (repeat' (first|((first|refine Zg ?_|refine Zn ?_|refine Zc ?_|refine Zu fun b hb=>?_);conv=>whnf)|(refine Zb ?_ ?_<;>(intro h;first|exact Zx|conv=>whnf))))
        all_goals first|exact Zrz|(exfalso; omega)
  · have hb := hbad fun h => e0 ⟨h.1, h.2.1, h.2.2.1, h.2.2.2.1⟩
    rw [hb]
    by_cases f2 : needsP r.ins
    · by_cases f3 : needsP r.outs
      · rw [decide_eq_true f2] at h1
        rw [decide_eq_true f3] at h2
        have e1 : ¬ (idOk r.id ∧ r.sc.length = r.outs.length) := fun h => e0 ⟨h.1, f2, f3, h.2⟩
        unfold idOk at e1
        refine ACalls.of (n := Tryz.f99.ntmps) XX_ok Tryz.func99 rfl (by kernel_rfl) rfl rfl (Nat.le_of_ble_eq_true rfl) ?_
        (repeat' (first|((first|refine Zg ?_|refine Zn ?_|refine Zc ?_|refine Zu fun b hb=>?_|refine Zy h1 ?_|refine Zy h2 ?_);conv=>whnf)|(refine Zb ?_ ?_<;>(intro h;first|exact Zx|conv=>whnf))))
        all_goals first|exact Zrz|(exfalso; omega)
      · rw [decide_eq_true f2] at h1
        rw [decide_eq_false f3] at h2
        refine ACalls.of (n := Tryz.f99.ntmps) XX_ok Tryz.func99 rfl (by kernel_rfl) rfl rfl (Nat.le_of_ble_eq_true rfl) ?_
        (repeat' (first|((first|refine Zg ?_|refine Zn ?_|refine Zc ?_|refine Zu fun b hb=>?_|refine Zy h1 ?_|refine Zy h2 ?_);conv=>whnf)|(refine Zb ?_ ?_<;>(intro h;first|exact Zx|conv=>whnf))))
        all_goals exact Zrz
    · rw [decide_eq_false f2] at h1
      refine ACalls.of (n := Tryz.f99.ntmps) XX_ok Tryz.func99 rfl (by kernel_rfl) rfl rfl (Nat.le_of_ble_eq_true rfl) ?_
      (repeat' (first|((first|refine Zg ?_|refine Zn ?_|refine Zc ?_|refine Zu fun b hb=>?_|refine Zy h1 ?_);conv=>whnf)|(refine Zb ?_ ?_<;>(intro h;first|exact Zx|conv=>whnf))))
      all_goals exact Zrz

end Go.Proofs.YtacpjihbbmoolaaGreatDoor
