/- What the lots of a stock bear: the duties add up; the pieces of a source follow one another. What the lots of a stock bear, the pieces of a source, what changes: of the package and of the reference. Amounts given to the sources of an estate; lists of dues compared; what changes. -/
import Derived.Test.YtfinilnaofbkkaaF1
import Derived.Test.YtfinilnaofbkkaaSL
import Derived.Test.YtfinilnaofbkkaaSM

namespace Go.Proofs.Ytfinilnaofbkkaa
open Go Go.RowKit
set_option linter.unusedVariables false
set_option linter.unusedSimpArgs false
set_option maxRecDepth 100000

structure Brd (ss : List Lt) (cs : List Ch) : Prop where
  stk : StkOk ss
  h13 : ∀ x ∈ ss, x.p ≠ 13
  cov : (unitsL ss).Perm (chU cs)
  asc : cs.Pairwise fun a b => a.m < b.m
  ok : ∀ c ∈ cs, chOk c
  len : cs.length ≤ 64
theorem ascC_of {cs : List Ch} (h : cs.Pairwise fun a b => a.m < b.m) : ascC cs := fun i hi => by
  have := List.pairwise_iff_getElem.1 h i (i + 1) (by omega) hi (by omega)
  rwa [getD_of, getD_of]
theorem chOf_mem {cs : List Ch} (h : cs.Pairwise fun a b => a.m < b.m) {c : Ch} (hc : c ∈ cs) : hadC cs c.m ∧ chOf cs c.m = c := by
  have hh : hadC cs c.m := ⟨c, hc, rfl⟩
  obtain ⟨h1, h2⟩ := (loC_parts (t := c.m) (ascC_of h)).2 hh
  refine ⟨hh, ?_⟩
  unfold chOf
  rw [getD_of h1] at h2 ⊢
  obtain ⟨j, hj, e⟩ := List.getElem_of_mem hc
  have hp := List.pairwise_iff_getElem.1 h
  rcases Nat.lt_trichotomy (loC cs c.m) j with hij | hij | hij
  · have := hp _ j h1 hj hij; rw [e] at this; omega
  · subst hij; exact e
  · have := hp j _ hj h1 hij; rw [e] at this; omega
theorem Brd.src {ss : List Lt} {cs : List Ch} (h : Brd ss cs) {x : Lt} (hx : x ∈ ss) {s : Sl} (hs : s ∈ x.us) : ∃ c ∈ cs, s.m = c.m ∧ s.e ≤ c.u := by
  have hok := (h.stk.ok x hx).2.2.2.2 s hs
  unfold slOk at hok
  have hm : (s.m, s.e - 1) ∈ unitsL ss := mem_unitsL.2 ⟨x, hx, h.h13 x hx, mem_expand.2 ⟨s, hs, rfl, by omega, by omega⟩⟩
  obtain ⟨c, hc, hm⟩ := List.mem_flatMap.1 (h.cov.mem_iff.1 hm)
  obtain ⟨e1, e2, e3⟩ := mem_units.1 hm
  exact ⟨c, hc, e1, by show s.e ≤ c.u; have : s.e - 1 < c.u := e3; omega⟩
theorem Brd.step {ss : List Lt} {cs : List Ch} (h : Brd ss cs) {x : Lt} (hx : x ∈ ss) {s : Sl} (hs : s ∈ x.us) : stepE cs s = 0 := by
  obtain ⟨c, hc, e1, e2⟩ := h.src hx hs
  obtain ⟨k1, k2⟩ := chOf_mem h.asc hc
  have hok := (h.stk.ok x hx).2.2.2.2 s hs
  have hco := h.ok c hc
  unfold slOk at hok
  unfold chOk at hco
  unfold stepE
  rw [e1, if_neg (fun hn => hn k1), k2, if_pos]
  unfold porOk
  exact ⟨hco.2.2.2, hco.2.2.1, by omega, by omega, e2⟩
theorem Brd.dut {ss : List Lt} {cs : List Ch} (h : Brd ss cs) {x : Lt} (hx : x ∈ ss) : dutE cs x.us = 0 := dutE_none fun i hi => h.step hx (getD_in hi)
theorem Brd.chs {ss : List Lt} {cs : List Ch} (h : Brd ss cs) : chErr cs = 0 := by
  have h1 := h.ok
  have h2 := ascC_of h.asc
  unfold chErr
  rw [if_neg (by have := h.len; omega), if_neg (fun hn => hn h1), if_neg (fun hn => hn h2)]
def wU (cs : List Ch) (p : Int × Int) : Int := porI (chOf cs p.1).a (chOf cs p.1).u p.2 (p.2 + 1)
theorem sum_range_tel (f : Int → Int) (s : Int) : ∀ n : Nat, ((List.range n).map fun (i : Nat) => f (s + i + 1) - f (s + i)).sum = f (s + n) - f s
  | 0 => by simp
  | n + 1 => by
    rw [List.range_succ, List.map_append, List.sum_append, sum_range_tel f s n]
    simp only [List.map_cons, List.map_nil, List.sum_cons, List.sum_nil]
    push_cast
    rw [show s + ((n : Int) + 1) = s + n + 1 by omega]
    omega
theorem sum_unit {cs : List Ch} {s : Sl} (h : s.s ≤ s.e) : ((unitsOf s).map (wU cs)).sum = stepV cs s := by
  unfold unitsOf
  rw [List.map_map]
  have := sum_range_tel (fun k => (chOf cs s.m).a * k / (chOf cs s.m).u) s.s (s.e - s.s).toNat
  rw [show s.s + ((s.e - s.s).toNat : Int) = s.e by omega] at this
  unfold stepV porI
  rw [← this]
  rfl
theorem sum_expand {cs : List Ch} : ∀ {us : List Sl}, (∀ s ∈ us, s.s ≤ s.e) → ((expand us).map (wU cs)).sum = dutV cs us
  | [], _ => rfl
  | s :: l, h => by
    rw [expand_cons, List.map_append, List.sum_append, sum_unit (h s (by simp)), sum_expand fun y hy => h y (by simp [hy])]
    unfold dutV
    simp
theorem sum_lots {cs : List Ch} : ∀ {l : List Lt}, (∀ x ∈ l, ∀ s ∈ x.us, s.s ≤ s.e) → ((l.flatMap fun x => expand x.us).map (wU cs)).sum = (l.map fun x => dutV cs x.us).sum
  | [], _ => rfl
  | x :: l, h => by
    rw [List.flatMap_cons, List.map_append, List.sum_append, sum_expand (h x (by simp)), sum_lots fun y hy => h y (by simp [hy])]
    simp
theorem sum_chs {cs : List Ch} : ∀ {l : List Ch}, (∀ c ∈ l, chOf cs c.m = c ∧ 1 ≤ c.u) → ((chU l).map (wU cs)).sum = (l.map Ch.a).sum
  | [], _ => rfl
  | c :: l, h => by
    have ih := sum_chs (cs := cs) (l := l) fun y hy => h y (by simp [hy])
    have h0 := h c (by simp)
    unfold chU at ih ⊢
    rw [List.flatMap_cons, List.map_append, List.sum_append, ih, sum_unit (by show (0 : Int) ≤ c.u; omega)]
    have e : stepV cs ⟨c.m, 0, c.u⟩ = c.a := by
      unfold stepV porI
      show (chOf cs c.m).a * c.u / (chOf cs c.m).u - (chOf cs c.m).a * 0 / (chOf cs c.m).u = c.a
      rw [h0.1, Int.mul_ediv_cancel _ (by omega), Int.mul_zero, Int.zero_ediv]
      omega
    rw [e]
    simp
theorem Brd.all {ss : List Lt} {cs : List Ch} (h : Brd ss cs) : (ss.map fun x => dutV cs x.us).sum = (cs.map Ch.a).sum := by
  have h1 := perm_sum (h.cov.map (wU cs))
  rw [sum_chs (fun c hc => ⟨(chOf_mem h.asc hc).2, by have := (h.ok c hc).2.2.1; unfold unOk at this; omega⟩), unitsL_all h.h13, sum_lots (fun x hx s hs => slOk_le (h.stk.ok x hx).2.2.2.2 s hs)] at h1
  exact h1
theorem stepV_nn {cs : List Ch} {s : Sl} (h : stepE cs s = 0) : 0 ≤ stepV cs s := by
  unfold stepE at h
  split at h
  · cases h
  split at h
  · rename_i h1 h2
    obtain ⟨a1, a2, a3, a4, a5⟩ := h2
    unfold amOk at a1
    unfold unOk at a2
    unfold stepV porI
    have := Int.ediv_le_ediv (c := (chOf cs s.m).u) (by omega) (Int.mul_le_mul_of_nonneg_left a4 a1.1)
    omega
  · cases h
theorem sum_nn {l : List Int} (h : ∀ x ∈ l, 0 ≤ x) : 0 ≤ l.sum := by
  induction l with
  | nil => simp
  | cons a l ih =>
    have h1 := h a (by simp)
    have h2 := ih fun y hy => h y (by simp [hy])
    rw [List.sum_cons]
    omega
theorem Brd.nn {ss : List Lt} {cs : List Ch} (h : Brd ss cs) {x : Lt} (hx : x ∈ ss) : 0 ≤ dutV cs x.us := by
  unfold dutV
  refine sum_nn fun y hy => ?_
  obtain ⟨s, hs, rfl⟩ := List.mem_map.1 hy
  exact stepV_nn (h.step hx hs)

def itN (L : List Int) : Nat → Nat
  | 0 => 0
  | k + 1 => ni L (ni L (itN L k))
theorem itN_le (L : List Int) : ∀ k, itN L k ≤ L.length
  | 0 => Nat.zero_le _
  | k + 1 => (ni_le L _ (ni_le L _ (itN_le L k)).2.1).2.1
def chgX (cs : List Ch) (L : List Int) (k : Nat) : Ch := ⟨(cs.getD k default).m, (cs.getD k default).u, sx L (itN L k) 1000 1000000000001⟩
def chgL (cs : List Ch) (L : List Int) : List Ch := (List.range cs.length).map (chgX cs L)
theorem chgL_len (cs : List Ch) (L : List Int) : (chgL cs L).length = cs.length := by simp [chgL]
theorem chU_chg (cs : List Ch) (L : List Int) : chU (chgL cs L) = chU cs := by
  unfold chU
  conv => rhs; rw [← range_getD cs]
  unfold chgL
  rw [List.flatMap_map, List.flatMap_map]
  rfl
theorem est_brd {ss : List Lt} {cs : List Ch} {f : Int} (h : EstOk ss cs f) (hf : f ≤ 1000) (hc : cs.length ≤ 64) (L : List Int) : Brd ss (chgL cs L) := by
  refine ⟨h.stk, fun x hx => (h.id x hx).2, by rw [chU_chg]; exact h.cov, ?_, fun c hm => ?_, by rw [chgL_len]; exact hc⟩
  · unfold chgL
    rw [List.pairwise_map]
    refine List.pairwise_iff_getElem.2 fun i j hi hj hij => ?_
    simp only [List.getElem_range, List.length_range] at hi hj ⊢
    have := List.pairwise_iff_getElem.1 h.chs i j hi hj hij
    unfold chgX
    rw [getD_of hi, getD_of hj]
    exact this
  · unfold chgL at hm
    obtain ⟨k, hk, rfl⟩ := List.mem_map.1 hm
    have hk := List.mem_range.1 hk
    have h1 := h.chr _ (getD_in hk)
    have h2 := sx_rng L (itN L k) (few := 1000) (n := 1000000000001) (by omega) (by omega)
    unfold chOk unOk amOk chgX
    dsimp only
    omega

structure Pc where
  l : Int
  s : Int
  e : Int
  deriving Inhabited
def pcLt (x y : Pc) : Prop := x.s < y.s ∨ (x.s = y.s ∧ x.l < y.l)
instance (x y : Pc) : Decidable (pcLt x y) := by unfold pcLt; exact inferInstance
end Go.Proofs.Ytfinilnaofbkkaa

namespace Go.Proofs.Ytfinilnaofbkkaa
open Go Go.RowKit
set_option linter.unusedVariables false
set_option linter.unusedSimpArgs false
set_option maxRecDepth 100000
set_option maxHeartbeats 4000000
attribute [local irreducible] ResLe AVle ArgLe ArgP EntLe Dle ResH ArgQ

structure Du where
  l : Int
  a : Int
  deriving Inhabited
def duE (x : Du) (j : Nat) : D := match j with
  | 0 => .val (.int .i64 x.l)
  | _ => .val (.int .i64 x.a)
abbrev duD (us : List Du) : D := .lst 2 us.length (rowF duE us)
def dusL (ss : List Lt) (cs : List Ch) : List Du := ss.map fun x => ⟨x.id, dutV cs x.us⟩
noncomputable def byE (ss : List Lt) (cs : List Ch) : Int := if stkErr ss ≠ 0 then stkErr ss else if chErr cs ≠ 0 then chErr cs else orL (ss.map fun x => dutE cs x.us)
noncomputable def byL (ss : List Lt) (cs : List Ch) : List Du := if byE ss cs = 0 then dusL ss cs else []
theorem dusL_len (ss : List Lt) (cs : List Ch) : (dusL ss cs).length = ss.length := by simp [dusL]
theorem dusL_at {ss : List Lt} {cs : List Ch} {k : Nat} (h : k < ss.length) : (dusL ss cs).getD k default = ⟨(ss.getD k default).id, dutV cs (ss.getD k default).us⟩ := by simp [dusL, h]
theorem map_at0 {ss : List Lt} {g : Lt → Int} {k : Nat} (h : k < ss.length) : (ss.map g).getD k 0 = g (ss.getD k default) := by simp [h]
theorem orD_at {cs : List Ch} {ss : List Lt} {k : Nat} (h : k < ss.length) (hz : ∀ i, i < k → dutE cs (ss.getD i default).us = 0) (hx : dutE cs (ss.getD k default).us ≠ 0) : orL (ss.map fun x => dutE cs x.us) = dutE cs (ss.getD k default).us := by
  rw [orL_at (k := k) (by simpa using h) (fun i hi => by rw [map_at0 (by omega)]; exact hz i hi) (by rw [map_at0 h]; exact hx), map_at0 h]
theorem orD_none {cs : List Ch} {ss : List Lt} (hz : ∀ i, i < ss.length → dutE cs (ss.getD i default).us = 0) : orL (ss.map fun x => dutE cs x.us) = 0 :=
  orL_none fun i hi => by
    have hi : i < ss.length := by simpa using hi
    rw [map_at0 hi]
    exact hz i hi
def fillD (l : List Du) (k : Nat) : List Du := (List.range l.length).map fun i => if i < k then l.getD i default else default
theorem fillD_at (l : List Du) (k : Nat) {i : Nat} (h : i < l.length) : (fillD l k).getD i default = if i < k then l.getD i default else default := by simp [fillD, h]
theorem fillD_full (l : List Du) : fillD l l.length = l := by
  have : fillD l l.length = (List.range l.length).map fun i => l.getD i default := List.map_congr_left fun i hi => if_pos (List.mem_range.1 hi)
  rw [this, range_getD]
theorem fillD_set {l : List Du} {n k : Nat} (hn : n = l.length) {x : Du} (hx : l.getD k default = x) : ∀ i, i < n → ∀ j, j < 2 → Dle (setF (rowF duE (fillD l k)) k 0 [.val (.int .i64 x.l), .val (.int .i64 x.a)] i j) (rowF duE (fillD l (k + 1)) i j) := by
  intro i hi j hj
  subst hn
  rw [setF_eq]
  unfold rowF
  rw [fillD_at l (k + 1) hi, fillD_at l k hi]
  split
  · rename_i hc
    obtain ⟨rfl, h1, h2⟩ := hc
    rw [if_pos (by omega), hx]
    rcases j with _ | _ | j
    · exact Dle.refl _
    · exact Dle.refl _
    · omega
  · rename_i hc
    have hik : i ≠ k := fun e => hc ⟨e, by omega, by show j < 0 + 2; omega⟩
    by_cases h : i < k
    · rw [if_pos h, if_pos (by omega)]
      exact Dle.refl _
    · rw [if_neg h, if_neg (by omega)]
      exact Dle.refl _
theorem byLot_t (ss : List Lt) (cs : List Ch) (hL : ss.length ≤ 9223372036854775807) (hC : cs.length ≤ 9223372036854775807) : ACalls XX 6 [.dat (ltD ss), .dat (chD cs)] (.tup [.dat (duD (byL ss cs)), iA (byE ss cs)]) := by
  have h1 := validate_t ss hL
  have h2 := latValidate_t cs hC
  have hS : byL ss cs = if byE ss cs = 0 then dusL ss cs else [] := rfl
  by_cases e1 : stkErr ss = 0
  rotate_left
  · have hE : byE ss cs = stkErr ss := by unfold byE; rw [if_pos e1]
    rw [hS, hE, if_neg e1]
    refine ACalls.of (n := Try.f6.ntmps) XX_ok Try.func6 rfl (by kernel_rfl) rfl rfl (Nat.le_of_ble_eq_true rfl) ?_
    (repeat' (first | refine Zs ?_ | refine Zk ?_ | ((first | refine Za ?_ | refine Zr ?_ | refine Zp ?_ | refine Ze ?_ | refine Zd ?_ | refine Zn ?_ | refine Zc ?_ | refine UnK.mk (fun b hb => ?_) | refine Zy h1 ?_); conv => whnf) | (refine Zb (fun h => ?_) (fun h => ?_) <;> first | exact Zx | (conv => whnf))))
    all_goals first | exact Zrz | (exfalso; omega)
  rw [e1] at h1
  by_cases e2 : chErr cs = 0
  rotate_left
  · have hE : byE ss cs = chErr cs := by unfold byE; rw [if_neg (by simpa using e1), if_pos e2]
    rw [hS, hE, if_neg e2]
    refine ACalls.of (n := Try.f6.ntmps) XX_ok Try.func6 rfl (by kernel_rfl) rfl rfl (Nat.le_of_ble_eq_true rfl) ?_
    (repeat' (first | refine Zs ?_ | refine Zk ?_ | ((first | refine Za ?_ | refine Zr ?_ | refine Zp ?_ | refine Ze ?_ | refine Zd ?_ | refine Zn ?_ | refine Zc ?_ | refine UnK.mk (fun b hb => ?_) | refine Zy h1 ?_ | refine Zy h2 ?_); conv => whnf) | (refine Zb (fun h => ?_) (fun h => ?_) <;> first | exact Zx | (conv => whnf))))
    all_goals first | exact Zrz | (exfalso; omega)
  rw [e2] at h2
  have hO := stkErr_ok e1
  obtain ⟨c1, c2, c3⟩ := chErr_len e2
  have hE : byE ss cs = orL (ss.map fun x => dutE cs x.us) := by unfold byE; rw [if_neg (by simpa using e1), if_neg (by simpa using e2)]
  have hlen := hO.len
  have hdl := dusL_len ss cs
  refine ACalls.of (n := Try.f6.ntmps) XX_ok Try.func6 rfl (by kernel_rfl) rfl rfl (Nat.le_of_ble_eq_true rfl) ?_
  (repeat' (first | refine Zs ?_ | refine Zk ?_ | ((first | refine Za ?_ | refine Zr ?_ | refine Zp ?_ | refine Ze ?_ | refine Zd ?_ | refine Zn ?_ | refine Zc ?_ | refine UnK.mk (fun b hb => ?_) | refine Zy h1 ?_ | refine Zy h2 ?_); conv => whnf) | (refine Zb (fun h => ?_) (fun h => ?_) <;> first | exact Zx | (conv => whnf))))
  all_goals first | (exfalso; omega) | skip
  refine (W.loopK (ι := Nat) [1, 8, 26, 27] [] (fun k => [(28, iA k)]) (fun k => [(25, .row 34 2 ss.length (rowF duE (fillD (dusL ss cs) k)))]) (fun k => k ≤ ss.length ∧ ∀ i, i < k → dutE cs (ss.getD i default).us = 0) (fun k => ss.length - k) 0 ⟨Nat.zero_le _, fun i hi => absurd hi (by omega)⟩ ?_ ?_ ?_)
  · exact Yz
  · (repeat' (first | exact trivial | exact Yr | exact Yi (by first | rfl | omega) | exact Yo (by first | rfl | omega) | exact Yd | exact Yn | exact Ye (by first | rfl | omega) | exact ⟨_, rfl, Yf, rfl⟩ | refine ⟨_, rfl, Yb ?_, rfl⟩ | refine ⟨_, rfl, Yw (by first | rfl | omega) ?_, rfl⟩ | refine And.intro ?_ ?_))
    intro i hi j hj
    unfold rowF
    rw [fillD_at _ _ (by omega), if_neg (by omega)]
    rcases j with _ | _ | j
    · exact Dle.refl _
    · exact Dle.refl _
    · omega
  conv => whnf
  intro k ⟨hk, hz⟩
  by_cases hk' : k < ss.length
  · have hd := sum_t (ss.getD k default).us cs (hO.us _ (getD_in hk')) c1 c3
    by_cases hx : dutE cs (ss.getD k default).us = 0
    · rw [hx, if_pos rfl] at hd
      (repeat' (first | refine Zs ?_ | refine Zk ?_ | ((first | refine Za ?_ | refine Zr ?_ | refine Zp ?_ | refine Ze ?_ | refine Zd ?_ | refine Zn ?_ | refine Zc ?_ | refine UnK.mk (fun b hb => ?_)); conv => whnf) | (refine Zb (fun h => ?_) (fun h => ?_) <;> first | exact Zx | (conv => whnf))))
      all_goals (try dsimp only [Int.toNat_natCast] at *)
      (repeat' (first | refine Zs ?_ | refine Zk ?_ | ((first | refine Za ?_ | refine Zr ?_ | refine Zp ?_ | refine Ze ?_ | refine Zd ?_ | refine Zn ?_ | refine Zc ?_ | refine UnK.mk (fun b hb => ?_) | refine Zy hd ?_); conv => whnf) | (refine Zb (fun h => ?_) (fun h => ?_) <;> first | exact Zx | (conv => whnf))))
      all_goals first | (exfalso; omega) | skip
      refine ⟨k + 1, ⟨by omega, fun i hi => ?_⟩, by omega, ?_, ?_, ?_, ?_⟩
      · by_cases hik : i = k
        · subst hik; exact hx
        · exact hz i (by omega)
      all_goals (repeat' (first | exact trivial | exact Yr | exact Yi (by first | rfl | omega) | exact Yo (by first | rfl | omega) | exact Yd | exact Yn | exact Ye (by first | rfl | omega) | exact ⟨_, rfl, Yf, rfl⟩ | refine ⟨_, rfl, Yb ?_, rfl⟩ | refine ⟨_, rfl, Yw (by first | rfl | omega) ?_, rfl⟩ | refine And.intro ?_ ?_))
      simp only [Nat.zero_add, Int.toNat_natCast]
      exact fillD_set hdl.symm (dusL_at hk')
    · rw [if_neg hx] at hd
      have hE' := hE.trans (orD_at hk' hz hx)
      have hB : byL ss cs = [] := by rw [hS, hE', if_neg hx]
      rw [hB, hE']
      (repeat' (first | refine Zs ?_ | refine Zk ?_ | ((first | refine Za ?_ | refine Zr ?_ | refine Zp ?_ | refine Ze ?_ | refine Zd ?_ | refine Zn ?_ | refine Zc ?_ | refine UnK.mk (fun b hb => ?_)); conv => whnf) | (refine Zb (fun h => ?_) (fun h => ?_) <;> first | exact Zx | (conv => whnf))))
      all_goals (try dsimp only [Int.toNat_natCast] at *)
      (repeat' (first | refine Zs ?_ | refine Zk ?_ | ((first | refine Za ?_ | refine Zr ?_ | refine Zp ?_ | refine Ze ?_ | refine Zd ?_ | refine Zn ?_ | refine Zc ?_ | refine UnK.mk (fun b hb => ?_) | refine Zy hd ?_); conv => whnf) | (refine Zb (fun h => ?_) (fun h => ?_) <;> first | exact Zx | (conv => whnf))))
      all_goals first | exact Zrz | (exfalso; omega)
  · obtain rfl : k = ss.length := by omega
    have hE' := hE.trans (orD_none hz)
    have hB : byL ss cs = dusL ss cs := by rw [hS, hE', if_pos rfl]
    rw [hB, hE', ← hdl, fillD_full]
    (repeat' (first | refine Zs ?_ | refine Zk ?_ | ((first | refine Za ?_ | refine Zr ?_ | refine Zp ?_ | refine Ze ?_ | refine Zd ?_ | refine Zn ?_ | refine Zc ?_ | refine UnK.mk (fun b hb => ?_)); conv => whnf) | (refine Zb (fun h => ?_) (fun h => ?_) <;> first | exact Zx | (conv => whnf))))
    all_goals exact Zrz
end Go.Proofs.Ytfinilnaofbkkaa

namespace Go.Proofs.Ytfinilnaofbkkaa
open Go Go.RowKit
set_option linter.unusedVariables false
set_option linter.unusedSimpArgs false
set_option maxRecDepth 100000
set_option maxHeartbeats 4000000
attribute [local irreducible] ResLe AVle ArgLe ArgP EntLe Dle ResH ArgQ

def chgM (cs : List Ch) (L : List Int) (k : Nat) : List Ch := (List.range cs.length).map fun i => if i < k then chgX cs L i else cs.getD i default
theorem chgM_at (cs : List Ch) (L : List Int) (k : Nat) {i : Nat} (h : i < cs.length) : (chgM cs L k).getD i default = if i < k then chgX cs L i else cs.getD i default := by simp [chgM, h]
theorem chgM_full (cs : List Ch) (L : List Int) : chgM cs L cs.length = chgL cs L := List.map_congr_left fun i hi => if_pos (List.mem_range.1 hi)
theorem chgM_zero (cs : List Ch) (L : List Int) : chgM cs L 0 = cs := by
  have : chgM cs L 0 = (List.range cs.length).map fun i => cs.getD i default := List.map_congr_left fun i hi => if_neg (by omega)
  rw [this, range_getD]
theorem chgM_set {cs : List Ch} {L : List Int} {k : Nat} (hk : k < cs.length) {v : Int} (hv : sx L (itN L k) 1000 1000000000001 = v) : ∀ i, i < cs.length → ∀ j, j < 3 → Dle (setF (rowF chE (chgM cs L k)) k 2 [.val (.int .i64 v)] i j) (rowF chE (chgM cs L (k + 1)) i j) := by
  intro i hi j hj
  rw [setF_eq]
  unfold rowF
  rw [chgM_at cs L (k + 1) hi, chgM_at cs L k hi]
  split
  · rename_i hc
    obtain ⟨rfl, h1, h2⟩ := hc
    have h2 : j < 2 + 1 := h2
    rw [if_pos (by omega)]
    obtain rfl : j = 2 := by omega
    rw [← hv]
    exact Dle.refl _
  · rename_i hc
    by_cases hik : i = k
    · subst hik
      have hj2 : j < 2 := by
        rcases Nat.lt_or_ge j 2 with h | h
        · exact h
        · exact absurd ⟨rfl, h, by show j < 2 + 1; omega⟩ hc
      rw [if_neg (by omega), if_pos (by omega)]
      rcases j with _ | _ | j
      · exact Dle.refl _
      · exact Dle.refl _
      · omega
    · by_cases h : i < k
      · rw [if_pos h, if_pos (by omega)]
        exact Dle.refl _
      · rw [if_neg h, if_neg (by omega)]
        exact Dle.refl _
theorem charged_t (ss : List Lt) (cs : List Ch) (f : Int) (L : List Int) (hL : L.length ≤ 9223372036854775807) (hc : cs.length ≤ 1000) : ACalls XX 5 [esA ss cs f, .dat (ilst L)] (.dat (chD (chgL cs L))) := by
  refine ACalls.of (n := Try.f5.ntmps) XX_ok Try.func5 rfl (by kernel_rfl) rfl rfl (Nat.le_of_ble_eq_true rfl) ?_
  (repeat' (first | refine Zs ?_ | refine Zk ?_ | ((first | refine Za ?_ | refine Zr ?_ | refine Zp ?_ | refine Ze ?_ | refine Zd ?_ | refine Zn ?_ | refine Zc ?_ | refine UnK.mk (fun b hb => ?_)); conv => whnf) | (refine Zb (fun h => ?_) (fun h => ?_) <;> first | exact Zx | (conv => whnf))))
  refine (W.loopK (ι := Nat) [5] [] (fun k => [(7, iA k), (6, .own 11 3 0 cs.length)]) (fun k => [(10, srcE L (itN L k)), (11, .row 39 3 cs.length (rowF chE (chgM cs L k)))]) (fun k => k ≤ cs.length) (fun k => cs.length - k) 0 (Nat.zero_le _) ?_ ?_ ?_)
  · (repeat' (first | exact trivial | exact Yr | exact Yi (by first | rfl | (simp; done) | omega) | exact Yo (by first | rfl | (simp; done) | omega) | exact Yd | exact Yn | exact Ye (by first | rfl | (simp; done) | omega) | exact ⟨_, rfl, Yf, rfl⟩ | refine ⟨_, rfl, Yb ?_, rfl⟩ | refine ⟨_, rfl, Yw (by first | rfl | (simp; done) | omega) ?_, rfl⟩ | refine And.intro ?_ ?_))
  · (repeat' (first | exact trivial | exact Yr | exact Yi (by first | rfl | (simp; done) | omega) | exact Yo (by first | rfl | (simp; done) | omega) | exact Yd | exact Yn | exact Ye (by first | rfl | (simp; done) | omega) | exact ⟨_, rfl, Yf, rfl⟩ | refine ⟨_, rfl, Yb ?_, rfl⟩ | refine ⟨_, rfl, Yw (by first | rfl | (simp; done) | omega) ?_, rfl⟩ | refine And.intro ?_ ?_))
    rw [chgM_zero]
    exact (RowIs.cat (RowIs.nil chE 3 0 (fun _ _ => .val undef) rfl) (RowIs.refl chE 3 cs)).le
  conv => whnf
  intro k hk
  by_cases hk' : k < cs.length
  · have hi := itN_le L k
    have h1 := small_h L (itN L k) 1000 1000000000001 hL (by omega) (by omega) (by omega) (by omega)
    (repeat' (first | refine Zs ?_ | refine Zk ?_ | ((first | refine Za ?_ | refine Zr ?_ | refine Zp ?_ | refine Ze ?_ | refine Zd ?_ | refine Zn ?_ | refine Zc ?_ | refine UnK.mk (fun b hb => ?_) | refine ExCall.h [(5000, 10)] rfl h1 rfl ⟨rfl, trivial⟩ ?_); conv => whnf) | (refine Zb (fun h => ?_) (fun h => ?_) <;> first | exact Zx | (conv => whnf))))
    all_goals first | (exfalso; omega) | skip
    refine ⟨k + 1, by omega, by omega, ?_, ?_, ?_, ?_⟩
    all_goals (repeat' (first | exact trivial | exact Yr | exact Yi (by first | rfl | omega) | exact Yo (by first | rfl | omega) | exact Yd | exact Yn | exact Ye (by first | rfl | omega) | exact ⟨_, rfl, Yf, rfl⟩ | refine ⟨_, rfl, Yb ?_, rfl⟩ | refine ⟨_, rfl, Yw (by first | rfl | omega) ?_, rfl⟩ | refine And.intro ?_ ?_))
    simp only [Nat.zero_add, Int.toNat_natCast]
    exact chgM_set hk' rfl
  · obtain rfl : k = cs.length := by omega
    rw [chgM_full]
    (repeat' (first | refine Zs ?_ | refine Zk ?_ | ((first | refine Za ?_ | refine Zr ?_ | refine Zp ?_ | refine Ze ?_ | refine Zd ?_ | refine Zn ?_ | refine Zc ?_ | refine UnK.mk (fun b hb => ?_)); conv => whnf) | (refine Zb (fun h => ?_) (fun h => ?_) <;> first | exact Zx | (conv => whnf))))
    refine RowIs.res (enc := chE) (us := chgL cs L) rfl ⟨(chgL_len _ _).symm, fun _ _ _ _ => Dle.refl _⟩ rfl
def nW (ss : List Lt) : Nat → Int
  | 0 => 0
  | k + 1 => IntKind.i64.wrap (nW ss k + ((ss.getD k default).us.length : Int))
def lightW (ss : List Lt) : Prop := ∀ i, i < ss.length → i < 80 ∧ nW ss (i + 1) ≤ 300
noncomputable instance (ss : List Lt) : Decidable (lightW ss) := Classical.propDecidable _
structure Lc where
  l : Int
  b : Int
  a : Int
  deriving Inhabited
end Go.Proofs.Ytfinilnaofbkkaa
