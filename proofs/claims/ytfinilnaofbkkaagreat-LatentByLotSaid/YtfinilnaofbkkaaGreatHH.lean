/- What the lots of a stock bear: the duties add up; the pieces of a source follow one another. What the lots of a stock bear, the pieces of a source, what changes: of the package and of the reference. Amounts given to the sources of an estate; lists of dues compared; what changes. -/
import Derived.Test.YtfinilnaofbkkaaGreatF1
import Derived.Test.YtfinilnaofbkkaaGreatSL
import Derived.Test.YtfinilnaofbkkaaGreatSM

namespace Go.Proofs.YtfinilnaofbkkaaGreat
open Go Go.RowKit
set_option linter.unusedVariables false
set_option linter.unusedSimpArgs false
set_option maxRecDepth 100000

structure Brd (ss : List Lt) (cs : List Ch) : Prop where
  stk : StkOk ss
  h13 : ∀ x ∈ ss, x.p ≠ 13
  cov : (unitsL ss).Perm (chU cs)
  asc : cs.Pairwise fun a b => a.m < b.m
  ok : ∀ c ∈ cs, chOk c
  len : cs.length ≤ 64
theorem ascC_of {cs : List Ch} (h : cs.Pairwise fun a b => a.m < b.m) : ascC cs := fun i hi => by
  have := List.pairwise_iff_getElem.1 h i (i + 1) (by omega) hi (by omega)
  rwa [getD_of, getD_of]
theorem chOf_mem {cs : List Ch} (h : cs.Pairwise fun a b => a.m < b.m) {c : Ch} (hc : c ∈ cs) : hadC cs c.m ∧ chOf cs c.m = c := by
  have hh : hadC cs c.m := ⟨c, hc, rfl⟩
  obtain ⟨h1, h2⟩ := (loC_parts (t := c.m) (ascC_of h)).2 hh
  refine ⟨hh, ?_⟩
  unfold chOf
  rw [getD_of h1] at h2 ⊢
  obtain ⟨j, hj, e⟩ := List.getElem_of_mem hc
  have hp := List.pairwise_iff_getElem.1 h
  rcases Nat.lt_trichotomy (loC cs c.m) j with hij | hij | hij
  · have := hp _ j h1 hj hij; rw [e] at this; omega
  · subst hij; exact e
  · have := hp j _ hj h1 hij; rw [e] at this; omega
theorem Brd.src {ss : List Lt} {cs : List Ch} (h : Brd ss cs) {x : Lt} (hx : x ∈ ss) {s : Sl} (hs : s ∈ x.us) : ∃ c ∈ cs, s.m = c.m ∧ s.e ≤ c.u := by
  have hok := (h.stk.ok x hx).2.2.2.2 s hs
  unfold slOk at hok
  have hm : (s.m, s.e - 1) ∈ unitsL ss := mem_unitsL.2 ⟨x, hx, h.h13 x hx, mem_expand.2 ⟨s, hs, rfl, by omega, by omega⟩⟩
  obtain ⟨c, hc, hm⟩ := List.mem_flatMap.1 (h.cov.mem_iff.1 hm)
  obtain ⟨e1, e2, e3⟩ := mem_units.1 hm
  exact ⟨c, hc, e1, by show s.e ≤ c.u; have : s.e - 1 < c.u := e3; omega⟩
theorem Brd.step {ss : List Lt} {cs : List Ch} (h : Brd ss cs) {x : Lt} (hx : x ∈ ss) {s : Sl} (hs : s ∈ x.us) : stepE cs s = 0 := by
  obtain ⟨c, hc, e1, e2⟩ := h.src hx hs
  obtain ⟨k1, k2⟩ := chOf_mem h.asc hc
  have hok := (h.stk.ok x hx).2.2.2.2 s hs
  have hco := h.ok c hc
  unfold slOk at hok
  unfold chOk at hco
  unfold stepE
  rw [e1, if_neg (fun hn => hn k1), k2, if_pos]
  unfold porOk
  exact ⟨hco.2.2.2, hco.2.2.1, by omega, by omega, e2⟩
theorem Brd.dut {ss : List Lt} {cs : List Ch} (h : Brd ss cs) {x : Lt} (hx : x ∈ ss) : dutE cs x.us = 0 := dutE_none fun i hi => h.step hx (getD_in hi)
theorem Brd.chs {ss : List Lt} {cs : List Ch} (h : Brd ss cs) : chErr cs = 0 := by
  have h1 := h.ok
  have h2 := ascC_of h.asc
  unfold chErr
  rw [if_neg (by have := h.len; omega), if_neg (fun hn => hn h1), if_neg (fun hn => hn h2)]
def wU (cs : List Ch) (p : Int × Int) : Int := porI (chOf cs p.1).a (chOf cs p.1).u p.2 (p.2 + 1)
theorem sum_range_tel (f : Int → Int) (s : Int) : ∀ n : Nat, ((List.range n).map fun (i : Nat) => f (s + i + 1) - f (s + i)).sum = f (s + n) - f s
  | 0 => by simp
  | n + 1 => by
    rw [List.range_succ, List.map_append, List.sum_append, sum_range_tel f s n]
    simp only [List.map_cons, List.map_nil, List.sum_cons, List.sum_nil]
    push_cast
    rw [show s + ((n : Int) + 1) = s + n + 1 by omega]
    omega
theorem sum_unit {cs : List Ch} {s : Sl} (h : s.s ≤ s.e) : ((unitsOf s).map (wU cs)).sum = stepV cs s := by
  unfold unitsOf
  rw [List.map_map]
  have := sum_range_tel (fun k => (chOf cs s.m).a * k / (chOf cs s.m).u) s.s (s.e - s.s).toNat
  rw [show s.s + ((s.e - s.s).toNat : Int) = s.e by omega] at this
  unfold stepV porI
  rw [← this]
  rfl
theorem sum_expand {cs : List Ch} : ∀ {us : List Sl}, (∀ s ∈ us, s.s ≤ s.e) → ((expand us).map (wU cs)).sum = dutV cs us
  | [], _ => rfl
  | s :: l, h => by
    rw [expand_cons, List.map_append, List.sum_append, sum_unit (h s (by simp)), sum_expand fun y hy => h y (by simp [hy])]
    unfold dutV
    simp
theorem sum_lots {cs : List Ch} : ∀ {l : List Lt}, (∀ x ∈ l, ∀ s ∈ x.us, s.s ≤ s.e) → ((l.flatMap fun x => expand x.us).map (wU cs)).sum = (l.map fun x => dutV cs x.us).sum
  | [], _ => rfl
  | x :: l, h => by
    rw [List.flatMap_cons, List.map_append, List.sum_append, sum_expand (h x (by simp)), sum_lots fun y hy => h y (by simp [hy])]
    simp
theorem sum_chs {cs : List Ch} : ∀ {l : List Ch}, (∀ c ∈ l, chOf cs c.m = c ∧ 1 ≤ c.u) → ((chU l).map (wU cs)).sum = (l.map Ch.a).sum
  | [], _ => rfl
  | c :: l, h => by
    have ih := sum_chs (cs := cs) (l := l) fun y hy => h y (by simp [hy])
    have h0 := h c (by simp)
    unfold chU at ih ⊢
    rw [List.flatMap_cons, List.map_append, List.sum_append, ih, sum_unit (by show (0 : Int) ≤ c.u; omega)]
    have e : stepV cs ⟨c.m, 0, c.u⟩ = c.a := by
      unfold stepV porI
      show (chOf cs c.m).a * c.u / (chOf cs c.m).u - (chOf cs c.m).a * 0 / (chOf cs c.m).u = c.a
      rw [h0.1, Int.mul_ediv_cancel _ (by omega), Int.mul_zero, Int.zero_ediv]
      omega
    rw [e]
    simp
theorem Brd.all {ss : List Lt} {cs : List Ch} (h : Brd ss cs) : (ss.map fun x => dutV cs x.us).sum = (cs.map Ch.a).sum := by
  have h1 := perm_sum (h.cov.map (wU cs))
  rw [sum_chs (fun c hc => ⟨(chOf_mem h.asc hc).2, by have := (h.ok c hc).2.2.1; unfold unOk at this; omega⟩), unitsL_all h.h13, sum_lots (fun x hx s hs => slOk_le (h.stk.ok x hx).2.2.2.2 s hs)] at h1
  exact h1
theorem stepV_nn {cs : List Ch} {s : Sl} (h : stepE cs s = 0) : 0 ≤ stepV cs s := by
  unfold stepE at h
  split at h
  · cases h
  split at h
  · rename_i h1 h2
    obtain ⟨a1, a2, a3, a4, a5⟩ := h2
    unfold amOk at a1
    unfold unOk at a2
    unfold stepV porI
    have := Int.ediv_le_ediv (c := (chOf cs s.m).u) (by omega) (Int.mul_le_mul_of_nonneg_left a4 a1.1)
    omega
  · cases h
theorem sum_nn {l : List Int} (h : ∀ x ∈ l, 0 ≤ x) : 0 ≤ l.sum := by
  induction l with
  | nil => simp
  | cons a l ih =>
    have h1 := h a (by simp)
    have h2 := ih fun y hy => h y (by simp [hy])
    rw [List.sum_cons]
    omega
theorem Brd.nn {ss : List Lt} {cs : List Ch} (h : Brd ss cs) {x : Lt} (hx : x ∈ ss) : 0 ≤ dutV cs x.us := by
  unfold dutV
  refine sum_nn fun y hy => ?_
  obtain ⟨s, hs, rfl⟩ := List.mem_map.1 hy
  exact stepV_nn (h.step hx hs)

def itN (L : List Int) : Nat → Nat
  | 0 => 0
  | k + 1 => ni L (ni L (itN L k))
theorem itN_le (L : List Int) : ∀ k, itN L k ≤ L.length
  | 0 => Nat.zero_le _
  | k + 1 => (ni_le L _ (ni_le L _ (itN_le L k)).2.1).2.1
def chgX (cs : List Ch) (L : List Int) (k : Nat) : Ch := ⟨(cs.getD k default).m, (cs.getD k default).u, sx L (itN L k) 1000 1000000000001⟩
def chgL (cs : List Ch) (L : List Int) : List Ch := (List.range cs.length).map (chgX cs L)
theorem chgL_len (cs : List Ch) (L : List Int) : (chgL cs L).length = cs.length := by simp [chgL]
theorem chU_chg (cs : List Ch) (L : List Int) : chU (chgL cs L) = chU cs := by
  unfold chU
  conv => rhs; rw [← range_getD cs]
  unfold chgL
  rw [List.flatMap_map, List.flatMap_map]
  rfl
theorem est_brd {ss : List Lt} {cs : List Ch} {f : Int} (h : EstOk ss cs f) (hf : f ≤ 1000) (hc : cs.length ≤ 64) (L : List Int) : Brd ss (chgL cs L) := by
  refine ⟨h.stk, fun x hx => (h.id x hx).2, by rw [chU_chg]; exact h.cov, ?_, fun c hm => ?_, by rw [chgL_len]; exact hc⟩
  · unfold chgL
    rw [List.pairwise_map]
    refine List.pairwise_iff_getElem.2 fun i j hi hj hij => ?_
    simp only [List.getElem_range, List.length_range] at hi hj ⊢
    have := List.pairwise_iff_getElem.1 h.chs i j hi hj hij
    unfold chgX
    rw [getD_of hi, getD_of hj]
    exact this
  · unfold chgL at hm
    obtain ⟨k, hk, rfl⟩ := List.mem_map.1 hm
    have hk := List.mem_range.1 hk
    have h1 := h.chr _ (getD_in hk)
    have h2 := sx_rng L (itN L k) (few := 1000) (n := 1000000000001) (by omega) (by omega)
    unfold chOk unOk amOk chgX
    dsimp only
    omega

structure Pc where
  l : Int
  s : Int
  e : Int
  deriving Inhabited
abbrev pcA (x : Pc) : AV := .agg [iA x.l, iA x.s, iA x.e]
def pcE (x : Pc) (j : Nat) : D := match j with
  | 0 => .val (.int .i64 x.l)
  | 1 => .val (.int .i64 x.s)
  | _ => .val (.int .i64 x.e)
abbrev pcD (us : List Pc) : D := .lst 3 us.length (rowF pcE us)
def pcX (src id : Int) (us : List Sl) : List Pc := (ofS us src).map fun s => ⟨id, s.s, s.e⟩
def pcL (ss : List Lt) (src : Int) : List Pc := ss.flatMap fun x => pcX src x.id x.us
theorem pcL_snoc (ss : List Lt) (src : Int) (k : Nat) (h : k < ss.length) : pcL (ss.take (k + 1)) src = pcL (ss.take k) src ++ pcX src (ss.getD k default).id (ss.getD k default).us := by
  unfold pcL
  rw [take_snoc ss k h, List.flatMap_append]
  simp
theorem pcX_snoc (src id : Int) (us : List Sl) (i : Nat) (h : i < us.length) : pcX src id (us.take (i + 1)) = if (us.getD i default).m = src then pcX src id (us.take i) ++ [⟨id, (us.getD i default).s, (us.getD i default).e⟩] else pcX src id (us.take i) := by
  unfold pcX
  rw [ofS_snoc us src i h]
  split
  · rw [List.map_append]; rfl
  · rfl
def pcCf (x y : Pc) : Int := orL [cmpI x.s y.s, cmpI x.l y.l]
def pcLt (x y : Pc) : Prop := x.s < y.s ∨ (x.s = y.s ∧ x.l < y.l)
instance (x y : Pc) : Decidable (pcLt x y) := by unfold pcLt; exact inferInstance
theorem orL_two (p q : Int) : orL [p, q] = if p ≠ 0 then p else q := by
  unfold orL
  by_cases hp : p = 0
  · subst hp
    by_cases hq : q = 0
    · subst hq; rfl
    · simp [hq]
  · simp [hp]
theorem pcCf_lt (x y : Pc) : pcCf x y < 0 ↔ pcLt x y := by
  unfold pcCf pcLt
  rw [orL_two]
  have h1 := cmpI_lt x.s y.s
  have h2 := cmpI_lt x.l y.l
  have h3 := cmpI_ne x.s y.s
  split <;> omega
def cfQ (us : List Pc) (i j : Nat) : Int := pcCf (us.getD i default) (us.getD j default)
theorem cfQ_swo (us : List Pc) : Go.Sort.SWO (ltOf (cfQ us)) := by
  refine ⟨fun x => ?_, fun x y z => ?_, fun x y z => ?_⟩ <;> unfold ltOf cfQ <;> simp only [pcCf_lt, pcLt, decide_eq_true_eq, decide_eq_false_iff_not] <;> omega
def sortPc (us : List Pc) : List Pc := (List.range us.length).map fun i => us.getD (sortAt us.length (cfQ us) i) default
theorem sortPc_len (us : List Pc) : (sortPc us).length = us.length := by simp [sortPc]
theorem sortPc_perm (us : List Pc) : (sortPc us).Perm us := by
  have h := (sortAt_perm (n := us.length) (cfQ_swo us)).map fun i => us.getD i default
  rw [List.map_map, range_getD] at h
  exact h
theorem sortPc_le (us : List Pc) : (sortPc us).Pairwise fun a b => ¬ pcLt b a := by
  unfold sortPc
  rw [List.pairwise_map]
  refine List.pairwise_iff_getElem.2 fun i j hi hj hij => ?_
  simp only [List.getElem_range, List.length_range] at hi hj ⊢
  have h : ¬ pcCf (us.getD (sortAt us.length (cfQ us) j) default) (us.getD (sortAt us.length (cfQ us) i) default) < 0 := sortAt_le (cfQ_swo us) hij hj
  rwa [pcCf_lt] at h
theorem sortPc_unique {us vs : List Pc} (hp : us.Perm vs) (hs : vs.Pairwise pcLt) : sortPc us = vs := by
  have hle : vs.Pairwise fun a b => ¬ pcLt b a := hs.imp fun h => by unfold pcLt at *; omega
  refine List.Perm.eq_of_pairwise (le := fun a b : Pc => ¬ pcLt b a) (fun a b ha hb h1 h2 => ?_) (sortPc_le us) hle ((sortPc_perm us).trans hp)
  have ha' : a ∈ vs := hp.mem_iff.1 ((sortPc_perm us).mem_iff.1 ha)
  obtain ⟨i, hi, rfl⟩ := List.getElem_of_mem ha'
  obtain ⟨j, hj, rfl⟩ := List.getElem_of_mem hb
  have hq := List.pairwise_iff_getElem.1 hs
  rcases Nat.lt_trichotomy i j with h | h | h
  · exact absurd (hq i j hi hj h) h2
  · subst h; rfl
  · exact absurd (hq j i hj hi h) h1
def insPc (ss : List Pc) (x : Pc) : List Pc := ss.takeWhile (fun y => decide (pcLt y x)) ++ x :: ss.dropWhile (fun y => decide (pcLt y x))
theorem insPc_perm (ss : List Pc) (x : Pc) : (insPc ss x).Perm (x :: ss) := by
  unfold insPc
  refine List.perm_middle.trans ?_
  rw [List.takeWhile_append_dropWhile]
def apartK (x y : Pc) : Prop := x.s ≠ y.s ∨ x.l ≠ y.l
theorem insPc_asc : ∀ {ss : List Pc} {x : Pc}, ss.Pairwise pcLt → (∀ y ∈ ss, apartK y x) → (insPc ss x).Pairwise pcLt
  | [], x, _, _ => List.pairwise_singleton ..
  | y :: l, x, h, hx => by
    obtain ⟨h1, h2⟩ := List.pairwise_cons.1 h
    have hy := hx y (by simp)
    by_cases hc : pcLt y x
    · have e : insPc (y :: l) x = y :: insPc l x := by
        unfold insPc
        rw [List.takeWhile_cons_of_pos (by simpa using hc), List.dropWhile_cons_of_pos (by simpa using hc)]
        rfl
      rw [e]
      refine List.pairwise_cons.2 ⟨fun z hz => ?_, insPc_asc h2 fun z hz => hx z (by simp [hz])⟩
      rcases List.mem_cons.1 ((insPc_perm l x).mem_iff.1 hz) with rfl | hz
      · exact hc
      · exact h1 z hz
    · have e : insPc (y :: l) x = x :: y :: l := by
        unfold insPc
        rw [List.takeWhile_cons_of_neg (by simpa using hc), List.dropWhile_cons_of_neg (by simpa using hc)]
        rfl
      rw [e]
      have hxy : pcLt x y := by unfold pcLt apartK at *; omega
      refine List.pairwise_cons.2 ⟨fun z hz => ?_, h⟩
      rcases List.mem_cons.1 hz with rfl | hz
      · exact hxy
      · have := h1 z hz; unfold pcLt at *; omega
theorem insPc_at {ss : List Pc} {x : Pc} {k : Nat} (hk : k ≤ ss.length) (hz : ∀ i, i < k → pcLt (ss.getD i default) x) (hv : k < ss.length → ¬ pcLt (ss.getD k default) x) : insPc ss x = ss.take k ++ x :: ss.drop k := by
  have e : ss.takeWhile (fun y => decide (pcLt y x)) = ss.take k := by
    induction ss generalizing k with
    | nil => simp
    | cons a l ih =>
      cases k with
      | zero =>
        have := hv (by simp)
        rw [List.takeWhile_cons_of_neg (by simpa using this), List.take_zero]
      | succ k =>
        have h0 : pcLt a x := by simpa using hz 0 (by omega)
        rw [List.takeWhile_cons_of_pos (by simpa using h0), List.take_succ_cons, ih (k := k) (by simpa using hk) (fun i hi => by simpa using hz (i + 1) (by omega)) (fun hi => by simpa using hv (by simpa using hi))]
  have e2 : ss.dropWhile (fun y => decide (pcLt y x)) = ss.drop k := by
    have h1 := List.takeWhile_append_dropWhile (p := fun y : Pc => decide (pcLt y x)) (l := ss)
    rw [e] at h1
    exact List.append_cancel_left (h1.trans (List.take_append_drop k ss).symm)
  unfold insPc
  rw [e, e2]
def putPc (l : List Pc) : List Pc := l.foldl insPc []
theorem putPc_aux : ∀ (ls ss : List Pc), (ls.foldl insPc ss).Perm (ss ++ ls) ∧ (ss.Pairwise pcLt → (ss ++ ls).Pairwise apartK → (ls.foldl insPc ss).Pairwise pcLt)
  | [], ss => by
    refine ⟨by simp, fun h _ => h⟩
  | x :: ls, ss => by
    obtain ⟨h1, h2⟩ := putPc_aux ls (insPc ss x)
    rw [List.foldl_cons]
    refine ⟨h1.trans (((insPc_perm ss x).append_right ls).trans List.perm_middle.symm), fun ha hp => h2 (insPc_asc ha fun y hy => ?_) ?_⟩
    · exact (List.pairwise_append.1 hp).2.2 y hy x (by simp)
    · have hsym : ∀ {a b : Pc}, apartK a b → apartK b a := fun h => by unfold apartK at *; omega
      exact (List.Perm.pairwise_iff hsym (((insPc_perm ss x).append_right ls).trans List.perm_middle.symm)).2 hp
theorem sort_put {l : List Pc} (h : l.Pairwise apartK) : sortPc l = putPc l := by
  obtain ⟨h1, h2⟩ := putPc_aux l []
  rw [List.nil_append] at h1 h2
  exact sortPc_unique h1.symm (h2 List.Pairwise.nil h)
theorem pcX_apart (src id : Int) {us : List Sl} (h : ∀ s ∈ us, s.s < s.e) (hn : (expand us).Nodup) : (pcX src id us).Pairwise apartK := by
  unfold pcX ofS
  rw [List.pairwise_map]
  have hp : us.Pairwise fun a b => ¬ (a.m = b.m ∧ a.s = b.s) := by
    induction us with
    | nil => exact List.Pairwise.nil
    | cons x l ih =>
      rw [expand_cons, List.nodup_append] at hn
      refine List.pairwise_cons.2 ⟨fun y hy ⟨e1, e2⟩ => ?_, ih (fun s hs => h s (by simp [hs])) hn.2.1⟩
      have hx := h x (by simp)
      have hy' := h y (by simp [hy])
      have m1 : (x.m, x.s) ∈ unitsOf x := mem_units.2 ⟨rfl, by omega, hx⟩
      have m2 : (x.m, x.s) ∈ expand l := mem_expand.2 ⟨y, hy, e1, by omega, by omega⟩
      exact hn.2.2 _ m1 _ m2 rfl
  have hf := hp.filter fun s => decide (s.m = src)
  refine List.Pairwise.imp_of_mem (fun {a b} ha hb hab => ?_) hf
  have e1 : a.m = src := by simpa using (List.mem_filter.1 ha).2
  have e2 : b.m = src := by simpa using (List.mem_filter.1 hb).2
  unfold apartK
  dsimp only
  omega
theorem pcX_id {src id : Int} {us : List Sl} {p : Pc} (h : p ∈ pcX src id us) : p.l = id ∧ ∃ s ∈ us, s.m = src ∧ s.s = p.s ∧ s.e = p.e := by
  unfold pcX ofS at h
  obtain ⟨s, hs, rfl⟩ := List.mem_map.1 h
  have := List.mem_filter.1 hs
  exact ⟨rfl, s, this.1, by simpa using this.2, rfl, rfl⟩
theorem pcL_apart {ss : List Lt} (h : StkOk ss) (src : Int) : (pcL ss src).Pairwise apartK := by
  have hn := (reps_nodup h.ok).1 h.rep
  have hx : ∀ x ∈ ss, (pcX src x.id x.us).Pairwise apartK := fun x hx => pcX_apart src x.id (slOk_lt (h.ok x hx).2.2.2.2) (hn.1 x hx)
  have ha := asc_of h.asc
  unfold pcL
  generalize ss = l at hx ha
  induction l with
  | nil => exact List.Pairwise.nil
  | cons x l ih =>
    obtain ⟨a1, a2⟩ := List.pairwise_cons.1 ha
    rw [List.flatMap_cons, List.pairwise_append]
    refine ⟨hx x (by simp), ih (fun y hy => hx y (by simp [hy])) a2, fun p hp q hq => ?_⟩
    obtain ⟨y, hy, hq⟩ := List.mem_flatMap.1 hq
    have e1 := (pcX_id hp).1
    have e2 := (pcX_id hq).1
    have := a1 y hy
    unfold apartK
    omega

theorem chain_at {u : Int} : ∀ {ps : List Pc} {a : Int}, a ≤ u → (∀ p ∈ ps, p.s < p.e) → ps.Pairwise (fun p q => p.s ≤ q.s) → ps.Pairwise (fun p q => q.s < p.e → p.s < q.e → False) → (∀ v, (∃ p ∈ ps, p.s ≤ v ∧ v < p.e) ↔ a ≤ v ∧ v < u) →
    (∀ k, k < ps.length → (ps.getD k default).s = (if k = 0 then a else (ps.getD (k - 1) default).e)) ∧ u = (if ps.length = 0 then a else (ps.getD (ps.length - 1) default).e)
  | [], a, hau, _, _, _, hc => by
    refine ⟨fun k hk => absurd hk (by simp), ?_⟩
    rcases Int.lt_or_le a u with h | h
    · obtain ⟨p, hp, _⟩ := (hc a).2 ⟨by omega, h⟩
      simp at hp
    · simp
      omega
  | p :: l, a, hau, hlt, hs, hd, hc => by
    obtain ⟨s1, s2⟩ := List.pairwise_cons.1 hs
    obtain ⟨d1, d2⟩ := List.pairwise_cons.1 hd
    have hp := hlt p (by simp)
    have c1 := (hc p.s).1 ⟨p, by simp, by omega, hp⟩
    have c2 := (hc (p.e - 1)).1 ⟨p, by simp, by omega, by omega⟩
    obtain ⟨q, hq, q1, q2⟩ := (hc a).2 ⟨by omega, by omega⟩
    have hps : p.s = a := by
      rcases List.mem_cons.1 hq with rfl | hq
      · omega
      · have := s1 q hq; omega
    have key : ∀ v, (∃ q ∈ l, q.s ≤ v ∧ v < q.e) ↔ p.e ≤ v ∧ v < u := fun v => by
      constructor
      · rintro ⟨q, hq, e1, e2⟩
        have c3 := (hc v).1 ⟨q, by simp [hq], e1, e2⟩
        have s3 := s1 q hq
        have d3 := d1 q hq
        have q3 := hlt q (by simp [hq])
        refine ⟨?_, c3.2⟩
        rcases Int.lt_or_le q.s p.e with h | h
        · exact (d3 h (by omega)).elim
        · omega
      · rintro ⟨e1, e2⟩
        obtain ⟨q, hq, r1, r2⟩ := (hc v).2 ⟨by omega, e2⟩
        rcases List.mem_cons.1 hq with rfl | hq
        · omega
        · exact ⟨q, hq, r1, r2⟩
    obtain ⟨i1, i2⟩ := chain_at (ps := l) (a := p.e) (by omega) (fun q hq => hlt q (by simp [hq])) s2 d2 key
    refine ⟨fun k hk => ?_, ?_⟩
    · cases k with
      | zero => simpa using hps
      | succ k =>
        have := i1 k (by simpa using hk)
        rw [List.getD_cons_succ, this]
        cases k with
        | zero => simp
        | succ k => simp
    · rw [i2, if_neg (show ¬ (p :: l).length = 0 by simp)]
      cases l with
      | nil => simp
      | cons q l => simp
theorem pieces_units {ss : List Lt} {cs : List Ch} {f : Int} (h : EstOk ss cs f) {c : Ch} (hc : c ∈ cs) (v : Int) : (∃ p ∈ pcL ss c.m, p.s ≤ v ∧ v < p.e) ↔ 0 ≤ v ∧ v < c.u := by
  have h1 : (c.m, v) ∈ unitsL ss ↔ 0 ≤ v ∧ v < c.u := by
    rw [h.cov.mem_iff]
    unfold chU
    rw [List.mem_flatMap]
    constructor
    · rintro ⟨d, hd, hm⟩
      obtain ⟨e1, e2, e3⟩ := mem_units.1 hm
      have e1 : c.m = d.m := e1
      have : c = d := by
        obtain ⟨k1, k2⟩ := chOf_mem h.chs hc
        obtain ⟨k3, k4⟩ := chOf_mem h.chs hd
        rw [← k2, ← k4, e1]
      subst this
      exact ⟨e2, e3⟩
    · rintro ⟨e2, e3⟩
      exact ⟨c, hc, mem_units.2 ⟨rfl, e2, e3⟩⟩
  rw [← h1, mem_unitsL]
  constructor
  · rintro ⟨p, hp, e1, e2⟩
    obtain ⟨x, hx, hp⟩ := List.mem_flatMap.1 hp
    obtain ⟨_, s, hs, m1, m2, m3⟩ := pcX_id hp
    exact ⟨x, hx, (h.id x hx).2, mem_expand.2 ⟨s, hs, m1.symm, by omega, by omega⟩⟩
  · rintro ⟨x, hx, _, hm⟩
    obtain ⟨s, hs, m1, m2, m3⟩ := mem_expand.1 hm
    refine ⟨⟨x.id, s.s, s.e⟩, List.mem_flatMap.2 ⟨x, hx, List.mem_map.2 ⟨s, List.mem_filter.2 ⟨hs, by simp [m1]⟩, rfl⟩⟩, m2, m3⟩
theorem pieces_apart {ss : List Lt} {cs : List Ch} {f : Int} (h : EstOk ss cs f) (src : Int) : (pcL ss src).Pairwise fun p q => q.s < p.e → p.s < q.e → False := by
  have hnd := est_nodup h.stk
  rw [unitsL_all fun x hx => (h.id x hx).2] at hnd
  have hlt : ∀ x ∈ ss, ∀ s ∈ x.us, s.s < s.e := fun x hx => slOk_lt (h.stk.ok x hx).2.2.2.2
  have one : ∀ {us : List Sl} (id : Int), (∀ s ∈ us, s.s < s.e) → (expand us).Nodup → (pcX src id us).Pairwise fun p q => q.s < p.e → p.s < q.e → False := by
    intro us id hl hn
    unfold pcX ofS
    rw [List.pairwise_map]
    have hp : us.Pairwise fun a b => a.m = b.m → b.s < a.e → a.s < b.e → False := by
      induction us with
      | nil => exact List.Pairwise.nil
      | cons x l ih =>
        rw [expand_cons, List.nodup_append] at hn
        refine List.pairwise_cons.2 ⟨fun y hy e1 e2 e3 => ?_, ih (fun s hs => hl s (by simp [hs])) hn.2.1⟩
        obtain ⟨p, p1, p2⟩ := (meets_units (hl x (by simp)) (hl y (by simp [hy]))).1 ⟨e1, e3, e2⟩
        exact hn.2.2 _ p1 _ (List.mem_flatMap.2 ⟨y, hy, p2⟩) rfl
    refine List.Pairwise.imp_of_mem (fun {a b} ha hb hab => ?_) (hp.filter fun s => decide (s.m = src))
    have e1 : a.m = src := by simpa using (List.mem_filter.1 ha).2
    have e2 : b.m = src := by simpa using (List.mem_filter.1 hb).2
    exact hab (by omega)
  unfold pcL
  generalize ss = l at hnd hlt
  induction l with
  | nil => exact List.Pairwise.nil
  | cons x l ih =>
    rw [List.flatMap_cons, List.nodup_append] at hnd
    rw [List.flatMap_cons, List.pairwise_append]
    refine ⟨one x.id (hlt x (by simp)) hnd.1, ih hnd.2.1 (fun y hy => hlt y (by simp [hy])), fun p hp q hq e1 e2 => ?_⟩
    obtain ⟨y, hy, hq⟩ := List.mem_flatMap.1 hq
    obtain ⟨_, s, hs, m1, m2, m3⟩ := pcX_id hp
    obtain ⟨_, t, ht, n1, n2, n3⟩ := pcX_id hq
    obtain ⟨w, w1, w2⟩ := (meets_units (hlt x (by simp) s hs) (hlt y (by simp [hy]) t ht)).1 ⟨by omega, by omega, by omega⟩
    exact hnd.2.2 w (List.mem_flatMap.2 ⟨s, hs, w1⟩) w (List.mem_flatMap.2 ⟨y, hy, List.mem_flatMap.2 ⟨t, ht, w2⟩⟩) rfl
theorem pieces_chain {ss : List Lt} {cs : List Ch} {f : Int} (h : EstOk ss cs f) {c : Ch} (hc : c ∈ cs) :
    (∀ k, k < (sortPc (pcL ss c.m)).length → ((sortPc (pcL ss c.m)).getD k default).s = (if k = 0 then 0 else ((sortPc (pcL ss c.m)).getD (k - 1) default).e) ∧ ((sortPc (pcL ss c.m)).getD k default).s < ((sortPc (pcL ss c.m)).getD k default).e) ∧
      c.u = (if (sortPc (pcL ss c.m)).length = 0 then 0 else ((sortPc (pcL ss c.m)).getD ((sortPc (pcL ss c.m)).length - 1) default).e) := by
  have hp := sortPc_perm (pcL ss c.m)
  have hlt : ∀ p ∈ pcL ss c.m, p.s < p.e := fun p hp => by
    obtain ⟨x, hx, hp⟩ := List.mem_flatMap.1 hp
    obtain ⟨_, s, hs, m1, m2, m3⟩ := pcX_id hp
    have := slOk_lt (h.stk.ok x hx).2.2.2.2 s hs
    omega
  have hlt' : ∀ p ∈ sortPc (pcL ss c.m), p.s < p.e := fun p hm => hlt p (hp.mem_iff.1 hm)
  have hsym : ∀ {a b : Pc}, (b.s < a.e → a.s < b.e → False) → (a.s < b.e → b.s < a.e → False) := fun h x y => h y x
  have hs : (sortPc (pcL ss c.m)).Pairwise fun p q => p.s ≤ q.s := (sortPc_le _).imp fun hh => by unfold pcLt at hh; omega
  have hd := (List.Perm.pairwise_iff hsym hp).2 (pieces_apart h c.m)
  have hu := (h.chr c hc).2.2.1
  obtain ⟨a1, a2⟩ := chain_at (u := c.u) (a := 0) (by omega) hlt' hs hd fun v => by
    rw [← pieces_units h hc v]
    constructor
    · rintro ⟨p, hm, e⟩
      exact ⟨p, hp.mem_iff.1 hm, e⟩
    · rintro ⟨p, hm, e⟩
      exact ⟨p, hp.mem_iff.2 hm, e⟩
  exact ⟨fun k hk => ⟨a1 k hk, hlt' _ (getD_in hk)⟩, a2⟩
end Go.Proofs.YtfinilnaofbkkaaGreat

namespace Go.Proofs.YtfinilnaofbkkaaGreat
open Go Go.RowKit
set_option linter.unusedVariables false
set_option linter.unusedSimpArgs false
set_option maxRecDepth 100000
set_option maxHeartbeats 4000000
attribute [local irreducible] ResLe AVle ArgLe ArgP EntLe Dle ResH ArgQ

structure Du where
  l : Int
  a : Int
  deriving Inhabited
def duE (x : Du) (j : Nat) : D := match j with
  | 0 => .val (.int .i64 x.l)
  | _ => .val (.int .i64 x.a)
abbrev duD (us : List Du) : D := .lst 2 us.length (rowF duE us)
def dusL (ss : List Lt) (cs : List Ch) : List Du := ss.map fun x => ⟨x.id, dutV cs x.us⟩
noncomputable def byE (ss : List Lt) (cs : List Ch) : Int := if stkErr ss ≠ 0 then stkErr ss else if chErr cs ≠ 0 then chErr cs else orL (ss.map fun x => dutE cs x.us)
noncomputable def byL (ss : List Lt) (cs : List Ch) : List Du := if byE ss cs = 0 then dusL ss cs else []
theorem dusL_len (ss : List Lt) (cs : List Ch) : (dusL ss cs).length = ss.length := by simp [dusL]
theorem dusL_at {ss : List Lt} {cs : List Ch} {k : Nat} (h : k < ss.length) : (dusL ss cs).getD k default = ⟨(ss.getD k default).id, dutV cs (ss.getD k default).us⟩ := by simp [dusL, h]
theorem map_at0 {ss : List Lt} {g : Lt → Int} {k : Nat} (h : k < ss.length) : (ss.map g).getD k 0 = g (ss.getD k default) := by simp [h]
theorem orD_at {cs : List Ch} {ss : List Lt} {k : Nat} (h : k < ss.length) (hz : ∀ i, i < k → dutE cs (ss.getD i default).us = 0) (hx : dutE cs (ss.getD k default).us ≠ 0) : orL (ss.map fun x => dutE cs x.us) = dutE cs (ss.getD k default).us := by
  rw [orL_at (k := k) (by simpa using h) (fun i hi => by rw [map_at0 (by omega)]; exact hz i hi) (by rw [map_at0 h]; exact hx), map_at0 h]
theorem orD_none {cs : List Ch} {ss : List Lt} (hz : ∀ i, i < ss.length → dutE cs (ss.getD i default).us = 0) : orL (ss.map fun x => dutE cs x.us) = 0 :=
  orL_none fun i hi => by
    have hi : i < ss.length := by simpa using hi
    rw [map_at0 hi]
    exact hz i hi
def fillD (l : List Du) (k : Nat) : List Du := (List.range l.length).map fun i => if i < k then l.getD i default else default
theorem fillD_at (l : List Du) (k : Nat) {i : Nat} (h : i < l.length) : (fillD l k).getD i default = if i < k then l.getD i default else default := by simp [fillD, h]
theorem fillD_full (l : List Du) : fillD l l.length = l := by
  have : fillD l l.length = (List.range l.length).map fun i => l.getD i default := List.map_congr_left fun i hi => if_pos (List.mem_range.1 hi)
  rw [this, range_getD]
theorem fillD_set {l : List Du} {n k : Nat} (hn : n = l.length) {x : Du} (hx : l.getD k default = x) : ∀ i, i < n → ∀ j, j < 2 → Dle (setF (rowF duE (fillD l k)) k 0 [.val (.int .i64 x.l), .val (.int .i64 x.a)] i j) (rowF duE (fillD l (k + 1)) i j) := by
  intro i hi j hj
  subst hn
  rw [setF_eq]
  unfold rowF
  rw [fillD_at l (k + 1) hi, fillD_at l k hi]
  split
  · rename_i hc
    obtain ⟨rfl, h1, h2⟩ := hc
    rw [if_pos (by omega), hx]
    rcases j with _ | _ | j
    · exact Dle.refl _
    · exact Dle.refl _
    · omega
  · rename_i hc
    have hik : i ≠ k := fun e => hc ⟨e, by omega, by show j < 0 + 2; omega⟩
    by_cases h : i < k
    · rw [if_pos h, if_pos (by omega)]
      exact Dle.refl _
    · rw [if_neg h, if_neg (by omega)]
      exact Dle.refl _
theorem byLot_t (ss : List Lt) (cs : List Ch) (hL : ss.length ≤ 9223372036854775807) (hC : cs.length ≤ 9223372036854775807) : ACalls XX 11 [.dat (ltD ss), .dat (chD cs)] (.tup [.dat (duD (byL ss cs)), iA (byE ss cs)]) := by
  have h1 := validate_t ss hL
  have h2 := latValidate_t cs hC
  have hS : byL ss cs = if byE ss cs = 0 then dusL ss cs else [] := rfl
  by_cases e1 : stkErr ss = 0
  rotate_left
  · have hE : byE ss cs = stkErr ss := by unfold byE; rw [if_pos e1]
    rw [hS, hE, if_neg e1]
    refine ACalls.of (n := Tryz.f11.ntmps) XX_ok Tryz.func11 rfl (by kernel_rfl) rfl rfl (Nat.le_of_ble_eq_true rfl) ?_
    (repeat' (first | refine Zs ?_ | refine Zk ?_ | ((first | refine Za ?_ | refine Zr ?_ | refine Zp ?_ | refine Ze ?_ | refine Zd ?_ | refine Zn ?_ | refine Zc ?_ | refine UnK.mk (fun b hb => ?_) | refine Zy h1 ?_); conv => whnf) | (refine Zb (fun h => ?_) (fun h => ?_) <;> first | exact Zx | (conv => whnf))))
    all_goals first | exact Zrz | (exfalso; omega)
  rw [e1] at h1
  by_cases e2 : chErr cs = 0
  rotate_left
  · have hE : byE ss cs = chErr cs := by unfold byE; rw [if_neg (by simpa using e1), if_pos e2]
    rw [hS, hE, if_neg e2]
    refine ACalls.of (n := Tryz.f11.ntmps) XX_ok Tryz.func11 rfl (by kernel_rfl) rfl rfl (Nat.le_of_ble_eq_true rfl) ?_
    (repeat' (first | refine Zs ?_ | refine Zk ?_ | ((first | refine Za ?_ | refine Zr ?_ | refine Zp ?_ | refine Ze ?_ | refine Zd ?_ | refine Zn ?_ | refine Zc ?_ | refine UnK.mk (fun b hb => ?_) | refine Zy h1 ?_ | refine Zy h2 ?_); conv => whnf) | (refine Zb (fun h => ?_) (fun h => ?_) <;> first | exact Zx | (conv => whnf))))
    all_goals first | exact Zrz | (exfalso; omega)
  rw [e2] at h2
  have hO := stkErr_ok e1
  obtain ⟨c1, c2, c3⟩ := chErr_len e2
  have hE : byE ss cs = orL (ss.map fun x => dutE cs x.us) := by unfold byE; rw [if_neg (by simpa using e1), if_neg (by simpa using e2)]
  have hlen := hO.len
  have hdl := dusL_len ss cs
  refine ACalls.of (n := Tryz.f11.ntmps) XX_ok Tryz.func11 rfl (by kernel_rfl) rfl rfl (Nat.le_of_ble_eq_true rfl) ?_
  (repeat' (first | refine Zs ?_ | refine Zk ?_ | ((first | refine Za ?_ | refine Zr ?_ | refine Zp ?_ | refine Ze ?_ | refine Zd ?_ | refine Zn ?_ | refine Zc ?_ | refine UnK.mk (fun b hb => ?_) | refine Zy h1 ?_ | refine Zy h2 ?_); conv => whnf) | (refine Zb (fun h => ?_) (fun h => ?_) <;> first | exact Zx | (conv => whnf))))
  all_goals first | (exfalso; omega) | skip
  refine (W.loopK (ι := Nat) [1, 8, 26, 27] [] (fun k => [(28, iA k)]) (fun k => [(25, .row 68 2 ss.length (rowF duE (fillD (dusL ss cs) k)))]) (fun k => k ≤ ss.length ∧ ∀ i, i < k → dutE cs (ss.getD i default).us = 0) (fun k => ss.length - k) 0 ⟨Nat.zero_le _, fun i hi => absurd hi (by omega)⟩ ?_ ?_ ?_)
  · exact Yz
  · (repeat' (first | exact trivial | exact Yr | exact Yi (by first | rfl | omega) | exact Yo (by first | rfl | omega) | exact Yd | exact Yn | exact Ye (by first | rfl | omega) | exact ⟨_, rfl, Yf, rfl⟩ | refine ⟨_, rfl, Yb ?_, rfl⟩ | refine ⟨_, rfl, Yw (by first | rfl | omega) ?_, rfl⟩ | refine And.intro ?_ ?_))
    intro i hi j hj
    unfold rowF
    rw [fillD_at _ _ (by omega), if_neg (by omega)]
    rcases j with _ | _ | j
    · exact Dle.refl _
    · exact Dle.refl _
    · omega
  conv => whnf
  intro k ⟨hk, hz⟩
  by_cases hk' : k < ss.length
  · have hd := sum_t (ss.getD k default).us cs (hO.us _ (getD_in hk')) c1 c3
    by_cases hx : dutE cs (ss.getD k default).us = 0
    · rw [hx, if_pos rfl] at hd
      (repeat' (first | refine Zs ?_ | refine Zk ?_ | ((first | refine Za ?_ | refine Zr ?_ | refine Zp ?_ | refine Ze ?_ | refine Zd ?_ | refine Zn ?_ | refine Zc ?_ | refine UnK.mk (fun b hb => ?_)); conv => whnf) | (refine Zb (fun h => ?_) (fun h => ?_) <;> first | exact Zx | (conv => whnf))))
      all_goals (try dsimp only [Int.toNat_natCast] at *)
      (repeat' (first | refine Zs ?_ | refine Zk ?_ | ((first | refine Za ?_ | refine Zr ?_ | refine Zp ?_ | refine Ze ?_ | refine Zd ?_ | refine Zn ?_ | refine Zc ?_ | refine UnK.mk (fun b hb => ?_) | refine Zy hd ?_); conv => whnf) | (refine Zb (fun h => ?_) (fun h => ?_) <;> first | exact Zx | (conv => whnf))))
      all_goals first | (exfalso; omega) | skip
      refine ⟨k + 1, ⟨by omega, fun i hi => ?_⟩, by omega, ?_, ?_, ?_, ?_⟩
      · by_cases hik : i = k
        · subst hik; exact hx
        · exact hz i (by omega)
      all_goals (repeat' (first | exact trivial | exact Yr | exact Yi (by first | rfl | omega) | exact Yo (by first | rfl | omega) | exact Yd | exact Yn | exact Ye (by first | rfl | omega) | exact ⟨_, rfl, Yf, rfl⟩ | refine ⟨_, rfl, Yb ?_, rfl⟩ | refine ⟨_, rfl, Yw (by first | rfl | omega) ?_, rfl⟩ | refine And.intro ?_ ?_))
      simp only [Nat.zero_add, Int.toNat_natCast]
      exact fillD_set hdl.symm (dusL_at hk')
    · rw [if_neg hx] at hd
      have hE' := hE.trans (orD_at hk' hz hx)
      have hB : byL ss cs = [] := by rw [hS, hE', if_neg hx]
      rw [hB, hE']
      (repeat' (first | refine Zs ?_ | refine Zk ?_ | ((first | refine Za ?_ | refine Zr ?_ | refine Zp ?_ | refine Ze ?_ | refine Zd ?_ | refine Zn ?_ | refine Zc ?_ | refine UnK.mk (fun b hb => ?_)); conv => whnf) | (refine Zb (fun h => ?_) (fun h => ?_) <;> first | exact Zx | (conv => whnf))))
      all_goals (try dsimp only [Int.toNat_natCast] at *)
      (repeat' (first | refine Zs ?_ | refine Zk ?_ | ((first | refine Za ?_ | refine Zr ?_ | refine Zp ?_ | refine Ze ?_ | refine Zd ?_ | refine Zn ?_ | refine Zc ?_ | refine UnK.mk (fun b hb => ?_) | refine Zy hd ?_); conv => whnf) | (refine Zb (fun h => ?_) (fun h => ?_) <;> first | exact Zx | (conv => whnf))))
      all_goals first | exact Zrz | (exfalso; omega)
  · obtain rfl : k = ss.length := by omega
    have hE' := hE.trans (orD_none hz)
    have hB : byL ss cs = dusL ss cs := by rw [hS, hE', if_pos rfl]
    rw [hB, hE', ← hdl, fillD_full]
    (repeat' (first | refine Zs ?_ | refine Zk ?_ | ((first | refine Za ?_ | refine Zr ?_ | refine Zp ?_ | refine Ze ?_ | refine Zd ?_ | refine Zn ?_ | refine Zc ?_ | refine UnK.mk (fun b hb => ?_)); conv => whnf) | (refine Zb (fun h => ?_) (fun h => ?_) <;> first | exact Zx | (conv => whnf))))
    all_goals exact Zrz
theorem rbyLot_t (ss : List Lt) (cs : List Ch) (hL : ss.length ≤ 9223372036854775807) (hz : ∀ x ∈ ss, x.c.size ≤ 9223372036854775807) (hC : cs.length ≤ 9223372036854775807) : ACalls XX 12 [.dat (ltD ss), .dat (chD cs)] (.tup [.dat (duD (byL ss cs)), iA (byE ss cs)]) := by
  have h1 := rstock_t ss hL hz
  have h2 := rcharges_t cs hC
  have hS : byL ss cs = if byE ss cs = 0 then dusL ss cs else [] := rfl
  by_cases e1 : stkErr ss = 0
  rotate_left
  · have hE : byE ss cs = stkErr ss := by unfold byE; rw [if_pos e1]
    rw [hS, hE, if_neg e1]
    refine ACalls.of (n := Tryz.f12.ntmps) XX_ok Tryz.func12 rfl (by kernel_rfl) rfl rfl (Nat.le_of_ble_eq_true rfl) ?_
    (repeat' (first | refine Zs ?_ | refine Zk ?_ | ((first | refine Za ?_ | refine Zr ?_ | refine Zp ?_ | refine Ze ?_ | refine Zd ?_ | refine Zn ?_ | refine Zc ?_ | refine UnK.mk (fun b hb => ?_) | refine Zy h1 ?_); conv => whnf) | (refine Zb (fun h => ?_) (fun h => ?_) <;> first | exact Zx | (conv => whnf))))
    all_goals first | exact Zrz | (exfalso; omega)
  rw [e1] at h1
  by_cases e2 : chErr cs = 0
  rotate_left
  · have hE : byE ss cs = chErr cs := by unfold byE; rw [if_neg (by simpa using e1), if_pos e2]
    rw [hS, hE, if_neg e2]
    refine ACalls.of (n := Tryz.f12.ntmps) XX_ok Tryz.func12 rfl (by kernel_rfl) rfl rfl (Nat.le_of_ble_eq_true rfl) ?_
    (repeat' (first | refine Zs ?_ | refine Zk ?_ | ((first | refine Za ?_ | refine Zr ?_ | refine Zp ?_ | refine Ze ?_ | refine Zd ?_ | refine Zn ?_ | refine Zc ?_ | refine UnK.mk (fun b hb => ?_) | refine Zy h1 ?_ | refine Zy h2 ?_); conv => whnf) | (refine Zb (fun h => ?_) (fun h => ?_) <;> first | exact Zx | (conv => whnf))))
    all_goals first | exact Zrz | (exfalso; omega)
  rw [e2] at h2
  have hO := stkErr_ok e1
  obtain ⟨c1, c2, c3⟩ := chErr_len e2
  have hE : byE ss cs = orL (ss.map fun x => dutE cs x.us) := by unfold byE; rw [if_neg (by simpa using e1), if_neg (by simpa using e2)]
  have hlen := hO.len
  have hdl := dusL_len ss cs
  refine ACalls.of (n := Tryz.f12.ntmps) XX_ok Tryz.func12 rfl (by kernel_rfl) rfl rfl (Nat.le_of_ble_eq_true rfl) ?_
  (repeat' (first | refine Zs ?_ | refine Zk ?_ | ((first | refine Za ?_ | refine Zr ?_ | refine Zp ?_ | refine Ze ?_ | refine Zd ?_ | refine Zn ?_ | refine Zc ?_ | refine UnK.mk (fun b hb => ?_) | refine Zy h1 ?_ | refine Zy h2 ?_); conv => whnf) | (refine Zb (fun h => ?_) (fun h => ?_) <;> first | exact Zx | (conv => whnf))))
  all_goals first | (exfalso; omega) | skip
  refine (W.adopt 7 48 68 2 (rowF duE []) rfl rfl rfl rfl ?_)
  conv => whnf
  refine (W.loopK (ι := Nat) [0, 1] [] (fun k => [(8, iA k), (7, .own 48 2 0 ((dusL ss cs).take k).length)]) (fun k => [(48, .row 68 2 ((dusL ss cs).take k).length (rowF duE ((dusL ss cs).take k)))]) (fun k => k ≤ ss.length ∧ ∀ i, i < k → dutE cs (ss.getD i default).us = 0) (fun k => ss.length - k) 0 ⟨Nat.zero_le _, fun i hi => absurd hi (by omega)⟩ ?_ ?_ ?_)
  · exact Yz
  · exact Yz
  conv => whnf
  intro k ⟨hk, hz⟩
  have htl : ((dusL ss cs).take k).length = k := by rw [List.length_take, hdl]; omega
  by_cases hk' : k < ss.length
  · have hx0 := getD_in hk'
    have hd := rduty_t (ss.getD k default).us cs (hO.us _ hx0) (hO.ok _ hx0).2.2.2.2 c1 c2 c3
    by_cases hx : dutE cs (ss.getD k default).us = 0
    · rw [hx, if_pos rfl] at hd
      (repeat' (first | refine Zs ?_ | refine Zk ?_ | ((first | refine Za ?_ | refine Zr ?_ | refine Zp ?_ | refine Ze ?_ | refine Zd ?_ | refine Zn ?_ | refine Zc ?_ | refine UnK.mk (fun b hb => ?_)); conv => whnf) | (refine Zb (fun h => ?_) (fun h => ?_) <;> first | exact Zx | (conv => whnf))))
      all_goals (try dsimp only [Int.toNat_natCast] at *)
      (repeat' (first | refine Zs ?_ | refine Zk ?_ | ((first | refine Za ?_ | refine Zr ?_ | refine Zp ?_ | refine Ze ?_ | refine Zd ?_ | refine Zn ?_ | refine Zc ?_ | refine UnK.mk (fun b hb => ?_) | refine Zy hd ?_); conv => whnf) | (refine Zb (fun h => ?_) (fun h => ?_) <;> first | exact Zx | (conv => whnf))))
      all_goals first | (exfalso; omega) | skip
      have hs := take_snoc (dusL ss cs) k (by omega)
      have htl1 : ((dusL ss cs).take k).length + 1 = ((dusL ss cs).take (k + 1)).length := by rw [hs, List.length_append]; rfl
      refine ⟨k + 1, ⟨by omega, fun i hi => ?_⟩, by omega, ?_, ?_, ?_, ?_⟩
      · by_cases hik : i = k
        · subst hik; exact hx
        · exact hz i (by omega)
      all_goals (repeat' (first | exact trivial | exact Yr | exact Yi (by first | rfl | exact htl1 | omega) | exact Yo (by first | rfl | exact htl1 | omega) | exact Yd | exact Yn | exact Ye (by first | rfl | exact htl1 | omega) | exact ⟨_, rfl, Yf, rfl⟩ | refine ⟨_, rfl, Yb ?_, rfl⟩ | refine ⟨_, rfl, Yw (by first | rfl | exact htl1 | omega) ?_, rfl⟩ | refine And.intro ?_ ?_))
      rw [hs, dusL_at hk']
      refine rowF_snoc rfl fun j hj => ?_
      rcases j with _ | _ | j
      all_goals first | exact Dle.refl _ | omega
    · rw [if_neg hx] at hd
      have hE' := hE.trans (orD_at hk' hz hx)
      have hB : byL ss cs = [] := by rw [hS, hE', if_neg hx]
      rw [hB, hE']
      (repeat' (first | refine Zs ?_ | refine Zk ?_ | ((first | refine Za ?_ | refine Zr ?_ | refine Zp ?_ | refine Ze ?_ | refine Zd ?_ | refine Zn ?_ | refine Zc ?_ | refine UnK.mk (fun b hb => ?_)); conv => whnf) | (refine Zb (fun h => ?_) (fun h => ?_) <;> first | exact Zx | (conv => whnf))))
      all_goals (try dsimp only [Int.toNat_natCast] at *)
      (repeat' (first | refine Zs ?_ | refine Zk ?_ | ((first | refine Za ?_ | refine Zr ?_ | refine Zp ?_ | refine Ze ?_ | refine Zd ?_ | refine Zn ?_ | refine Zc ?_ | refine UnK.mk (fun b hb => ?_) | refine Zy hd ?_); conv => whnf) | (refine Zb (fun h => ?_) (fun h => ?_) <;> first | exact Zx | (conv => whnf))))
      all_goals first | exact Zrz | (exfalso; omega)
  · obtain rfl : k = ss.length := by omega
    have hE' := hE.trans (orD_none hz)
    have hB : byL ss cs = dusL ss cs := by rw [hS, hE', if_pos rfl]
    rw [hB, hE', List.take_of_length_le (by omega)]
    (repeat' (first | refine Zs ?_ | refine Zk ?_ | ((first | refine Za ?_ | refine Zr ?_ | refine Zp ?_ | refine Ze ?_ | refine Zd ?_ | refine Zn ?_ | refine Zc ?_ | refine UnK.mk (fun b hb => ?_)); conv => whnf) | (refine Zb (fun h => ?_) (fun h => ?_) <;> first | exact Zx | (conv => whnf))))
    all_goals exact Zrz

theorem trace1_d (x y : Pc) : ACalls XD 31 [pcA x, pcA y] (iA (pcCf x y)) := by
  have k := or_d [cmpI x.s y.s, cmpI x.l y.l] (by simp)
  refine ACalls.of (n := Tryz.f31.ntmps) XD_ok Tryz.func31 rfl (by kernel_rfl) rfl rfl (Nat.le_of_ble_eq_true rfl) ?_
  (repeat' (first | refine Zs ?_ | refine Zk ?_ | ((first | refine Za ?_ | refine Zr ?_ | refine Zp ?_ | refine Ze ?_ | refine Zd ?_ | refine W.drawT dr31 rfl mixed rfl ?_ | refine Zn ?_ | refine Zc ?_ | refine UnK.mk (fun b hb => ?_) | refine Zy (cmp_d _ _) ?_ | refine Zz (cmp_d _ _) ?_); conv => whnf) | (refine Zb (fun h => ?_) (fun h => ?_) <;> first | exact Zx | (conv => whnf))))
  refine CallK.by (CallA.plain k ⟨ArgLe.own rfl (Nat.le_refl _) (fun i hi j hj => ?_), trivial⟩ rfl) ?_
  · obtain rfl : j = 0 := by omega
    rcases i with _ | _ | i
    · exact Dle.of_eq rfl
    · exact Dle.of_eq rfl
    · exact absurd hi (by have : [cmpI x.s y.s, cmpI x.l y.l].length = 2 := rfl; omega)
  conv => whnf
  (repeat' (first | refine Zs ?_ | refine Zk ?_ | ((first | refine Za ?_ | refine Zr ?_ | refine Zp ?_ | refine Ze ?_ | refine Zd ?_ | refine W.drawT dr31 rfl mixed rfl ?_ | refine Zn ?_ | refine Zc ?_ | refine UnK.mk (fun b hb => ?_)); conv => whnf) | (refine Zb (fun h => ?_) (fun h => ?_) <;> first | exact Zx | (conv => whnf))))
  all_goals exact Zrz
theorem sortPc_h (us : List Pc) (hn : us.length ≤ 100000) :
    HC XX 30 [.own 5000 3 0 us.length, .dat (.val (.func (.func 31) #[] #[]))] [(5000, .row 40 3 us.length (rowF pcE us))] (.tup []) [(5000, .row 40 3 us.length fun i j => rowF pcE us (sortAt us.length (cfQ us) i) j)] none :=
  sort_h (X := XX) (cf := cfQ us) Tryz.sort30 rfl ⟨_, Tryz.func30, rfl, rfl⟩ Tryz.isAgg40 Tryz.sizeOf40
    (enters_of Tryz.func31 (by kernel_rfl) rfl) (cfQ_swo us) (by omega) (by omega) (fun i j hi hj => trace1_d (us.getD i default) (us.getD j default))
noncomputable def trcL (ss : List Lt) (src : Int) : List Pc := if stkErr ss = 0 then sortPc (pcL ss src) else []
theorem pcX_len (src id : Int) (us : List Sl) : (pcX src id us).length ≤ us.length := by
  unfold pcX ofS
  rw [List.length_map]
  exact List.length_filter_le ..
theorem pcL_len {ss : List Lt} (h : StkOk ss) (src : Int) : ∀ k, k ≤ ss.length → (pcL (ss.take k) src).length ≤ 64 * k
  | 0, _ => by simp [pcL]
  | k + 1, hk => by
    have ih := pcL_len h src k (by omega)
    have h1 := pcX_len src (ss.getD k default).id (ss.getD k default).us
    have h2 := h.us _ (getD_in (k := k) (by omega))
    rw [pcL_snoc ss src k (by omega), List.length_append]
    omega
theorem trace_t (ss : List Lt) (src : Int) (hL : ss.length ≤ 9223372036854775807) : ACalls XX 13 [.dat (ltD ss), iA src] (.dat (pcD (trcL ss src))) := by
  have h1 := validate_t ss hL
  by_cases e1 : stkErr ss = 0
  rotate_left
  · have hE : trcL ss src = [] := by unfold trcL; rw [if_neg e1]
    rw [hE]
    refine ACalls.of (n := Tryz.f13.ntmps) XX_ok Tryz.func13 rfl (by kernel_rfl) rfl rfl (Nat.le_of_ble_eq_true rfl) ?_
    (repeat' (first | refine Zs ?_ | refine Zk ?_ | ((first | refine Za ?_ | refine Zr ?_ | refine Zp ?_ | refine Ze ?_ | refine Zd ?_ | refine Zn ?_ | refine Zc ?_ | refine UnK.mk (fun b hb => ?_) | refine Zy h1 ?_); conv => whnf) | (refine Zb (fun h => ?_) (fun h => ?_) <;> first | exact Zx | (conv => whnf))))
    all_goals first | exact Zrz | (exfalso; omega)
  rw [e1] at h1
  have hE : trcL ss src = sortPc (pcL ss src) := by unfold trcL; rw [if_pos e1]
  have hO := stkErr_ok e1
  have hlen := hO.len
  rw [hE]
  refine ACalls.of (n := Tryz.f13.ntmps) XX_ok Tryz.func13 rfl (by kernel_rfl) rfl rfl (Nat.le_of_ble_eq_true rfl) ?_
  (repeat' (first | refine Zs ?_ | refine Zk ?_ | ((first | refine Za ?_ | refine Zr ?_ | refine Zp ?_ | refine Ze ?_ | refine Zd ?_ | refine Zn ?_ | refine Zc ?_ | refine UnK.mk (fun b hb => ?_) | refine Zy h1 ?_); conv => whnf) | (refine Zb (fun h => ?_) (fun h => ?_) <;> first | exact Zx | (conv => whnf))))
  all_goals first | (exfalso; omega) | skip
  refine (W.adopt 5 39 40 3 (rowF pcE []) rfl rfl rfl rfl ?_)
  conv => whnf
  refine (W.loopK (ι := Nat) [1, 13, 14] [] (fun k => [(15, iA k), (5, .own 39 3 0 (pcL (ss.take k) src).length)]) (fun k => [(39, .row 40 3 (pcL (ss.take k) src).length (rowF pcE (pcL (ss.take k) src)))]) (fun k => k ≤ ss.length) (fun k => ss.length - k) 0 (Nat.zero_le _) ?_ ?_ ?_)
  · exact Yz
  · exact Yz
  conv => whnf
  intro k hk
  have hb := pcL_len hO src k hk
  by_cases hk' : k < ss.length
  · have hs := pcL_snoc ss src k hk'
    have hu := hO.us _ (getD_in hk')
    generalize hP : pcL (ss.take k) src = P at *
    (repeat' (first | refine Zs ?_ | refine Zk ?_ | ((first | refine Za ?_ | refine Zr ?_ | refine Zp ?_ | refine Ze ?_ | refine Zd ?_ | refine Zn ?_ | refine Zc ?_ | refine UnK.mk (fun b hb => ?_)); conv => whnf) | (refine Zb (fun h => ?_) (fun h => ?_) <;> first | exact Zx | (conv => whnf))))
    all_goals (try dsimp only [Int.toNat_natCast] at *)
    refine (W.loopK (ι := Nat) [1, 7, 13, 14, 15, 20, 21] [7] (fun i => [(22, iA i), (5, .own 39 3 0 (P ++ pcX src (ss.getD k default).id ((ss.getD k default).us.take i)).length)]) (fun i => [(39, .row 40 3 (P ++ pcX src (ss.getD k default).id ((ss.getD k default).us.take i)).length (rowF pcE (P ++ pcX src (ss.getD k default).id ((ss.getD k default).us.take i))))]) (fun i => i ≤ (ss.getD k default).us.length) (fun i => (ss.getD k default).us.length - i) 0 (Nat.zero_le _) ?_ ?_ ?_)
    · (repeat' (first | exact trivial | exact Yr | exact Yi (by first | rfl | (simp [pcX, ofS]; done) | omega) | exact Yo (by first | rfl | (simp [pcX, ofS]; done) | omega) | exact Yd | exact Yn | exact Ye (by first | rfl | (simp [pcX, ofS]; done) | omega) | exact ⟨_, rfl, Yf, rfl⟩ | refine ⟨_, rfl, Yb ?_, rfl⟩ | refine ⟨_, rfl, Yw (by first | rfl | (simp [pcX, ofS]; done) | omega) ?_, rfl⟩ | refine And.intro ?_ ?_))
    · (repeat' (first | exact trivial | exact Yr | exact Yi (by first | rfl | (simp [pcX, ofS]; done) | omega) | exact Yo (by first | rfl | (simp [pcX, ofS]; done) | omega) | exact Yd | exact Yn | exact Ye (by first | rfl | (simp [pcX, ofS]; done) | omega) | exact ⟨_, rfl, Yf, rfl⟩ | refine ⟨_, rfl, Yb ?_, rfl⟩ | refine ⟨_, rfl, Yw (by first | rfl | (simp [pcX, ofS]; done) | omega) ?_, rfl⟩ | refine And.intro ?_ ?_))
      have e : P ++ pcX src (ss.getD k default).id ((ss.getD k default).us.take 0) = P := by simp [pcX, ofS]
      rw [e]
      exact fun _ _ _ _ => Dle.refl _
    conv => whnf
    intro i hi
    have hxl := pcX_len src (ss.getD k default).id ((ss.getD k default).us.take i)
    have hxl2 := List.length_take_le' i (ss.getD k default).us
    have hl : (P ++ pcX src (ss.getD k default).id ((ss.getD k default).us.take i)).length ≤ 10000 := by rw [List.length_append]; omega
    by_cases hi' : i < (ss.getD k default).us.length
    · have hs2 := pcX_snoc src (ss.getD k default).id (ss.getD k default).us i hi'
      by_cases hm : ((ss.getD k default).us.getD i default).m = src
      · rw [if_pos hm] at hs2
        have hs3 : P ++ pcX src (ss.getD k default).id ((ss.getD k default).us.take (i + 1)) = (P ++ pcX src (ss.getD k default).id ((ss.getD k default).us.take i)) ++ [⟨(ss.getD k default).id, ((ss.getD k default).us.getD i default).s, ((ss.getD k default).us.getD i default).e⟩] := by rw [hs2, List.append_assoc]
        have hl1 : (P ++ pcX src (ss.getD k default).id ((ss.getD k default).us.take i)).length + 1 = (P ++ pcX src (ss.getD k default).id ((ss.getD k default).us.take (i + 1))).length := by rw [hs3, List.length_append (bs := [_])]; rfl
        (repeat' (first | refine Zs ?_ | refine Zk ?_ | ((first | refine Za ?_ | refine Zr ?_ | refine Zp ?_ | refine Ze ?_ | refine Zd ?_ | refine Zn ?_ | refine Zc ?_ | refine UnK.mk (fun b hb => ?_)); conv => whnf) | (refine Zb (fun h => ?_) (fun h => ?_) <;> first | exact Zx | (conv => whnf))))
        all_goals (try dsimp only [Int.toNat_natCast] at *)
        (repeat' (first | refine Zs ?_ | refine Zk ?_ | ((first | refine Za ?_ | refine Zr ?_ | refine Zp ?_ | refine Ze ?_ | refine Zd ?_ | refine Zn ?_ | refine Zc ?_ | refine UnK.mk (fun b hb => ?_)); conv => whnf) | (refine Zb (fun h => ?_) (fun h => ?_) <;> first | exact Zx | (conv => whnf))))
        all_goals first | (exfalso; omega) | skip
        refine ⟨i + 1, by omega, by omega, ?_, ?_, ?_, ?_⟩
        all_goals (repeat' (first | exact trivial | exact Yr | exact Yi (by first | rfl | exact hl1 | omega) | exact Yo (by first | rfl | exact hl1 | omega) | exact Yd | exact Yn | exact Ye (by first | rfl | exact hl1 | omega) | exact ⟨_, rfl, Yf, rfl⟩ | refine ⟨_, rfl, Yb ?_, rfl⟩ | refine ⟨_, rfl, Yw (by first | rfl | exact hl1 | omega) ?_, rfl⟩ | refine And.intro ?_ ?_))
        rw [hs3]
        refine rowF_snoc rfl fun j hj => ?_
        rcases j with _ | _ | _ | j
        all_goals first | exact Dle.refl _ | omega
      · rw [if_neg hm] at hs2
        (repeat' (first | refine Zs ?_ | refine Zk ?_ | ((first | refine Za ?_ | refine Zr ?_ | refine Zp ?_ | refine Ze ?_ | refine Zd ?_ | refine Zn ?_ | refine Zc ?_ | refine UnK.mk (fun b hb => ?_)); conv => whnf) | (refine Zb (fun h => ?_) (fun h => ?_) <;> first | exact Zx | (conv => whnf))))
        all_goals (try dsimp only [Int.toNat_natCast] at *)
        (repeat' (first | refine Zs ?_ | refine Zk ?_ | ((first | refine Za ?_ | refine Zr ?_ | refine Zp ?_ | refine Ze ?_ | refine Zd ?_ | refine Zn ?_ | refine Zc ?_ | refine UnK.mk (fun b hb => ?_)); conv => whnf) | (refine Zb (fun h => ?_) (fun h => ?_) <;> first | exact Zx | (conv => whnf))))
        all_goals first | (exfalso; omega) | skip
        refine ⟨i + 1, by omega, by omega, ?_, ?_, ?_, ?_⟩
        all_goals (repeat' (first | exact trivial | exact Yr | exact Yi (by first | rfl | (rw [hs2]; done) | omega) | exact Yo (by first | rfl | (rw [hs2]; done) | omega) | exact Yd | exact Yn | exact Ye (by first | rfl | (rw [hs2]; done) | omega) | exact ⟨_, rfl, Yf, rfl⟩ | refine ⟨_, rfl, Yb ?_, rfl⟩ | refine ⟨_, rfl, Yw (by first | rfl | (rw [hs2]; done) | omega) ?_, rfl⟩ | refine And.intro ?_ ?_))
        rw [hs2]
        exact fun _ _ _ _ => Dle.refl _
    · obtain rfl : i = (ss.getD k default).us.length := by omega
      rw [List.take_length] at *
      rw [← hs] at *
      (repeat' (first | refine Zs ?_ | refine Zk ?_ | ((first | refine Za ?_ | refine Zr ?_ | refine Zp ?_ | refine Ze ?_ | refine Zd ?_ | refine Zn ?_ | refine Zc ?_ | refine UnK.mk (fun b hb => ?_)); conv => whnf) | (refine Zb (fun h => ?_) (fun h => ?_) <;> first | exact Zx | (conv => whnf))))
      refine ⟨k + 1, by omega, by omega, ?_, ?_, ?_, ?_⟩
      all_goals exact Yz
  · obtain rfl : k = ss.length := by omega
    rw [List.take_length] at *
    have hso := sortPc_h (pcL ss src) (by omega)
    (repeat' (first | refine Zs ?_ | refine Zk ?_ | ((first | refine Za ?_ | refine Zr ?_ | refine Zp ?_ | refine Ze ?_ | refine Zd ?_ | refine Zn ?_ | refine Zc ?_ | refine UnK.mk (fun b hb => ?_) | refine ExCall.h [(5000, 39)] rfl hso rfl ⟨rfl, trivial⟩ ?_); conv => whnf) | (refine Zb (fun h => ?_) (fun h => ?_) <;> first | exact Zx | (conv => whnf))))
    refine RowIs.res (enc := pcE) (us := sortPc (pcL ss src)) rfl ⟨(sortPc_len _).symm, fun i hi j hj => ?_⟩ rfl
    have e : (sortPc (pcL ss src)).getD i default = (pcL ss src).getD (sortAt (pcL ss src).length (cfQ (pcL ss src)) i) default := by
      unfold sortPc
      rw [List.getD_eq_getElem?_getD, List.getElem?_map, List.getElem?_range hi]
      rfl
    unfold rowF
    rw [e]
    exact Dle.refl _
theorem putPc_snoc (l : List Pc) (x : Pc) : putPc (l ++ [x]) = insPc (putPc l) x := by unfold putPc; rw [List.foldl_append]; rfl
theorem putPc_len (l : List Pc) : (putPc l).length = l.length := (putPc_aux l []).1.length_eq.trans (by simp)
theorem put_pc {out : List Pc} {x : Pc} {j : Nat} (hj : j ≤ out.length) {f : Nat → Nat → D} (hf : ∀ q, q < 3 → Dle (f 0 q) (pcE x q)) :
    AVle (.dat (.lst 3 (0 + ((j : Int) - 0).toNat + 1 + ((out.length : Int) - j).toNat) (catF (0 + ((j : Int) - 0).toNat + 1) (catF (0 + ((j : Int) - 0).toNat) (catF 0 (fun _ _ => .val undef) fun i q => rowF pcE out (Int.toNat 0 + i) q) f) fun i q => rowF pcE out (j + i) q))) (.dat (pcD (out.take j ++ x :: out.drop j))) := by
  have a := (RowIs.refl pcE 3 out).part (l := 0) (m := j) (k := ((j : Int) - 0).toNat) (by omega) hj
  have b := (RowIs.refl pcE 3 out).part (l := j) (m := out.length) (k := ((out.length : Int) - j).toNat) (by omega) (Nat.le_refl _)
  have c := ((RowIs.cat (RowIs.nil pcE 3 0 (fun _ _ => .val undef) rfl) a).cat (RowIs.one (enc := pcE) (s := 3) (x := x) hf)).cat b
  refine RowIs.dat (us := out.take j ++ x :: out.drop j) (c.congr ?_)
  simp
theorem rtrace_t (ss : List Lt) (src : Int) (hL : ss.length ≤ 9223372036854775807) (hz : ∀ x ∈ ss, x.c.size ≤ 9223372036854775807) : ACalls XX 14 [.dat (ltD ss), iA src] (.dat (pcD (trcL ss src))) := by
  have h1 := rstock_t ss hL hz
  by_cases e1 : stkErr ss = 0
  rotate_left
  · have hE : trcL ss src = [] := by unfold trcL; rw [if_neg e1]
    rw [hE]
    refine ACalls.of (n := Tryz.f14.ntmps) XX_ok Tryz.func14 rfl (by kernel_rfl) rfl rfl (Nat.le_of_ble_eq_true rfl) ?_
    (repeat' (first | refine Zs ?_ | refine Zk ?_ | ((first | refine Za ?_ | refine Zr ?_ | refine Zp ?_ | refine Ze ?_ | refine Zd ?_ | refine W.drawT dr14 rfl mixed rfl ?_ | refine Zn ?_ | refine Zc ?_ | refine UnK.mk (fun b hb => ?_) | refine Zy h1 ?_ | refine Zz h1 ?_); conv => whnf) | (refine Zb (fun h => ?_) (fun h => ?_) <;> first | exact Zx | (conv => whnf))))
    all_goals first | exact Zrz | (exfalso; omega)
  rw [e1] at h1
  have hO := stkErr_ok e1
  have hE : trcL ss src = putPc (pcL ss src) := by unfold trcL; rw [if_pos e1, sort_put (pcL_apart hO src)]
  have hlen := hO.len
  rw [hE]
  refine ACalls.of (n := Tryz.f14.ntmps) XX_ok Tryz.func14 rfl (by kernel_rfl) rfl rfl (Nat.le_of_ble_eq_true rfl) ?_
  (repeat' (first | refine Zs ?_ | refine Zk ?_ | ((first | refine Za ?_ | refine Zr ?_ | refine Zp ?_ | refine Ze ?_ | refine Zd ?_ | refine W.drawT dr14 rfl mixed rfl ?_ | refine Zn ?_ | refine Zc ?_ | refine UnK.mk (fun b hb => ?_) | refine Zy h1 ?_ | refine Zz h1 ?_); conv => whnf) | (refine Zb (fun h => ?_) (fun h => ?_) <;> first | exact Zx | (conv => whnf))))
  all_goals first | (exfalso; omega) | skip
  refine (W.loopK (ι := Nat) [0, 1] [] (fun k => [(6, iA k), (5, .dat (pcD (putPc (pcL (ss.take k) src))))]) (fun _ => []) (fun k => k ≤ ss.length) (fun k => ss.length - k) 0 (Nat.zero_le _) ?_ ?_ ?_)
  · exact Yz
  · exact Yz
  conv => whnf
  intro k hk
  have hb := pcL_len hO src k hk
  by_cases hk' : k < ss.length
  · have hs := pcL_snoc ss src k hk'
    have hu := hO.us _ (getD_in hk')
    generalize hP : pcL (ss.take k) src = P at *
    (repeat' (first | refine Zs ?_ | refine Zk ?_ | ((first | refine Za ?_ | refine Zr ?_ | refine Zp ?_ | refine Ze ?_ | refine Zd ?_ | refine W.drawT dr14 rfl mixed rfl ?_ | refine Zn ?_ | refine Zc ?_ | refine UnK.mk (fun b hb => ?_)); conv => whnf) | (refine Zb (fun h => ?_) (fun h => ?_) <;> first | exact Zx | (conv => whnf))))
    all_goals (try dsimp only [Int.toNat_natCast] at *)
    refine (W.loopK (ι := Nat) [0, 1, 6] [] (fun i => [(7, iA i), (5, .dat (pcD (putPc (P ++ pcX src (ss.getD k default).id ((ss.getD k default).us.take i)))))]) (fun _ => []) (fun i => i ≤ (ss.getD k default).us.length) (fun i => (ss.getD k default).us.length - i) 0 (Nat.zero_le _) ?_ ?_ ?_)
    · have e : P ++ pcX src (ss.getD k default).id ((ss.getD k default).us.take 0) = P := by simp [pcX, ofS]
      rw [e]
      (repeat' (first | exact trivial | exact Yr | exact Yi (by first | rfl | omega) | exact Yo (by first | rfl | omega) | exact Yd | exact Yn | exact Ye (by first | rfl | omega) | exact ⟨_, rfl, Yf, rfl⟩ | refine ⟨_, rfl, Yb ?_, rfl⟩ | refine ⟨_, rfl, Yw (by first | rfl | omega) ?_, rfl⟩ | refine And.intro ?_ ?_))
    · exact Yz
    conv => whnf
    intro i hi
    have hxl := pcX_len src (ss.getD k default).id ((ss.getD k default).us.take i)
    have hxl2 := List.length_take_le' i (ss.getD k default).us
    have hol := putPc_len (P ++ pcX src (ss.getD k default).id ((ss.getD k default).us.take i))
    have hl : (P ++ pcX src (ss.getD k default).id ((ss.getD k default).us.take i)).length ≤ 10000 := by rw [List.length_append]; omega
    by_cases hi' : i < (ss.getD k default).us.length
    · have hs2 := pcX_snoc src (ss.getD k default).id (ss.getD k default).us i hi'
      by_cases hm : ((ss.getD k default).us.getD i default).m = src
      · rw [if_pos hm] at hs2
        have hs3 : putPc (P ++ pcX src (ss.getD k default).id ((ss.getD k default).us.take (i + 1))) = insPc (putPc (P ++ pcX src (ss.getD k default).id ((ss.getD k default).us.take i))) ⟨(ss.getD k default).id, ((ss.getD k default).us.getD i default).s, ((ss.getD k default).us.getD i default).e⟩ := by rw [hs2, ← List.append_assoc, putPc_snoc]
        generalize putPc (P ++ pcX src (ss.getD k default).id ((ss.getD k default).us.take i)) = out at *
        (repeat' (first | refine Zs ?_ | refine Zk ?_ | ((first | refine Za ?_ | refine Zr ?_ | refine Zp ?_ | refine Ze ?_ | refine Zd ?_ | refine W.drawT dr14 rfl mixed rfl ?_ | refine Zn ?_ | refine Zc ?_ | refine UnK.mk (fun b hb => ?_)); conv => whnf) | (refine Zb (fun h => ?_) (fun h => ?_) <;> first | exact Zx | (conv => whnf))))
        all_goals (try dsimp only [Int.toNat_natCast] at *)
        (repeat' (first | refine Zs ?_ | refine Zk ?_ | ((first | refine Za ?_ | refine Zr ?_ | refine Zp ?_ | refine Ze ?_ | refine Zd ?_ | refine W.drawT dr14 rfl mixed rfl ?_ | refine Zn ?_ | refine Zc ?_ | refine UnK.mk (fun b hb => ?_)); conv => whnf) | (refine Zb (fun h => ?_) (fun h => ?_) <;> first | exact Zx | (conv => whnf))))
        all_goals first | (exfalso; omega) | skip
        refine (W.loopK (ι := Nat) [0, 1, 5, 6, 7, 9] [9] (fun j => [(10, iA j)]) (fun _ => []) (fun j => j ≤ out.length ∧ ∀ q, q < j → pcLt (out.getD q default) ⟨(ss.getD k default).id, ((ss.getD k default).us.getD i default).s, ((ss.getD k default).us.getD i default).e⟩) (fun j => out.length - j) 0 ⟨Nat.zero_le _, fun q hq => absurd hq (by omega)⟩ ?_ ?_ ?_)
        · exact Yz
        · exact Yz
        conv => whnf
        intro j ⟨hj, hz⟩
        (repeat' (first | refine Zs ?_ | refine Zk ?_ | ((first | refine Zas 9 ?_ | refine Zr ?_ | refine Zp ?_ | refine Ze ?_ | refine Zd ?_ | refine W.drawT dr14 rfl mixed rfl ?_ | refine Zn ?_ | refine Zc ?_ | refine UnK.mk (fun b hb => ?_)); conv => whnf) | (refine Zb (fun h => ?_) (fun h => ?_) <;> first | exact Zx | (conv => whnf))))
        all_goals (try dsimp only [Int.toNat_natCast] at *)
        (repeat' (first | refine Zs ?_ | refine Zk ?_ | ((first | refine Zas 9 ?_ | refine Zr ?_ | refine Zp ?_ | refine Ze ?_ | refine Zd ?_ | refine W.drawT dr14 rfl mixed rfl ?_ | refine Zn ?_ | refine Zc ?_ | refine UnK.mk (fun b hb => ?_)); conv => whnf) | (refine Zb (fun h => ?_) (fun h => ?_) <;> first | exact Zx | (conv => whnf))))
        · refine ⟨j + 1, ⟨by omega, fun q hq => ?_⟩, by omega, ?_, ?_, ?_, ?_⟩
          · by_cases hqj : q = j
            · subst hqj
              unfold pcLt
              dsimp only
              omega
            · exact hz q (by omega)
          all_goals exact Yz
        · refine ⟨j + 1, ⟨by omega, fun q hq => ?_⟩, by omega, ?_, ?_, ?_, ?_⟩
          · by_cases hqj : q = j
            · subst hqj
              unfold pcLt
              dsimp only
              omega
            · exact hz q (by omega)
          all_goals exact Yz
        · refine (W.pubD 5 88 rfl rfl ?_)
          conv => whnf
          (repeat' (first | refine Zs ?_ | refine Zk ?_ | ((first | refine Za ?_ | refine Zr ?_ | refine Zp ?_ | refine Ze ?_ | refine Zd ?_ | refine W.drawT dr14 rfl mixed rfl ?_ | refine Zn ?_ | refine Zc ?_ | refine UnK.mk (fun b hb => ?_)); conv => whnf) | (refine Zb (fun h => ?_) (fun h => ?_) <;> first | exact Zx | (conv => whnf))))
          refine ⟨i + 1, by omega, by omega, ?_, ?_, ?_, ?_⟩
          all_goals (repeat' (first | exact trivial | exact Yr | exact Yi (by first | rfl | omega) | exact Yo (by first | rfl | omega) | exact Yd | exact Yn | exact Ye (by first | rfl | omega) | exact ⟨_, rfl, Yf, rfl⟩ | refine ⟨_, rfl, Yb ?_, rfl⟩ | refine ⟨_, rfl, Yw (by first | rfl | omega) ?_, rfl⟩ | refine And.intro ?_ ?_))
          rw [hs3, insPc_at hj hz (fun _ => by unfold pcLt; dsimp only; omega)]
          refine put_pc hj fun q hq => ?_
          rcases q with _ | _ | _ | q
          all_goals first | exact Dle.refl _ | omega
        · refine (W.pubD 5 88 rfl rfl ?_)
          conv => whnf
          (repeat' (first | refine Zs ?_ | refine Zk ?_ | ((first | refine Za ?_ | refine Zr ?_ | refine Zp ?_ | refine Ze ?_ | refine Zd ?_ | refine W.drawT dr14 rfl mixed rfl ?_ | refine Zn ?_ | refine Zc ?_ | refine UnK.mk (fun b hb => ?_)); conv => whnf) | (refine Zb (fun h => ?_) (fun h => ?_) <;> first | exact Zx | (conv => whnf))))
          refine ⟨i + 1, by omega, by omega, ?_, ?_, ?_, ?_⟩
          all_goals (repeat' (first | exact trivial | exact Yr | exact Yi (by first | rfl | omega) | exact Yo (by first | rfl | omega) | exact Yd | exact Yn | exact Ye (by first | rfl | omega) | exact ⟨_, rfl, Yf, rfl⟩ | refine ⟨_, rfl, Yb ?_, rfl⟩ | refine ⟨_, rfl, Yw (by first | rfl | omega) ?_, rfl⟩ | refine And.intro ?_ ?_))
          rw [hs3, insPc_at hj hz (fun _ => by unfold pcLt; dsimp only; omega)]
          refine put_pc hj fun q hq => ?_
          rcases q with _ | _ | _ | q
          all_goals first | exact Dle.refl _ | omega
        · refine (W.pubD 5 88 rfl rfl ?_)
          conv => whnf
          (repeat' (first | refine Zs ?_ | refine Zk ?_ | ((first | refine Za ?_ | refine Zr ?_ | refine Zp ?_ | refine Ze ?_ | refine Zd ?_ | refine W.drawT dr14 rfl mixed rfl ?_ | refine Zn ?_ | refine Zc ?_ | refine UnK.mk (fun b hb => ?_)); conv => whnf) | (refine Zb (fun h => ?_) (fun h => ?_) <;> first | exact Zx | (conv => whnf))))
          refine ⟨i + 1, by omega, by omega, ?_, ?_, ?_, ?_⟩
          all_goals (repeat' (first | exact trivial | exact Yr | exact Yi (by first | rfl | omega) | exact Yo (by first | rfl | omega) | exact Yd | exact Yn | exact Ye (by first | rfl | omega) | exact ⟨_, rfl, Yf, rfl⟩ | refine ⟨_, rfl, Yb ?_, rfl⟩ | refine ⟨_, rfl, Yw (by first | rfl | omega) ?_, rfl⟩ | refine And.intro ?_ ?_))
          rw [hs3, insPc_at hj hz (fun _ => by unfold pcLt; dsimp only; omega)]
          refine put_pc hj fun q hq => ?_
          rcases q with _ | _ | _ | q
          all_goals first | exact Dle.refl _ | omega
      · rw [if_neg hm] at hs2
        (repeat' (first | refine Zs ?_ | refine Zk ?_ | ((first | refine Za ?_ | refine Zr ?_ | refine Zp ?_ | refine Ze ?_ | refine Zd ?_ | refine W.drawT dr14 rfl mixed rfl ?_ | refine Zn ?_ | refine Zc ?_ | refine UnK.mk (fun b hb => ?_)); conv => whnf) | (refine Zb (fun h => ?_) (fun h => ?_) <;> first | exact Zx | (conv => whnf))))
        all_goals (try dsimp only [Int.toNat_natCast] at *)
        (repeat' (first | refine Zs ?_ | refine Zk ?_ | ((first | refine Za ?_ | refine Zr ?_ | refine Zp ?_ | refine Ze ?_ | refine Zd ?_ | refine W.drawT dr14 rfl mixed rfl ?_ | refine Zn ?_ | refine Zc ?_ | refine UnK.mk (fun b hb => ?_)); conv => whnf) | (refine Zb (fun h => ?_) (fun h => ?_) <;> first | exact Zx | (conv => whnf))))
        all_goals first | (exfalso; omega) | skip
        refine ⟨i + 1, by omega, by omega, ?_, ?_, ?_, ?_⟩
        all_goals first | rw [hs2] | skip
        all_goals exact Yz
    · obtain rfl : i = (ss.getD k default).us.length := by omega
      rw [List.take_length] at *
      rw [← hs] at *
      (repeat' (first | refine Zs ?_ | refine Zk ?_ | ((first | refine Za ?_ | refine Zr ?_ | refine Zp ?_ | refine Ze ?_ | refine Zd ?_ | refine W.drawT dr14 rfl mixed rfl ?_ | refine Zn ?_ | refine Zc ?_ | refine UnK.mk (fun b hb => ?_)); conv => whnf) | (refine Zb (fun h => ?_) (fun h => ?_) <;> first | exact Zx | (conv => whnf))))
      all_goals (try dsimp only [Int.toNat_natCast] at *)
      (repeat' (first | refine Zs ?_ | refine Zk ?_ | ((first | refine Za ?_ | refine Zr ?_ | refine Zp ?_ | refine Ze ?_ | refine Zd ?_ | refine W.drawT dr14 rfl mixed rfl ?_ | refine Zn ?_ | refine Zc ?_ | refine UnK.mk (fun b hb => ?_)); conv => whnf) | (refine Zb (fun h => ?_) (fun h => ?_) <;> first | exact Zx | (conv => whnf))))
      all_goals first | (exfalso; omega) | skip
      refine ⟨k + 1, by omega, by omega, ?_, ?_, ?_, ?_⟩
      all_goals exact Yz
  · obtain rfl : k = ss.length := by omega
    rw [List.take_length] at *
    (repeat' (first | refine Zs ?_ | refine Zk ?_ | ((first | refine Za ?_ | refine Zr ?_ | refine Zp ?_ | refine Ze ?_ | refine Zd ?_ | refine W.drawT dr14 rfl mixed rfl ?_ | refine Zn ?_ | refine Zc ?_ | refine UnK.mk (fun b hb => ?_)); conv => whnf) | (refine Zb (fun h => ?_) (fun h => ?_) <;> first | exact Zx | (conv => whnf))))
    all_goals exact Zrz
end Go.Proofs.YtfinilnaofbkkaaGreat

namespace Go.Proofs.YtfinilnaofbkkaaGreat
open Go Go.RowKit
set_option linter.unusedVariables false
set_option linter.unusedSimpArgs false
set_option maxRecDepth 100000
set_option maxHeartbeats 4000000
attribute [local irreducible] ResLe AVle ArgLe ArgP EntLe Dle ResH ArgQ

def chgM (cs : List Ch) (L : List Int) (k : Nat) : List Ch := (List.range cs.length).map fun i => if i < k then chgX cs L i else cs.getD i default
theorem chgM_at (cs : List Ch) (L : List Int) (k : Nat) {i : Nat} (h : i < cs.length) : (chgM cs L k).getD i default = if i < k then chgX cs L i else cs.getD i default := by simp [chgM, h]
theorem chgM_full (cs : List Ch) (L : List Int) : chgM cs L cs.length = chgL cs L := List.map_congr_left fun i hi => if_pos (List.mem_range.1 hi)
theorem chgM_zero (cs : List Ch) (L : List Int) : chgM cs L 0 = cs := by
  have : chgM cs L 0 = (List.range cs.length).map fun i => cs.getD i default := List.map_congr_left fun i hi => if_neg (by omega)
  rw [this, range_getD]
theorem chgM_set {cs : List Ch} {L : List Int} {k : Nat} (hk : k < cs.length) {v : Int} (hv : sx L (itN L k) 1000 1000000000001 = v) : ∀ i, i < cs.length → ∀ j, j < 3 → Dle (setF (rowF chE (chgM cs L k)) k 2 [.val (.int .i64 v)] i j) (rowF chE (chgM cs L (k + 1)) i j) := by
  intro i hi j hj
  rw [setF_eq]
  unfold rowF
  rw [chgM_at cs L (k + 1) hi, chgM_at cs L k hi]
  split
  · rename_i hc
    obtain ⟨rfl, h1, h2⟩ := hc
    have h2 : j < 2 + 1 := h2
    rw [if_pos (by omega)]
    obtain rfl : j = 2 := by omega
    rw [← hv]
    exact Dle.refl _
  · rename_i hc
    by_cases hik : i = k
    · subst hik
      have hj2 : j < 2 := by
        rcases Nat.lt_or_ge j 2 with h | h
        · exact h
        · exact absurd ⟨rfl, h, by show j < 2 + 1; omega⟩ hc
      rw [if_neg (by omega), if_pos (by omega)]
      rcases j with _ | _ | j
      · exact Dle.refl _
      · exact Dle.refl _
      · omega
    · by_cases h : i < k
      · rw [if_pos h, if_pos (by omega)]
        exact Dle.refl _
      · rw [if_neg h, if_neg (by omega)]
        exact Dle.refl _
theorem charged_t (ss : List Lt) (cs : List Ch) (f : Int) (L : List Int) (hL : L.length ≤ 9223372036854775807) (hc : cs.length ≤ 1000) : ACalls XX 7 [esA ss cs f, .dat (ilst L)] (.dat (chD (chgL cs L))) := by
  refine ACalls.of (n := Tryz.f7.ntmps) XX_ok Tryz.func7 rfl (by kernel_rfl) rfl rfl (Nat.le_of_ble_eq_true rfl) ?_
  (repeat' (first | refine Zs ?_ | refine Zk ?_ | ((first | refine Za ?_ | refine Zr ?_ | refine Zp ?_ | refine Ze ?_ | refine Zd ?_ | refine Zn ?_ | refine Zc ?_ | refine UnK.mk (fun b hb => ?_)); conv => whnf) | (refine Zb (fun h => ?_) (fun h => ?_) <;> first | exact Zx | (conv => whnf))))
  refine (W.loopK (ι := Nat) [5] [] (fun k => [(7, iA k), (6, .own 11 3 0 cs.length)]) (fun k => [(10, srcE L (itN L k)), (11, .row 43 3 cs.length (rowF chE (chgM cs L k)))]) (fun k => k ≤ cs.length) (fun k => cs.length - k) 0 (Nat.zero_le _) ?_ ?_ ?_)
  · (repeat' (first | exact trivial | exact Yr | exact Yi (by first | rfl | (simp; done) | omega) | exact Yo (by first | rfl | (simp; done) | omega) | exact Yd | exact Yn | exact Ye (by first | rfl | (simp; done) | omega) | exact ⟨_, rfl, Yf, rfl⟩ | refine ⟨_, rfl, Yb ?_, rfl⟩ | refine ⟨_, rfl, Yw (by first | rfl | (simp; done) | omega) ?_, rfl⟩ | refine And.intro ?_ ?_))
  · (repeat' (first | exact trivial | exact Yr | exact Yi (by first | rfl | (simp; done) | omega) | exact Yo (by first | rfl | (simp; done) | omega) | exact Yd | exact Yn | exact Ye (by first | rfl | (simp; done) | omega) | exact ⟨_, rfl, Yf, rfl⟩ | refine ⟨_, rfl, Yb ?_, rfl⟩ | refine ⟨_, rfl, Yw (by first | rfl | (simp; done) | omega) ?_, rfl⟩ | refine And.intro ?_ ?_))
    rw [chgM_zero]
    exact (RowIs.cat (RowIs.nil chE 3 0 (fun _ _ => .val undef) rfl) (RowIs.refl chE 3 cs)).le
  conv => whnf
  intro k hk
  by_cases hk' : k < cs.length
  · have hi := itN_le L k
    have h1 := small_h L (itN L k) 1000 1000000000001 hL (by omega) (by omega) (by omega) (by omega)
    (repeat' (first | refine Zs ?_ | refine Zk ?_ | ((first | refine Za ?_ | refine Zr ?_ | refine Zp ?_ | refine Ze ?_ | refine Zd ?_ | refine Zn ?_ | refine Zc ?_ | refine UnK.mk (fun b hb => ?_) | refine ExCall.h [(5000, 10)] rfl h1 rfl ⟨rfl, trivial⟩ ?_); conv => whnf) | (refine Zb (fun h => ?_) (fun h => ?_) <;> first | exact Zx | (conv => whnf))))
    all_goals first | (exfalso; omega) | skip
    refine ⟨k + 1, by omega, by omega, ?_, ?_, ?_, ?_⟩
    all_goals (repeat' (first | exact trivial | exact Yr | exact Yi (by first | rfl | omega) | exact Yo (by first | rfl | omega) | exact Yd | exact Yn | exact Ye (by first | rfl | omega) | exact ⟨_, rfl, Yf, rfl⟩ | refine ⟨_, rfl, Yb ?_, rfl⟩ | refine ⟨_, rfl, Yw (by first | rfl | omega) ?_, rfl⟩ | refine And.intro ?_ ?_))
    simp only [Nat.zero_add, Int.toNat_natCast]
    exact chgM_set hk' rfl
  · obtain rfl : k = cs.length := by omega
    rw [chgM_full]
    (repeat' (first | refine Zs ?_ | refine Zk ?_ | ((first | refine Za ?_ | refine Zr ?_ | refine Zp ?_ | refine Ze ?_ | refine Zd ?_ | refine Zn ?_ | refine Zc ?_ | refine UnK.mk (fun b hb => ?_)); conv => whnf) | (refine Zb (fun h => ?_) (fun h => ?_) <;> first | exact Zx | (conv => whnf))))
    refine RowIs.res (enc := chE) (us := chgL cs L) rfl ⟨(chgL_len _ _).symm, fun _ _ _ _ => Dle.refl _⟩ rfl
theorem sameDues_t (us : List Du) (hl : us.length ≤ 1000000) : ACalls XX 15 [.dat (duD us), .dat (duD us)] (bA true) := by
  have he : EqS Tryz.prog 68 2 := eqS_mk Tryz.eqGuardType68 Tryz.underlying68 Tryz.stoodInHeld68 (by kernel_rfl) rfl
  refine ACalls.of (n := Tryz.f15.ntmps) XX_ok Tryz.func15 rfl (by kernel_rfl) rfl rfl (Nat.le_of_ble_eq_true rfl) ?_
  (repeat' (first | refine Zs ?_ | refine Zk ?_ | ((first | refine Za ?_ | refine Zr ?_ | refine Zp ?_ | refine Ze ?_ | refine Zd ?_ | refine W.drawT dr15 rfl mixed rfl ?_ | refine Zn ?_ | refine Zc ?_ | refine UnK.mk (fun b hb => ?_)); conv => whnf) | (refine Zb (fun h => ?_) (fun h => ?_) <;> first | exact Zx | (conv => whnf))))
  refine (W.loopK (ι := Nat) [0, 1] [] (fun k => [(5, iA k)]) (fun _ => []) (fun k => k ≤ us.length) (fun k => us.length - k) 0 (Nat.zero_le _) ⟨AVle.refl _, trivial⟩ trivial ?_)
  conv => whnf
  intro k hk
  (repeat' (first | refine Zs ?_ | refine Zk ?_ | ((first | refine Za ?_ | refine Zr ?_ | refine Zp ?_ | refine Ze ?_ | refine Zd ?_ | refine W.drawT dr15 rfl mixed rfl ?_ | refine Zn ?_ | refine Zc ?_ | refine UnK.mk (fun b hb => ?_)); conv => whnf) | (refine Zb (fun h => ?_) (fun h => ?_) <;> first | exact Zx | (conv => whnf))))
  · (refine ⟨k + 1, by omega, by omega, ?_, ?_, ?_, ?_⟩ <;> (repeat' (first | exact trivial | exact AVle.refl _ | exact AVle.int (by omega) | exact AVle.int (by (try push_cast); omega) | exact ⟨_, rfl, EntLe.refl _, rfl⟩ | refine ⟨?_, ?_⟩)))
  · exact Zrz
def nW (ss : List Lt) : Nat → Int
  | 0 => 0
  | k + 1 => IntKind.i64.wrap (nW ss k + ((ss.getD k default).us.length : Int))
def lightW (ss : List Lt) : Prop := ∀ i, i < ss.length → i < 80 ∧ nW ss (i + 1) ≤ 300
noncomputable instance (ss : List Lt) : Decidable (lightW ss) := Classical.propDecidable _
theorem lightW_len {ss : List Lt} (h : lightW ss) : ss.length ≤ 80 := by
  rcases Nat.lt_or_ge 80 ss.length with h1 | h1
  · have := (h 80 h1).1; omega
  · exact h1
theorem light27_t (ss : List Lt) (hL : ss.length ≤ 9223372036854775807) : ACalls XX 9 [.dat (ltD ss)] (bA (decide (lightW ss))) := by
  refine ACalls.of (n := Tryz.f9.ntmps) XX_ok Tryz.func9 rfl (by kernel_rfl) rfl rfl (Nat.le_of_ble_eq_true rfl) ?_
  (repeat' (first | refine Zs ?_ | refine Zk ?_ | ((first | refine Za ?_ | refine Zr ?_ | refine Zp ?_ | refine Ze ?_ | refine Zd ?_ | refine Zn ?_ | refine Zc ?_ | refine UnK.mk (fun b hb => ?_)); conv => whnf) | (refine Zb (fun h => ?_) (fun h => ?_) <;> first | exact Zx | (conv => whnf))))
  refine (W.loopK (ι := Nat) [0] [] (fun k => [(4, iA k), (3, iA (nW ss k))]) (fun _ => []) (fun k => k ≤ ss.length ∧ ∀ i, i < k → i < 80 ∧ nW ss (i + 1) ≤ 300) (fun k => ss.length - k) 0 ⟨Nat.zero_le _, fun i hi => absurd hi (by omega)⟩ ?_ ?_ ?_)
  · exact Yz
  · exact Yz
  conv => whnf
  intro k ⟨hk, hz⟩
  by_cases hk' : k < ss.length
  · by_cases hok : k < 80 ∧ nW ss (k + 1) ≤ 300
    · (repeat' (first | refine Zs ?_ | refine Zk ?_ | ((first | refine Za ?_ | refine Zr ?_ | refine Zp ?_ | refine Ze ?_ | refine Zd ?_ | refine Zn ?_ | refine Zc ?_ | refine UnK.mk (fun b hb => ?_)); conv => whnf) | (refine Zb (fun h => ?_) (fun h => ?_) <;> first | exact Zx | (conv => whnf))))
      refine NumK.as (nW ss (k + 1)) rfl ?_
      conv => whnf
      (repeat' (first | refine Zs ?_ | refine Zk ?_ | ((first | refine Za ?_ | refine Zr ?_ | refine Zp ?_ | refine Ze ?_ | refine Zd ?_ | refine Zn ?_ | refine Zc ?_ | refine UnK.mk (fun b hb => ?_)); conv => whnf) | (refine Zb (fun h => ?_) (fun h => ?_) <;> first | exact Zx | (conv => whnf))))
      all_goals first | (exfalso; omega) | skip
      refine ⟨k + 1, ⟨by omega, fun i hi => ?_⟩, by omega, ?_, ?_, ?_, ?_⟩
      · by_cases hik : i = k
        · subst hik; exact hok
        · exact hz i (by omega)
      all_goals exact Yz
    · have hn : ¬ lightW ss := fun h => hok (h k hk')
      (repeat' (first | refine Zs ?_ | refine Zk ?_ | ((first | refine Za ?_ | refine Zr ?_ | refine Zp ?_ | refine Ze ?_ | refine Zd ?_ | refine Zn ?_ | refine Zc ?_ | refine UnK.mk (fun b hb => ?_)); conv => whnf) | (refine Zb (fun h => ?_) (fun h => ?_) <;> first | exact Zx | (conv => whnf))))
      refine NumK.as (nW ss (k + 1)) rfl ?_
      conv => whnf
      (repeat' (first | refine Zs ?_ | refine Zk ?_ | ((first | refine Za ?_ | refine Zr ?_ | refine Zp ?_ | refine Ze ?_ | refine Zd ?_ | refine Zn ?_ | refine Zc ?_ | refine UnK.mk (fun b hb => ?_)); conv => whnf) | (refine Zb (fun h => ?_) (fun h => ?_) <;> first | exact Zx | (conv => whnf))))
      all_goals first | ((repeat' (first | exact trivial | exact Zm | exact Zl | exact ResLe.row0 rfl | exact Zi (by exact hn) | exact Zo (h := by exact hn) | exact ResLe.bo rfl rfl Iff.rfl | refine ResLe.agg ?_ | refine And.intro ?_ ?_ | ((conv => whnf); first | exact Zl | exact ResLe.row0 rfl | exact Zi (by exact hn) | exact Zo (h := by exact hn) | exact ResLe.bo rfl rfl Iff.rfl | refine ResLe.agg ?_ | refine And.intro ?_ ?_))); done) | (exfalso; omega)
  · have hn : lightW ss := fun i hi => hz i (by omega)
    (repeat' (first | refine Zs ?_ | refine Zk ?_ | ((first | refine Za ?_ | refine Zr ?_ | refine Zp ?_ | refine Ze ?_ | refine Zd ?_ | refine Zn ?_ | refine Zc ?_ | refine UnK.mk (fun b hb => ?_)); conv => whnf) | (refine Zb (fun h => ?_) (fun h => ?_) <;> first | exact Zx | (conv => whnf))))
    all_goals (repeat' (first | exact trivial | exact Zm | exact Zl | exact ResLe.row0 rfl | exact Zi (by exact hn) | exact Zo (h := by exact hn) | exact ResLe.bo rfl rfl Iff.rfl | refine ResLe.agg ?_ | refine And.intro ?_ ?_ | ((conv => whnf); first | exact Zl | exact ResLe.row0 rfl | exact Zi (by exact hn) | exact Zo (h := by exact hn) | exact ResLe.bo rfl rfl Iff.rfl | refine ResLe.agg ?_ | refine And.intro ?_ ?_)))
structure Lc where
  l : Int
  b : Int
  a : Int
  deriving Inhabited
def lcE (x : Lc) (j : Nat) : D := match j with
  | 0 => .val (.int .i64 x.l)
  | 1 => .val (.int .i64 x.b)
  | _ => .val (.int .i64 x.a)
abbrev lcD (us : List Lc) : D := .lst 3 us.length (rowF lcE us)
def dfX (cs ds : List Ch) (x : Lt) : List Lc := if dutV cs x.us = dutV ds x.us then [] else [⟨x.id, dutV cs x.us, dutV ds x.us⟩]
def dfL (ss : List Lt) (cs ds : List Ch) : List Lc := ss.flatMap (dfX cs ds)
theorem dfL_snoc (ss : List Lt) (cs ds : List Ch) (k : Nat) (h : k < ss.length) : dfL (ss.take (k + 1)) cs ds = dfL (ss.take k) cs ds ++ dfX cs ds (ss.getD k default) := by
  unfold dfL
  rw [take_snoc ss k h, List.flatMap_append]
  simp
theorem dfL_len (cs ds : List Ch) : ∀ ss : List Lt, (dfL ss cs ds).length ≤ ss.length
  | [] => by simp [dfL]
  | x :: l => by
    have h := dfL_len cs ds l
    unfold dfL at h ⊢
    rw [List.flatMap_cons, List.length_append, List.length_cons]
    have : (dfX cs ds x).length ≤ 1 := by unfold dfX; split <;> simp
    omega
theorem dif_t (ss : List Lt) (cs ds : List Ch) (hL : ss.length ≤ 1000) (hc : cs.length ≤ 1000) (hd : ds.length ≤ 1000) (e1 : byE ss cs = 0) (e2 : byE ss ds = 0) : ACalls XX 16 [.dat (ltD ss), .dat (chD cs), .dat (chD ds)] (.tup [.dat (lcD (dfL ss cs ds)), iA 0]) := by
  have he : EqS Tryz.prog 68 2 := eqS_mk Tryz.eqGuardType68 Tryz.underlying68 Tryz.stoodInHeld68 (by kernel_rfl) rfl
  have h1 := byLot_t ss cs (by omega) (by omega)
  have h2 := byLot_t ss ds (by omega) (by omega)
  have b1 : byL ss cs = dusL ss cs := by unfold byL; rw [if_pos e1]
  have b2 : byL ss ds = dusL ss ds := by unfold byL; rw [if_pos e2]
  rw [e1, b1] at h1
  rw [e2, b2] at h2
  have l1 := dusL_len ss cs
  have l2 := dusL_len ss ds
  refine ACalls.of (n := Tryz.f16.ntmps) XX_ok Tryz.func16 rfl (by kernel_rfl) rfl rfl (Nat.le_of_ble_eq_true rfl) ?_
  (repeat' (first | refine Zs ?_ | refine Zk ?_ | ((first | refine Za ?_ | refine Zr ?_ | refine Zp ?_ | refine Ze ?_ | refine Zd ?_ | refine W.drawT dr16 rfl mixed rfl ?_ | refine Zn ?_ | refine Zc ?_ | refine UnK.mk (fun b hb => ?_) | refine Zy h1 ?_ | refine Zz h1 ?_ | refine Zy h2 ?_ | refine Zz h2 ?_); conv => whnf) | (refine Zb (fun h => ?_) (fun h => ?_) <;> first | exact Zx | (conv => whnf))))
  all_goals first | (exfalso; omega) | skip
  refine (W.adopt 11 57 49 3 (rowF lcE []) rfl rfl rfl rfl ?_)
  conv => whnf
  refine (W.loopK (ι := Nat) [10, 32, 33] [] (fun k => [(34, iA k), (11, .own 57 3 0 (dfL (ss.take k) cs ds).length)]) (fun k => [(57, .row 49 3 (dfL (ss.take k) cs ds).length (rowF lcE (dfL (ss.take k) cs ds)))]) (fun k => k ≤ ss.length) (fun k => ss.length - k) 0 (Nat.zero_le _) ?_ ?_ ?_)
  · exact Yz
  · exact Yz
  conv => whnf
  intro k hk
  have hb := dfL_len cs ds (ss.take k)
  have hb2 := List.length_take_le' k ss
  by_cases hk' : k < ss.length
  · have hs := dfL_snoc ss cs ds k hk'
    have a1 := dusL_at (ss := ss) (cs := cs) hk'
    have a2 := dusL_at (ss := ss) (cs := ds) hk'
    by_cases hx : dutV cs (ss.getD k default).us = dutV ds (ss.getD k default).us
    · have e : dfX cs ds (ss.getD k default) = [] := by unfold dfX; rw [if_pos hx]
      rw [e, List.append_nil] at hs
      (repeat' (first | refine Zs ?_ | refine Zk ?_ | ((first | refine Za ?_ | refine Zr ?_ | refine Zp ?_ | refine Ze ?_ | refine Zd ?_ | refine W.drawT dr16 rfl mixed rfl ?_ | refine Zn ?_ | refine Zc ?_ | refine UnK.mk (fun b hb => ?_)); conv => whnf) | (refine Zb (fun h => ?_) (fun h => ?_) <;> first | exact Zx | (conv => whnf))))
      all_goals (try dsimp only [Int.toNat_natCast] at *)
      (repeat' (first | refine Zs ?_ | refine Zk ?_ | ((first | refine Za ?_ | refine Zr ?_ | refine Zp ?_ | refine Ze ?_ | refine Zd ?_ | refine W.drawT dr16 rfl mixed rfl ?_ | refine Zn ?_ | refine Zc ?_ | refine UnK.mk (fun b hb => ?_)); conv => whnf) | (refine Zb (fun h => ?_) (fun h => ?_) <;> first | exact Zx | (conv => whnf))))
      all_goals first | (exfalso; omega) | (exfalso; simp_all; done) | skip
      refine ⟨k + 1, by omega, by omega, ?_, ?_, ?_, ?_⟩
      all_goals (repeat' (first | exact trivial | exact Yr | exact Yi (by first | rfl | (rw [hs]; done) | omega) | exact Yo (by first | rfl | (rw [hs]; done) | omega) | exact Yd | exact Yn | exact Ye (by first | rfl | (rw [hs]; done) | omega) | exact ⟨_, rfl, Yf, rfl⟩ | refine ⟨_, rfl, Yb ?_, rfl⟩ | refine ⟨_, rfl, Yw (by first | rfl | (rw [hs]; done) | omega) ?_, rfl⟩ | refine And.intro ?_ ?_))
      rw [hs]
      exact fun _ _ _ _ => Dle.refl _
    · have e : dfX cs ds (ss.getD k default) = [⟨(ss.getD k default).id, dutV cs (ss.getD k default).us, dutV ds (ss.getD k default).us⟩] := by unfold dfX; rw [if_neg hx]
      rw [e] at hs
      have hl1 : (dfL (ss.take k) cs ds).length + 1 = (dfL (ss.take (k + 1)) cs ds).length := by rw [hs, List.length_append]; rfl
      (repeat' (first | refine Zs ?_ | refine Zk ?_ | ((first | refine Za ?_ | refine Zr ?_ | refine Zp ?_ | refine Ze ?_ | refine Zd ?_ | refine W.drawT dr16 rfl mixed rfl ?_ | refine Zn ?_ | refine Zc ?_ | refine UnK.mk (fun b hb => ?_)); conv => whnf) | (refine Zb (fun h => ?_) (fun h => ?_) <;> first | exact Zx | (conv => whnf))))
      all_goals (try dsimp only [Int.toNat_natCast] at *)
      (repeat' (first | refine Zs ?_ | refine Zk ?_ | ((first | refine Za ?_ | refine Zr ?_ | refine Zp ?_ | refine Ze ?_ | refine Zd ?_ | refine W.drawT dr16 rfl mixed rfl ?_ | refine Zn ?_ | refine Zc ?_ | refine UnK.mk (fun b hb => ?_)); conv => whnf) | (refine Zb (fun h => ?_) (fun h => ?_) <;> first | exact Zx | (conv => whnf))))
      all_goals first | (exfalso; omega) | (exfalso; simp_all; done) | skip
      refine ⟨k + 1, by omega, by omega, ?_, ?_, ?_, ?_⟩
      all_goals (repeat' (first | exact trivial | exact Yr | exact Yi (by first | rfl | exact hl1 | omega) | exact Yo (by first | rfl | exact hl1 | omega) | exact Yd | exact Yn | exact Ye (by first | rfl | exact hl1 | omega) | exact ⟨_, rfl, Yf, rfl⟩ | refine ⟨_, rfl, Yb ?_, rfl⟩ | refine ⟨_, rfl, Yw (by first | rfl | exact hl1 | omega) ?_, rfl⟩ | refine And.intro ?_ ?_))
      rw [hs]
      refine rowF_snoc rfl fun j hj => ?_
      rcases j with _ | _ | _ | j
      all_goals first | exact Dle.refl _ | (rw [a1]; exact Dle.refl _) | (rw [a2]; exact Dle.refl _) | omega
  · obtain rfl : k = ss.length := by omega
    rw [List.take_length] at *
    (repeat' (first | refine Zs ?_ | refine Zk ?_ | ((first | refine Za ?_ | refine Zr ?_ | refine Zp ?_ | refine Ze ?_ | refine Zd ?_ | refine W.drawT dr16 rfl mixed rfl ?_ | refine Zn ?_ | refine Zc ?_ | refine UnK.mk (fun b hb => ?_)); conv => whnf) | (refine Zb (fun h => ?_) (fun h => ?_) <;> first | exact Zx | (conv => whnf))))
    all_goals exact Zrz
theorem rdif_t (ss : List Lt) (cs ds : List Ch) (hL : ss.length ≤ 1000) (hz : ∀ x ∈ ss, x.c.size ≤ 9223372036854775807) (hc : cs.length ≤ 1000) (hd : ds.length ≤ 1000) (e1 : byE ss cs = 0) (e2 : byE ss ds = 0) : ACalls XX 17 [.dat (ltD ss), .dat (chD cs), .dat (chD ds)] (.tup [.dat (lcD (dfL ss cs ds)), iA 0]) := by
  have h1 := rbyLot_t ss cs (by omega) hz (by omega)
  have h2 := rbyLot_t ss ds (by omega) hz (by omega)
  have b1 : byL ss cs = dusL ss cs := by unfold byL; rw [if_pos e1]
  have b2 : byL ss ds = dusL ss ds := by unfold byL; rw [if_pos e2]
  rw [e1, b1] at h1
  rw [e2, b2] at h2
  have l1 := dusL_len ss cs
  have l2 := dusL_len ss ds
  refine ACalls.of (n := Tryz.f17.ntmps) XX_ok Tryz.func17 rfl (by kernel_rfl) rfl rfl (Nat.le_of_ble_eq_true rfl) ?_
  (repeat' (first | refine Zs ?_ | refine Zk ?_ | ((first | refine Za ?_ | refine Zr ?_ | refine Zp ?_ | refine Ze ?_ | refine Zd ?_ | refine W.drawT dr17 rfl mixed rfl ?_ | refine Zn ?_ | refine Zc ?_ | refine UnK.mk (fun b hb => ?_) | refine Zy h1 ?_ | refine Zz h1 ?_ | refine Zy h2 ?_ | refine Zz h2 ?_); conv => whnf) | (refine Zb (fun h => ?_) (fun h => ?_) <;> first | exact Zx | (conv => whnf))))
  all_goals first | (exfalso; omega) | skip
  refine (W.adopt 11 66 49 3 (rowF lcE []) rfl rfl rfl rfl ?_)
  conv => whnf
  refine (W.loopK (ι := Nat) [8, 10] [] (fun k => [(12, iA k), (11, .own 66 3 0 (dfL (ss.take k) cs ds).length)]) (fun k => [(66, .row 49 3 (dfL (ss.take k) cs ds).length (rowF lcE (dfL (ss.take k) cs ds)))]) (fun k => k ≤ ss.length) (fun k => ss.length - k) 0 (Nat.zero_le _) ?_ ?_ ?_)
  · exact Yz
  · exact Yz
  conv => whnf
  intro k hk
  have hb := dfL_len cs ds (ss.take k)
  have hb2 := List.length_take_le' k ss
  by_cases hk' : k < ss.length
  · have hs := dfL_snoc ss cs ds k hk'
    have a1 := dusL_at (ss := ss) (cs := cs) hk'
    have a2 := dusL_at (ss := ss) (cs := ds) hk'
    by_cases hx : dutV cs (ss.getD k default).us = dutV ds (ss.getD k default).us
    · have e : dfX cs ds (ss.getD k default) = [] := by unfold dfX; rw [if_pos hx]
      rw [e, List.append_nil] at hs
      (repeat' (first | refine Zs ?_ | refine Zk ?_ | ((first | refine Za ?_ | refine Zr ?_ | refine Zp ?_ | refine Ze ?_ | refine Zd ?_ | refine W.drawT dr17 rfl mixed rfl ?_ | refine Zn ?_ | refine Zc ?_ | refine UnK.mk (fun b hb => ?_)); conv => whnf) | (refine Zb (fun h => ?_) (fun h => ?_) <;> first | exact Zx | (conv => whnf))))
      all_goals (try dsimp only [Int.toNat_natCast] at *)
      (repeat' (first | refine Zs ?_ | refine Zk ?_ | ((first | refine Za ?_ | refine Zr ?_ | refine Zp ?_ | refine Ze ?_ | refine Zd ?_ | refine W.drawT dr17 rfl mixed rfl ?_ | refine Zn ?_ | refine Zc ?_ | refine UnK.mk (fun b hb => ?_)); conv => whnf) | (refine Zb (fun h => ?_) (fun h => ?_) <;> first | exact Zx | (conv => whnf))))
      all_goals first | (exfalso; omega) | (exfalso; simp_all; done) | skip
      refine ⟨k + 1, by omega, by omega, ?_, ?_, ?_, ?_⟩
      all_goals (repeat' (first | exact trivial | exact Yr | exact Yi (by first | rfl | (rw [hs]; done) | omega) | exact Yo (by first | rfl | (rw [hs]; done) | omega) | exact Yd | exact Yn | exact Ye (by first | rfl | (rw [hs]; done) | omega) | exact ⟨_, rfl, Yf, rfl⟩ | refine ⟨_, rfl, Yb ?_, rfl⟩ | refine ⟨_, rfl, Yw (by first | rfl | (rw [hs]; done) | omega) ?_, rfl⟩ | refine And.intro ?_ ?_))
      rw [hs]
      exact fun _ _ _ _ => Dle.refl _
    · have e : dfX cs ds (ss.getD k default) = [⟨(ss.getD k default).id, dutV cs (ss.getD k default).us, dutV ds (ss.getD k default).us⟩] := by unfold dfX; rw [if_neg hx]
      rw [e] at hs
      have hl1 : (dfL (ss.take k) cs ds).length + 1 = (dfL (ss.take (k + 1)) cs ds).length := by rw [hs, List.length_append]; rfl
      (repeat' (first | refine Zs ?_ | refine Zk ?_ | ((first | refine Za ?_ | refine Zr ?_ | refine Zp ?_ | refine Ze ?_ | refine Zd ?_ | refine W.drawT dr17 rfl mixed rfl ?_ | refine Zn ?_ | refine Zc ?_ | refine UnK.mk (fun b hb => ?_)); conv => whnf) | (refine Zb (fun h => ?_) (fun h => ?_) <;> first | exact Zx | (conv => whnf))))
      all_goals (try dsimp only [Int.toNat_natCast] at *)
      (repeat' (first | refine Zs ?_ | refine Zk ?_ | ((first | refine Za ?_ | refine Zr ?_ | refine Zp ?_ | refine Ze ?_ | refine Zd ?_ | refine W.drawT dr17 rfl mixed rfl ?_ | refine Zn ?_ | refine Zc ?_ | refine UnK.mk (fun b hb => ?_)); conv => whnf) | (refine Zb (fun h => ?_) (fun h => ?_) <;> first | exact Zx | (conv => whnf))))
      all_goals first | (exfalso; omega) | (exfalso; simp_all; done) | skip
      refine ⟨k + 1, by omega, by omega, ?_, ?_, ?_, ?_⟩
      all_goals (repeat' (first | exact trivial | exact Yr | exact Yi (by first | rfl | exact hl1 | omega) | exact Yo (by first | rfl | exact hl1 | omega) | exact Yd | exact Yn | exact Ye (by first | rfl | exact hl1 | omega) | exact ⟨_, rfl, Yf, rfl⟩ | refine ⟨_, rfl, Yb ?_, rfl⟩ | refine ⟨_, rfl, Yw (by first | rfl | exact hl1 | omega) ?_, rfl⟩ | refine And.intro ?_ ?_))
      rw [hs]
      refine rowF_snoc rfl fun j hj => ?_
      rcases j with _ | _ | _ | j
      all_goals first | exact Dle.refl _ | (rw [a1]; exact Dle.refl _) | (rw [a2]; exact Dle.refl _) | omega
  · obtain rfl : k = ss.length := by omega
    rw [List.take_length] at *
    (repeat' (first | refine Zs ?_ | refine Zk ?_ | ((first | refine Za ?_ | refine Zr ?_ | refine Zp ?_ | refine Ze ?_ | refine Zd ?_ | refine W.drawT dr17 rfl mixed rfl ?_ | refine Zn ?_ | refine Zc ?_ | refine UnK.mk (fun b hb => ?_)); conv => whnf) | (refine Zb (fun h => ?_) (fun h => ?_) <;> first | exact Zx | (conv => whnf))))
    all_goals exact Zrz
end Go.Proofs.YtfinilnaofbkkaaGreat
