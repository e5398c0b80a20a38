/- Sorting an own row of structs by slices.SortFunc: the kit's contract, for the walk by descriptions. -/
import Derived.Test.YtoeghejbgibioaaVB
import Derived.Shelf.SlSortCmp.WholeK
import Derived.Shelf.SlSortCmp.NoneTotal
import Derived.Shelf.Spec.SlicesGrow
namespace Go.Proofs.Ytoeghejbgibioaa
open Go Go.RowKit Go.Sort Go.Lib Go.Shelf
set_option linter.unusedVariables false
set_option linter.unusedSimpArgs false

theorem grow_of {w w' : World} (h : Below w.heap.size w w') (hd : w.drawn ≤ w'.drawn) : ∃ q os, w' = grow (w.drewN q) os := by
  refine ⟨w'.drawn - w.drawn, w'.heap.extract w.heap.size w'.heap.size, ?_⟩
  obtain ⟨h1, t1, d1, o1, p1⟩ := w
  obtain ⟨h2, t2, d2, o2, p2⟩ := w'
  obtain ⟨eo, et, ep, es, eb⟩ := h
  simp only at eo et ep es eb hd
  subst eo et ep
  have e1 : d2 = d1 + (d2 - d1) := by omega
  have e2 : h2 = h1 ++ h2.extract h1.size h2.size := by
    apply Array.ext_getElem?
    intro k
    rw [Array.getElem?_append]
    split
    · rename_i hk; exact eb k hk
    · rename_i hk
      rw [Array.getElem?_extract]
      simp only [Nat.min_self]
      split
      · rw [Nat.add_sub_cancel' (by omega)]
      · rw [Array.getElem?_eq_none (by omega)]
  show World.mk h2 t2 d2 o2 p2 = World.mk (h1 ++ h2.extract h1.size h2.size) t2 (d1 + (d2 - d1)) o2 p2
  rw [← e1, ← e2]

def clampN (n i : Nat) : Nat := if i < n then i else 0
def cfN (n : Nat) (cf : Nat → Nat → Int) (x y : Nat) : Int := cf (clampN n x) (clampN n y)
theorem clampN_lt {n i : Nat} (h : 0 < n) : clampN n i < n := by unfold clampN; split <;> omega
theorem clampN_of {n i : Nat} (h : i < n) : clampN n i = i := by unfold clampN; rw [if_pos h]
theorem cfN_swo {n : Nat} {cf : Nat → Nat → Int} (h : SWO (ltOf cf)) : SWO (ltOf (cfN n cf)) :=
  ⟨fun x => h.irrefl _, fun x y z => h.trans _ _ _, fun x y z => h.ntrans _ _ _⟩
def sortIx (n : Nat) (cf : Nat → Nat → Int) : Array Nat := pdq (ltOf (cfN n cf)) (Array.range n) 0 n (Lib.bitLen n) true true
def sortAt (n : Nat) (cf : Nat → Nat → Int) (i : Nat) : Nat := (sortIx n cf)[i]!
theorem sortIx_ok {n : Nat} {cf : Nat → Nat → Int} (h : SWO (ltOf cf)) : PermIn 0 n (Array.range n) (sortIx n cf) ∧ SortedIn (ltOf (cfN n cf)) 0 n (sortIx n cf) :=
  pdq_sorts (ltOf (cfN n cf)) (cfN_swo h) (Array.range n) 0 n (Lib.bitLen n) true true (Nat.zero_le _) (by simp) (Or.inl rfl)
theorem sortIx_size {n : Nat} {cf : Nat → Nat → Int} (h : SWO (ltOf cf)) : (sortIx n cf).size = n := by
  have := (sortIx_ok (n := n) h).1.1
  simpa using this
theorem sortIx_perm {n : Nat} {cf : Nat → Nat → Int} (h : SWO (ltOf cf)) : (sortIx n cf).toList.Perm (List.range n) := by
  have h1 := (sortIx_ok (n := n) h).1.2.2
  have h2 := sortIx_size (n := n) h
  have e1 : (sortIx n cf).extract 0 n = sortIx n cf := by
    have : (sortIx n cf).extract 0 (sortIx n cf).size = sortIx n cf := by simp
    rwa [h2] at this
  have e2 : (Array.range n).extract 0 n = Array.range n := by
    conv => lhs; arg 3; rw [← Array.size_range (n := n)]
    simp
  rw [e1, e2] at h1
  simpa using h1
theorem sortAt_map {n : Nat} {cf : Nat → Nat → Int} (h : SWO (ltOf cf)) : (List.range n).map (sortAt n cf) = (sortIx n cf).toList := by
  have h2 := sortIx_size (n := n) h
  apply List.ext_getElem?
  intro i
  by_cases hi : i < n
  · rw [List.getElem?_map, List.getElem?_range hi]
    unfold sortAt
    simp [getElem!_pos, h2, hi]
  · rw [List.getElem?_eq_none (by simp; omega), List.getElem?_eq_none (by simp [h2]; omega)]
theorem sortAt_perm {n : Nat} {cf : Nat → Nat → Int} (h : SWO (ltOf cf)) : ((List.range n).map (sortAt n cf)).Perm (List.range n) := by
  rw [sortAt_map h]; exact sortIx_perm h
theorem sortAt_lt {n : Nat} {cf : Nat → Nat → Int} (h : SWO (ltOf cf)) {i : Nat} (hi : i < n) : sortAt n cf i < n := by
  have h1 : sortAt n cf i ∈ (List.range n).map (sortAt n cf) := List.mem_map.2 ⟨i, List.mem_range.2 hi, rfl⟩
  exact List.mem_range.1 ((sortAt_perm h).mem_iff.1 h1)
theorem sortAt_le {n : Nat} {cf : Nat → Nat → Int} (h : SWO (ltOf cf)) {i j : Nat} (hij : i < j) (hj : j < n) : ¬ cf (sortAt n cf j) (sortAt n cf i) < 0 := by
  have h1 := (sortIx_ok (n := n) h).2 i j (Nat.zero_le _) hij hj
  have e1 : clampN n (sortAt n cf i) = sortAt n cf i := clampN_of (sortAt_lt h (by omega))
  have e2 : clampN n (sortAt n cf j) = sortAt n cf j := clampN_of (sortAt_lt h hj)
  have h2 : decide (cf (clampN n (sortAt n cf j)) (clampN n (sortAt n cf i)) < 0) = false := h1
  rw [e1, e2] at h2
  exact of_decide_eq_false h2

theorem Sim.pubB {X : Cx} {R : Run} {ρ : Env} {M : Mem} {st : St} {a : Act} {w : World} {t r : Nat} {E : TypeId} {cs : List AV} {ds : List D} (h : Sim X R ρ M st a w) (ht : st.get t = .ptr r 0) (he : st.ent r = some (.blk E cs)) (hds : mapD cs = some ds) (hr : r < 5000) (hlo : X.lo = 5000) :
    ∃ M', Mem.le M M' ∧ Sim X R ρ M' ⟨(t, .ro ds.length fun j => ds.getD j (.val undef)) :: st.fr, (r, .dead) :: st.hp⟩ a w := by
  obtain ⟨g, hg, hv⟩ := ptr_of (ht ▸ h.slots t)
  obtain ⟨g', vs, hg', hh, hl, hc⟩ := h.ents r _ he
  rw [hg] at hg'; cases hg'
  obtain ⟨hd1, hd2⟩ := mapD_at hds
  obtain ⟨M', hM'⟩ : ∃ M' : Mem, M' = fun p => match M p with
    | some v => some v
    | none => if (ρ r).1 = some p.block then allM w p else none := ⟨_, rfl⟩
  have hle : Mem.le M M' := fun p v hp => by rw [hM']; simp only [hp]
  have hnew : ∀ p v, M' p = some v → M p = some v ∨ ((ρ r).1 = some p.block ∧ allM w p = some v) := fun p v hp => by
    rw [hM'] at hp
    cases hm : M p with
    | some u => simp only [hm] at hp; cases hp; exact .inl rfl
    | none =>
      simp only [hm] at hp
      split at hp
      · rename_i hb; exact .inr ⟨hb, hp⟩
      · cases hp
  have hof : ∀ p v, (ρ r).1 = some p.block → w.cell? p = some v → v.oneCell' = true → M' p = some v := fun p v hb hc ho => by
    rw [hM']
    cases hm : M p with
    | some u =>
      have := (h.pub p u hm).1
      rw [hc] at this; cases this
      simp only [hm]
    | none =>
      simp only [hm, if_pos hb]
      exact allM_of hc ho
  have hents : ∀ k q, (⟨(t, .ro ds.length fun j => ds.getD j (.val undef)) :: st.fr, (r, .dead) :: st.hp⟩ : St).ent k = some q → (k = r ∧ q = .dead) ∨ (k ≠ r ∧ st.ent k = some q) := fun k q hq => by
    have hq' : lk k ((r, .dead) :: st.hp) = some q := hq
    rw [lk_cons] at hq'
    split at hq'
    · rename_i hrk; cases hq'; exact .inl ⟨hrk.symm, rfl⟩
    · rename_i hrk; exact .inr ⟨fun e => hrk e.symm, hq'⟩
  refine ⟨M', hle, ⟨h.size, h.defers, h.chg, Mem.le_trans h.m0 hle, h.g0, fun p v hp => ?_, fun p v hp => ?_, fun s => ?_, fun k q hq => ?_, fun k q g hq ho hg => ?_, fun k k' q q' hq hq' ho ho' => ?_, fun k q g p v hq ho hg hp => ?_, h.fix, h.drn, h.kn⟩⟩
  · rcases hnew p v hp with h1 | ⟨h1, h2⟩
    · exact h.fresh p v h1
    · rcases h.own r _ p.block he rfl h1 with h3 | h3
      · exact .inr h3
      · omega
  · rcases hnew p v hp with h1 | ⟨h1, h2⟩
    · exact h.pub p v h1
    · exact allM_ok w p v h2
  · rw [St.get_cons]
    by_cases hts : t = s
    · rw [if_pos hts]
      subst hts
      rw [hv]
      have hch : ∀ j, j < ds.length → ∃ u, vs[j]? = some u ∧ DenD M (ds.getD j (.val undef)) u ∧ u.oneCell' = true := fun j hj => by
        have hj2 : j < cs.length := by omega
        have hj3 : j < vs.size := by omega
        obtain ⟨d, e1, e2⟩ := hd2 j _ (List.getElem?_eq_getElem hj2)
        obtain ⟨e3, e4⟩ := AV.toD_den e2 (hc j _ _ (List.getElem?_eq_getElem hj2) (Array.getElem?_eq_getElem hj3))
        refine ⟨vs[j], Array.getElem?_eq_getElem hj3, ?_, e4⟩
        rw [List.getD_eq_getElem?_getD, e1]
        exact e3
      refine .ro _ _ _ (fun j => vs.getD j undef) (fun j hj => ?_) (fun j hj => ?_)
      · obtain ⟨u, hu, _, ho⟩ := hch j hj
        rw [add_off, Nat.zero_add]
        refine hof _ _ hg ?_ ?_
        · rw [cell_of_row w g j vs E (0, 0) hh]
          simp [hu]
        · simp only [Array.getD_eq_getD_getElem?, hu]; exact ho
      · obtain ⟨u, hu, hd, _⟩ := hch j hj
        simp only [Array.getD_eq_getD_getElem?, hu]
        exact hd.mono hle
    · rw [if_neg hts]
      exact (h.slots s).keep hle fun _ _ => rfl
  · rcases hents k q hq with ⟨rfl, rfl⟩ | ⟨hk, h1⟩
    · trivial
    · exact (h.ents k q h1).keep hle rfl (fun _ _ => rfl) fun _ _ _ _ => rfl
  · rcases hents k q hq with ⟨rfl, rfl⟩ | ⟨hk, h1⟩
    · cases ho
    · exact h.own k q g h1 ho hg
  · rcases hents k q hq with ⟨rfl, rfl⟩ | ⟨hk, h1⟩
    · cases ho
    · rcases hents k' q' hq' with ⟨rfl, rfl⟩ | ⟨hk', h1'⟩
      · cases ho'
      · exact h.apart k k' q q' h1 h1' ho ho'
  · rcases hents k q hq with ⟨rfl, rfl⟩ | ⟨hk, h1⟩
    · cases ho
    · rcases hnew p v hp with h2 | ⟨h2, h3⟩
      · exact h.sep k q g p v h1 ho hg h2
      · intro e
        rw [e] at h2
        exact h.apart k r q _ h1 he ho rfl hk g hg h2
theorem W.pubB {X : Cx} {n : Nat} {st : St} {Q : Exit → St → Prop} {c : Code} (t r : Nat) {E : TypeId} {cs : List AV} {ds : List D} (ht : st.get t = .ptr r 0) (he : st.ent r = some (.blk E cs)) (hds : mapD cs = some ds)
    (h : St.un st fun fr hp => W X n c ⟨(t, .ro ds.length fun j => ds.getD j (.val undef)) :: fr, (r, .dead) :: hp⟩ Q) (hr : r < 5000 := by exact Nat.le_of_ble_eq_true rfl) (hlo : X.lo = 5000 := by rfl) : W X n c st Q := ⟨fun hX R hn ρ M a w hs => by
  obtain ⟨M', _, hs'⟩ := hs.pubB ht he hds hr hlo
  exact (show W X n c ⟨(t, .ro ds.length fun j => ds.getD j (.val undef)) :: st.fr, (r, .dead) :: st.hp⟩ Q from h).out hX R hn ρ M' a w hs'⟩

def elemF (F : Nat → Nat → D) (k i : Nat) : AV := .agg ((List.range k).map fun j => .dat (F i j))

theorem HC.argsLe {X : Cx} {f : FuncId} {ls bs : List AV} {H : List (Nat × Ent)} {r : AV} {H' : List (Nat × Ent)} {mv : Option Nat} (h : HC X f bs H r H' mv) (hle : AVsLe ls bs) : HC X f ls H r H' mv := by
  obtain ⟨h1, h2⟩ := AVsLe_at hle
  exact ⟨h.fn, fun M w ρ vs hg hp hl hd hH => h.out M w ρ vs hg hp (by omega) (fun i d v e1 e2 => by
    obtain ⟨c, e3, e4⟩ := h2 i d e1
    exact e4 ρ M v (hd i c v e3 e2)) hH⟩
theorem AVle.clo0 (g : FuncId) : AVle (.dat (.val (.func (.func g) #[] #[]))) (.clo g []) := fun ρ M v hv => by
  obtain rfl := val_of hv
  exact .clo g [] [] rfl fun i c v h => by simp at h
theorem sort_c {X : Cx} {ρr : Ren} {f g : FuncId} {E k n : Nat} {F : Nat → Nat → D} {cf : Nat → Nat → Int} {cc : List AV} (hcc : AV.pure.pureL cc = true) (L : SlLaysF0.n6 X.P ρr) (hf : ρr.f 6 = f) (hfn : FnOk X.P f)
    (aE : ∀ w, (isAgg (ρr.t 24)).run X.P w = .ok true w) (zE : ∀ w, (Go.sizeOf (ρr.t 24)).run X.P w = .ok k w)
    (eg : ∀ args w, (callFunc g args).run X.P w = .ok (.enter g args) w) (hO : SWO (ltOf cf)) (hn : n < 4611686018427387904) (hk0 : 0 < k)
    (hcmp : ∀ i j, i < n → j < n → ACalls { X with dr := true } g ([elemF F k i, elemF F k j] ++ cc) (.dat (.val (.int .i64 (cf i j))))) :
    HC X f [.own 5000 k 0 n, .clo g cc] [(5000, .row E k n F)] (.tup []) [(5000, .row E k n fun i => F (sortAt n cf i))] none := by
  subst hf
  refine ⟨hfn, fun M w ρ vs hgl hp hlen ha hH => ?_⟩
  obtain ⟨v0, v1, rfl⟩ : ∃ v0 v1, vs = [v0, v1] := by
    match vs, hlen with
    | [a, b], _ => exact ⟨a, b, rfl⟩
  have h0 := own_of (ha 0 _ v0 rfl rfl)
  have h1 := ha 1 _ v1 rfl rfl
  rw [partOf_zero, Nat.sub_zero] at h0
  subst h0
  obtain ⟨cv, rfl, hcvl, hcd⟩ : ∃ cv : List Value, v1 = .func (.func g) #[] cv.toArray ∧ cc.length = cv.length ∧ ∀ (i : Nat) (c : AV) (v : Value), cc[i]? = some c → cv[i]? = some v → DenA ρ M c v := by
    cases h1 with
    | clo _ _ vs hl hh => exact ⟨vs, rfl, hl, hh⟩
  have hcp : ∀ (i : Nat) (c : AV) (v : Value), cc[i]? = some c → cv[i]? = some v → DenP M c v := fun i c v h1 h2 => AV.pure_den (hcd i c v h1 h2) (AV.pureL_at hcc i c h1)
  have hrow := hH.ents 5000 _ rfl
  obtain ⟨xs, hown, hx⟩ := hrow
  have hden0 : ∀ M', DenA ρ M' (.tup []) (.tuple #[]) := fun M' => .tup [] [] rfl fun i c v h => by simp at h
  by_cases hn0 : n = 0
  · subst hn0
    refine (AnyF.slices_SortFunc_none L (addrOf (ρ 5000).1) (ρ 5000).2 _ w).mono fun e w' ⟨he, hw⟩ => ⟨_, ρ, M, he, ?_⟩
    subst hw
    refine ⟨hden0 M, Mem.le_refl _, fun _ _ h => .inl h, hp, Chg.refl _ _, ⟨fun k' e hk => ?_, fun k' k'' e e' hk hk' _ _ hne => ?_, fun k' e g' p v hk ho => ?_⟩, fun k' e g' hk ho hg => ?_, fun _ _ => rfl, fun _ => Nat.le_refl _⟩
    · simp only [lk_cons] at hk
      split at hk
      · rename_i e0; cases hk; subst e0
        exact ⟨xs, hown, fun i hi => absurd hi (by omega)⟩
      · cases hk
    · simp only [lk_cons] at hk hk'
      split at hk <;> split at hk'
      · rename_i e0 e1; exact absurd (e0.symm.trans e1) hne
      · cases hk'
      · cases hk
      · cases hk
    · simp only [lk_cons] at hk
      split at hk
      · rename_i e0; subst e0; exact hH.sep 5000 _ g' p v rfl rfl
      · cases hk
    · simp only [lk_cons] at hk
      split at hk
      · rename_i e0; subst e0; exact .inr (blkOf_of (e := .row E k 0 F) rfl rfl hg)
      · cases hk
  have hn1 : 0 < n := by omega
  obtain ⟨hl, ⟨e0, e1⟩ | ⟨gb, cap, cur, e0, _, hg, hnc, hcm, hcs, hct⟩⟩ := hown
  · exact absurd e1 hn0
  have hg1 : (ρ 5000).1 = some gb := by
    cases hq : (ρ 5000).1 with
    | none => rw [hq] at e0; simp [addrOf] at e0
    | some g1 => rw [hq] at e0; simp [addrOf] at e0; rw [e0.1]
  have hg2 : (ρ 5000).2 = cap := by injection e0
  rw [hg2, hg1]
  have hblk : gb < w.heap.size := by
    rcases Nat.lt_or_ge gb w.heap.size with h' | h'
    · exact h'
    · rw [Array.getElem?_eq_none h'] at hg; cases hg
  obtain ⟨enc, henc⟩ : ∃ enc : Nat → List Value, enc = fun i => (List.range k).map fun j => xs.getD (clampN n i * k + j) undef := ⟨_, rfl⟩
  have hek : ∀ x, (enc x).length = k := fun x => by rw [henc]; simp
  have hcl : ∀ i j, i < n → j < k → i * k + j < n * k := fun i j hi hj => by
    have := Nat.mul_le_mul_right k (show i + 1 ≤ n from hi)
    rw [Nat.add_mul, Nat.one_mul] at this; omega
  have hget : ∀ x j, j < k → (enc x)[j]? = xs[clampN n x * k + j]? := fun x j hj => by
    rw [henc]
    simp only [List.getElem?_map, List.getElem?_range hj, Option.map_some, List.getD_eq_getElem?_getD]
    rw [List.getElem?_eq_getElem (by rw [hl]; exact hcl _ _ (clampN_lt hn1) hj)]
    rfl
  have hone : ∀ x, ∀ v ∈ enc x, v.oneCell' = true := fun x v hv => by
    obtain ⟨j, hj⟩ := List.mem_iff_getElem?.1 hv
    have hj' : j < k := by rw [← hek x]; exact (List.getElem?_eq_some_iff.1 hj).1
    rw [hget x j hj'] at hj
    obtain ⟨u, hu, _, h3⟩ := hx _ (clampN_lt hn1 (i := x)) j hj'
    rw [hu] at hj; cases hj; exact h3
  have hholds : HoldsK enc k w gb 0 (Array.range n) := fun t ht => by
    rw [size_flatK, Array.size_range] at ht
    refine ⟨?_, by simp [World.frozen?, hg]⟩
    rw [get_flatK _ _ _ _ (by rw [Array.size_range]; exact ht)]
    have h1 : t / k < n := Nat.div_lt_of_lt_mul (by rw [Nat.mul_comm]; exact ht)
    have h2 : t % k < k := Nat.mod_lt _ hk0
    have h3 : (Array.range n)[t / k]! = t / k := by simp [getElem!_pos, h1]
    have h4 := hget (t / k) (t % k) h2
    rw [clampN_of h1, Nat.div_add_mod' t k] at h4
    have h5 : xs[t]? = cur[t]? := by
      rw [← hct, List.getElem?_take, if_pos ht, Array.getElem?_toList]
    have h6 : t < xs.length := by omega
    rw [h3]
    simp only [World.cell?, hg, Nat.zero_add, Option.isSome_none, Bool.false_eq_true, if_false, id]
    rw [← h5, ← h4, List.getElem!_eq_getElem?_getD]
    rw [h4, List.getElem?_eq_getElem h6]
    rfl
  have hpub : ∀ m os (dk : Array Nat), PubOk M (sortWorldK enc k w gb 0 m dk os) := fun m os dk p v hpv => by
    obtain ⟨c1, c2⟩ := hp p v hpv
    have hb : p.block < w.heap.size := cell_lt c1
    have hne : p.block ≠ gb := hH.sep 5000 _ gb p v rfl rfl hg1 hpv
    refine ⟨?_, c2⟩
    unfold sortWorldK
    rw [cell?_grow _ _ _ (by rw [size_putRowK]; exact hb), cell?_putRowK_other _ _ _ _ _ _ _ hne]
    exact c1
  have hcl' : CmpLays X.P g cv.toArray enc k (cfN n cf) gb 0 (Array.range n).size w := fun m os dk hs x y => by
    have hc := (hcmp (clampN n x) (clampN n y) (clampN_lt hn1) (clampN_lt hn1)).out M (sortWorldK enc k w gb 0 m dk os) ([Value.agg (enc x).toArray, Value.agg (enc y).toArray] ++ cv) hgl (hpub m os dk) (by simp [hcvl]) (fun i c v hc hv => ?_)
    · have hca : ([Value.agg (enc x).toArray, Value.agg (enc y).toArray] ++ cv).toArray = #[Value.agg (enc x).toArray, Value.agg (enc y).toArray] ++ cv.toArray := by simp
      rw [hca] at hc
      refine hc.mono fun e w' ⟨v, M', he, hd, _, _, _, hb, hdr⟩ => ?_
      obtain rfl := val_of (hd fun _ => (none, 0))
      exact ⟨he, grow_of hb (hdr rfl)⟩
    · have hel : ∀ x, DenP M (elemF F k (clampN n x)) (.agg (enc x).toArray) := fun x ρ' => by
        refine .agg _ _ (by rw [hek]; simp) fun j c v hc hv => ?_
        have hj : j < k := by rw [← hek x]; exact (List.getElem?_eq_some_iff.1 hv).1
        rw [List.getElem?_map, List.getElem?_range hj] at hc
        cases hc
        rw [hget x j hj] at hv
        obtain ⟨u, hu, h2, _⟩ := hx _ (clampN_lt hn1 (i := x)) j hj
        rw [hu] at hv; cases hv
        exact .dat h2
      match i, hc, hv with
      | 0, hc, hv => cases hc; cases hv; exact hel x
      | 1, hc, hv => cases hc; cases hv; exact hel y
      | i + 2, hc, hv => exact hcp i c v (by simpa using hc) (by simpa using hv)
  have hcon := AnyQ.slices_SortFunc_eq L k aE zE enc hek hone (cfN n cf) (cfN_swo hO) g cv.toArray gb 0 cap (Array.range n) w eg hcl' hholds hblk (by rw [Array.size_range]; exact hn)
  rw [Array.size_range] at hcon
  refine hcon.mono fun e w' ⟨he, m, os, hw⟩ => ⟨_, ρ, M, he, ?_⟩
  have hw : w' = sortWorldK enc k w gb 0 m (sortIx n cf) os := hw
  have hbn : blkOf ρ [(5000, Ent.row E k n F)] 5000 = some gb := blkOf_of (e := .row E k n F) rfl rfl hg1
  refine ⟨hden0 M, Mem.le_refl _, fun _ _ h => .inl h, hw ▸ hpub m os _, ?_, ⟨fun k' e hk => ?_, fun k' k'' e e' hk hk' _ _ hne => ?_, fun k' e g' p v hk ho => ?_⟩, fun k' e g' hk ho hg => ?_, fun _ _ => rfl, fun _ => ?_⟩
  · rw [hw]
    refine ⟨rfl, rfl, rfl, size_sortWorldK_c enc k w gb 0 m _ os, fun q hq hne => ?_⟩
    unfold sortWorldK
    rw [heap_grow_old _ _ (by rw [size_putRowK]; exact hq)]
    have : gb ≠ q := fun e => hne (e ▸ blkOf_mem hbn)
    simp [putRowK, putRow, mapBlock, Sort.ahead, Array.getElem?_modify, this]
  · simp only [lk_cons] at hk
    split at hk
    · rename_i e0; cases hk; subst e0
      refine ⟨(flatK enc k (sortIx n cf)).toList, ⟨by simp [sortIx_size hO], .inr ⟨gb, cap, putCells id 0 (flatK enc k (sortIx n cf)) cur, by rw [hg1, hg2]; rfl, Nat.zero_le _, ?_, hnc, hcm, by simpa [putCells] using hcs, ?_⟩⟩, fun i hi j hj => ?_⟩
      · rw [hw]
        unfold sortWorldK
        rw [heap_grow_old _ _ (by rw [size_putRowK]; exact hblk)]
        simp [putRowK, putRow, mapBlock, Sort.ahead, Array.getElem?_modify, hg, onCells]
      · have hnk : n * k ≤ cap * k := Nat.mul_le_mul_right k hnc
        apply List.ext_getElem?
        intro t
        rw [List.getElem?_take, Array.getElem?_toList, Array.getElem?_toList]
        by_cases ht : t < n * k
        · rw [if_pos ht]
          simp only [putCells, Array.getElem?_mapIdx, Array.getElem?_eq_getElem (show t < cur.size by omega), Option.map_some]
          rw [if_pos (by simp [sortIx_size hO]; omega), Array.getElem?_eq_getElem (by simp [sortIx_size hO]; omega)]
          simp [getElem!_pos, sortIx_size hO, ht]
        · rw [if_neg ht, Array.getElem?_eq_none (by simp [sortIx_size hO]; omega)]
      · have hs := sortAt_lt hO hi
        obtain ⟨u, hu, h2, h3⟩ := hx _ hs j hj
        refine ⟨u, ?_, h2, h3⟩
        have hlt := hcl i j hi hj
        rw [Array.getElem?_toList, Array.getElem?_eq_getElem (by simp [sortIx_size hO]; exact hlt)]
        have h5 := get_flatK enc k (sortIx n cf) (i * k + j) (by rw [sortIx_size hO]; exact hlt)
        rw [getElem!_pos _ _ (by simp [sortIx_size hO]; exact hlt)] at h5
        rw [h5, (blk_iff k i _ hk0).1 ⟨by omega, by omega⟩, show (i * k + j) % k = j by rw [Nat.mul_comm, Nat.mul_add_mod, Nat.mod_eq_of_lt hj]]
        have h6 := hget (sortAt n cf i) j hj
        rw [clampN_of hs, hu] at h6
        show some ((enc (sortAt n cf i))[j]!) = some u
        rw [List.getElem!_eq_getElem?_getD, h6]; rfl
    · cases hk
  · simp only [lk_cons] at hk hk'
    split at hk <;> split at hk'
    · rename_i e0 e1; exact absurd (e0.symm.trans e1) hne
    · cases hk'
    · cases hk
    · cases hk
  · simp only [lk_cons] at hk
    split at hk
    · rename_i e0; subst e0; exact hH.sep 5000 _ g' p v rfl rfl
    · cases hk
  · simp only [lk_cons] at hk
    split at hk
    · rename_i e0; subst e0; exact .inr (blkOf_of (e := .row E k n F) rfl rfl hg)
    · cases hk
  · rw [hw]; exact Nat.le_add_right _ _

theorem sort_h {X : Cx} {ρr : Ren} {f g : FuncId} {E k n : Nat} {F : Nat → Nat → D} {cf : Nat → Nat → Int} (L : SlLaysF0.n6 X.P ρr) (hf : ρr.f 6 = f) (hfn : FnOk X.P f)
    (aE : ∀ w, (isAgg (ρr.t 24)).run X.P w = .ok true w) (zE : ∀ w, (Go.sizeOf (ρr.t 24)).run X.P w = .ok k w)
    (eg : ∀ args w, (callFunc g args).run X.P w = .ok (.enter g args) w) (hO : SWO (ltOf cf)) (hn : n < 4611686018427387904) (hk0 : 0 < k)
    (hcmp : ∀ i j, i < n → j < n → ACalls { X with dr := true } g [elemF F k i, elemF F k j] (.dat (.val (.int .i64 (cf i j))))) :
    HC X f [.own 5000 k 0 n, .dat (.val (.func (.func g) #[] #[]))] [(5000, .row E k n F)] (.tup []) [(5000, .row E k n fun i => F (sortAt n cf i))] none :=
  (sort_c (cc := []) rfl L hf hfn aE zE eg hO hn hk0 hcmp).argsLe ⟨AVle.refl _, AVle.clo0 g, trivial⟩

theorem heapOk_one {ρ : Env} {M : Mem} {w : World} {k : Nat} {e : Ent} (h : EntOk ρ M w k e) (hs : ∀ g p v, e.owned = true → (ρ k).1 = some g → M p = some v → p.block ≠ g) : HeapOk ρ M w [(k, e)] where
  ents k' e' hk := by
    rw [lk_cons] at hk
    split at hk
    · rename_i h0; cases hk; subst h0; exact h
    · cases hk
  apart k' k'' e1 e2 h1 h2 _ _ hne := by
    rw [lk_cons] at h1 h2
    split at h1 <;> split at h2
    · rename_i a b; exact absurd (a.symm.trans b) hne
    · cases h2
    · cases h1
    · cases h1
  sep k' e' g p v hk ho hg hp := by
    rw [lk_cons] at hk
    split at hk
    · rename_i h0; cases hk; subst h0; exact hs g p v ho hg hp
    · cases hk
theorem grow_h {X : Cx} {ρr : Ren} {f : FuncId} {E k : Nat} {i0 : TypeInfo} {z : Value} (L : Lays8.n4 X.P ρr) (hf : ρr.f 4 = f) (hfn : FnOk X.P f) (hE : ρr.t 25 = E) (hi0 : X.P.info? E = some i0) (hz0 : i0.zero = some z) (hzs : z.cells.size = k) (hk : i0.size = k) (hk0 : 0 < k)
    (n : Nat) (hb : n * i0.bytes ≤ 140737488355328) (h62 : n ≤ 4611686018427387904) (F : Nat → Nat → D) :
    HC X f [.dat (.val (.slice none 0 0)), .dat (.val (.int .i64 n))] [] (.own 24 k 0 0) [(24, .row E k 0 F)] (some 24) := by
  subst hf hE
  refine ⟨hfn, fun M w ρ vs hgl hp hlen ha hH => ?_⟩
  obtain ⟨v0, v1, rfl⟩ : ∃ v0 v1, vs = [v0, v1] := by
    match vs, hlen with
    | [a, b], _ => exact ⟨a, b, rfl⟩
  obtain rfl := val_of (ha 0 _ v0 rfl rfl)
  obtain rfl := val_of (ha 1 _ v1 rfl rfl)
  by_cases hn : n = 0
  · subst hn
    refine (Any8.slices_Grow_room L none 0 0 0 w (by omega) (by omega) (by omega) (by omega)).mono fun e w' ⟨he, hw⟩ => ⟨.slice none 0 0, upd ρ 24 (none, 0), M, he, ?_⟩
    subst hw
    have hd := DenA.own (ρ := upd ρ 24 (none, 0)) (M := M) 24 k 0 0
    rw [upd_same, partOf_zero] at hd
    refine ⟨hd, Mem.le_refl _, fun _ _ h => .inl h, hp, Chg.refl _ _, heapOk_one ⟨[], ?_, fun i hi => absurd hi (by omega)⟩ (fun g p v _ hg => by rw [upd_same] at hg; cases hg), fun k' e g hk' ho hg => ?_, fun k' hne => upd_ne _ (fun e => hne (by rw [e])) _, fun _ => Nat.le_refl _⟩
    · rw [upd_same]; exact World.ownsRow_nil _ _ _ _
    · rw [lk_cons] at hk'
      split at hk'
      · rename_i h0; subst h0; rw [upd_same] at hg; cases hg
      · cases hk'
  · have hcon := Any8.slices_Grow_grow L i0 z hi0 hz0 (by omega) none 0 0 n [] w (Nat.le_refl _) (by omega) (by rw [Nat.zero_add]; exact hb) (by omega) (by simp) (fun _ => rfl) (fun a h => by cases h)
    rw [Nat.zero_add, Nat.sub_zero] at hcon
    have hG1 : n ≤ grownCap w n 0 (ρr.t 25) := grownCap_ge w _ _ _
    have hG2 := grownCap_le_maxLen w n 0 (ρr.t 25) (by unfold maxLen; omega)
    generalize grownCap w n 0 (ρr.t 25) = G at hcon hG1 hG2
    refine hcon.mono fun e w' ⟨he, hw⟩ => ⟨.slice (some ⟨w.heap.size, 0, none⟩) 0 G, upd ρ 24 (some w.heap.size, G), M, he, ?_⟩
    have hd := DenA.own (ρ := upd ρ 24 (some w.heap.size, G)) (M := M) 24 k 0 0
    rw [upd_same, partOf_zero] at hd
    obtain ⟨cur, hw, hcs⟩ : ∃ cur : Array Value, w' = w.drew.alloc (.cells cur (ρr.t 25)) ∧ cur.size = G * k := ⟨_, hw, by
      simp [size_zeroCells, hzs]
      rw [← Nat.add_mul]
      congr 1
      omega⟩
    have hbel : Below w.heap.size w w' := by
      rw [hw]
      exact Below.alloc (Below.drew (Below.refl _ _)) (Nat.le_refl _) _
    have hlt : ∀ p v, M p = some v → p.block < w.heap.size := fun p v h => cell_lt (hp p v h).1
    refine ⟨hd, Mem.le_refl _, fun _ _ h => .inl h, fun p v h => ?_, Chg.of_below hbel, heapOk_one ⟨[], ?_, fun i hi => absurd hi (by omega)⟩ (fun g p v _ hg h => ?_), fun k' e g hk' ho hg => ?_, fun k' hne => upd_ne _ (fun e => hne (by rw [e])) _, fun _ => ?_⟩
    · obtain ⟨c1, c2⟩ := hp p v h
      exact ⟨(hbel.cell (cell_lt c1)).trans c1, c2⟩
    · rw [upd_same]
      refine ⟨by simp, .inr ⟨w.heap.size, G, cur, rfl, Nat.zero_le _, ?_, Nat.zero_le _, hG2, hcs, by simp⟩⟩
      rw [hw]
      exact heap_alloc_new w.drew _
    · rw [upd_same] at hg
      cases hg
      have := hlt p v h
      omega
    · rw [lk_cons] at hk'
      split at hk'
      · rename_i h0; subst h0; rw [upd_same] at hg; cases hg; exact .inl (Nat.le_refl _)
      · cases hk'
    · rw [hw]; exact Nat.le_succ _

end Go.Proofs.Ytoeghejbgibioaa
