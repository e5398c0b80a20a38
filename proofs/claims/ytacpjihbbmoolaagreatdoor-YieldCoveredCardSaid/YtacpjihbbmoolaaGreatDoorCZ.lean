/- Estates: the goods, the recipes, the acts. One act on an estate. Estates, plain law: what an act that succeeds has checked; that stocks stay valid. Estates, plain law: the units of what is divided, united, processed. Estates, plain law: what holds of every estate. Lots processed; every act on an estate. Estates made. -/
import Derived.Test.YtacpjihbbmoolaaGreatDoorC8

namespace Go.Proofs.YtacpjihbbmoolaaGreatDoor
open Go Go.RowKit
set_option linter.unusedVariables false
set_option linter.unusedSimpArgs false
set_option maxRecDepth 100000
set_option maxHeartbeats 4000000

theorem ArgLe.cell0 {X : Cx} {st : St} {r : Nat} {t : TypeId} {cs : List AV} {s n : Nat} {f : Nat → Nat → D} {c : Nat → D} (he : st.ent r = some (.blk t cs)) (h0 : cs[0]? = some (.dat (.lst s n f))) (hc : c 0 = .lst s n f) : ArgLe X st (.ptr r 0) (.ro 1 c) := by
  intro R ρ M a w v hs hcv ρ'
  obtain ⟨g, hg, rfl⟩ := ptr_of hcv
  obtain ⟨g', vs, e1, e2, e3, e4⟩ := hs.ents r _ he
  rw [e1] at hg; cases hg
  have h0l : 0 < vs.size := by have := (List.getElem?_eq_some_iff.1 h0).1; omega
  have hu : vs[0]? = some vs[0] := Array.getElem?_eq_getElem h0l
  have hd := (e4 0 _ _ h0 hu).all hs
  have hd' : DenD (allM w) (.lst s n f) vs[0] := by
    generalize vs[0] = u at hd
    cases hd with
    | dat h => exact h
  refine .ro 1 c _ (fun _ => vs[0]) (fun j hj => ?_) (fun j hj => ?_)
  · obtain rfl : j = 0 := by omega
    refine allM_of ?_ ?_
    · rw [add_off, cell_of_row w _ (0 + 0) vs t (0, 0) e2]
      exact hu
    · generalize vs[0] = u at hd'
      cases hd' with
      | lst => rfl
  · obtain rfl : j = 0 := by omega
    rw [hc]
    exact hd'
attribute [local irreducible] ResLe AVle ArgLe ArgP EntLe Dle ResH ArgQ

abbrev gC1 : ByteArray := ⟨#[49, 48, 48, 48, 48, 48, 48, 48]⟩
abbrev gC2 : ByteArray := ⟨#[50, 48, 48, 48, 48, 48, 48, 48]⟩
abbrev gC3 : ByteArray := ⟨#[51, 48, 48, 48, 48, 48, 48, 48]⟩
abbrev gC4 : ByteArray := ⟨#[52, 48, 48, 48, 48, 48, 48, 48]⟩
def gds : List ByteArray := [gC1, gC2, gC3, gC4]
instance : Inhabited ByteArray := ⟨⟨#[]⟩⟩
def bsE (x : ByteArray) (_ : Nat) : D := .val (.string x)
abbrev gdD : D := .lst 1 4 (rowF bsE gds)
theorem goods_t : ACalls XX 49 [] (.dat gdD) := by
  refine ACalls.of (n := Tryz.f49.ntmps) XX_ok Tryz.func49 rfl (by kernel_rfl) rfl rfl (Nat.le_of_ble_eq_true rfl) ?_
  (repeat' (first|((first|refine Zg ?_|refine Zn ?_|refine Zc ?_|refine Zu fun b hb=>?_);conv=>whnf)|(refine Zb ?_ ?_<;>(intro h;first|exact Zx|conv=>whnf))))
  refine RowIs.res rfl (us := gds) ⟨rfl, fun i hi j hj => ?_⟩ rfl
  obtain rfl : j = 0 := by omega
  rcases i with _|_|_|_|i
  all_goals first|exact Dle.refl _|omega
abbrev rc1 : Rc := ⟨1, [⟨gC1, 3⟩], [⟨gC2, 2⟩, ⟨gC4, 1⟩], [5, 1]⟩
abbrev rc2 : Rc := ⟨2, [⟨gC1, 1⟩, ⟨gC2, 2⟩], [⟨gC3, 1⟩], [1]⟩
abbrev rc3 : Rc := ⟨5, [⟨gC2, 1⟩], [⟨gC3, 4⟩, ⟨gC4, 2⟩], [1, 0]⟩
def rcs : List Rc := [rc1, rc2, rc3]
theorem recipes_t : ACalls XX 55 [] (.dat (rcD rcs)) := by
  have h := goods_t
  refine ACalls.of (n := Tryz.f55.ntmps) XX_ok Tryz.func55 rfl (by kernel_rfl) rfl rfl (Nat.le_of_ble_eq_true rfl) ?_
  refine W.pb [7, 16, 17, 27, 32, 33, 39, 48, 49] ?_
  (repeat' (first|((first|refine Zg ?_|refine W.drawP dr55 rfl mixed rfl ?_|refine Zn ?_|refine Zc ?_|refine Zu fun b hb=>?_|refine Zy (ACalls.at (h)) ?_|refine Zz (ACalls.at (h)) ?_);conv=>whnf)|(refine Zb ?_ ?_<;>(intro h;first|exact Zx|conv=>whnf))))
  refine RowIs.res rfl (us := rcs) ⟨rfl, fun i hi j hj => ?_⟩ rfl
  rcases i with _|_|_|i
  all_goals first|(exfalso; omega)|skip
  all_goals (rcases j with _|_|_|_|j)
  all_goals first|exact Dle.of_eq rfl|(exfalso; omega)|skip
  all_goals (refine Dle.lst rfl fun a ha b hb => ?_)
  all_goals (rcases a with _|_|a)
  all_goals first|(exfalso; omega)|skip
  all_goals (rcases b with _|_|b)
  all_goals first|exact Dle.of_eq rfl|(exfalso; omega)
def anyV (ss : List Lt) (n : Int) : Int := if ss.length = 0 then 0 else (ss.getD (n % ss.length).toNat default).id
theorem any_t (ss : List Lt) (n : Int) (hL : ss.length ≤ 1000000) : ACalls XX 51 [.ro 1 fun _ => ltD ss, iA n] (iA (anyV ss n)) := by
  by_cases h0 : ss.length = 0
  · have e : anyV ss n = 0 := by unfold anyV; rw [if_pos h0]
    rw [e]
    refine ACalls.of (n := Tryz.f51.ntmps) XX_ok Tryz.func51 rfl (by kernel_rfl) rfl rfl (Nat.le_of_ble_eq_true rfl) ?_
    (repeat' (first|((first|refine Zg ?_|refine Zt dr51 ?_|refine Zn ?_|refine Zc ?_|refine Zu fun b hb=>?_);conv=>whnf)|(refine Zb ?_ ?_<;>(intro h;first|exact Zx|conv=>whnf))))
    all_goals first|exact Zrz|(exfalso; omega)
  · have e : anyV ss n = (ss.getD (n % ss.length).toNat default).id := by unfold anyV; rw [if_neg h0]
    rw [e]
    have w1 := within_t n ss.length (by omega) (by omega)
    have r1 := Int.emod_nonneg n (show (ss.length : Int) ≠ 0 by omega)
    have r2 := Int.emod_lt_of_pos n (show (0 : Int) < ss.length by omega)
    refine ACalls.of (n := Tryz.f51.ntmps) XX_ok Tryz.func51 rfl (by kernel_rfl) rfl rfl (Nat.le_of_ble_eq_true rfl) ?_
    (repeat' (first|((first|refine Zg ?_|refine Zt dr51 ?_|refine Zn ?_|refine Zc ?_|refine Zu fun b hb=>?_|refine Zy w1 ?_|refine Zz w1 ?_);conv=>whnf)|(refine Zb ?_ ?_<;>(intro h;first|exact Zx|conv=>whnf))))
    all_goals first|exact Zrz|(exfalso; omega)

end Go.Proofs.YtacpjihbbmoolaaGreatDoor

namespace Go.Proofs.YtacpjihbbmoolaaGreatDoor
open Go Go.RowKit
set_option linter.unusedVariables false
set_option linter.unusedSimpArgs false
set_option maxRecDepth 100000
set_option maxHeartbeats 4000000
theorem W.re {X : Cx} {n : Nat} {st : St} {Q : Exit → St → Prop} {cd : Code} (t : Nat) (c : AV) (h : AVle (st.get t) c) (k : St.un st fun fr hp => W X n cd ⟨(t, c) :: fr, hp⟩ Q) : W X n cd st Q := ⟨fun hX R hn ρ M a w hs =>
  (show W X n cd ⟨(t, c) :: st.fr, st.hp⟩ Q from k).out hX R hn ρ M a w (hs.reslot (h _ _ _ (hs.slots t)))⟩
attribute [local irreducible] ResLe AVle ArgLe ArgP EntLe Dle ResH ArgQ

def drAct : List (Nat × (List Nat × List (Option Nat × Option Nat))) := [(20, [0, 1, 3, 7, 0, 16, 48, 112, 0, 0, 768, 1792, 3840, 0, 16383, 32767, 65535, 65535, 131071, 524287], [(some 104, none), (some 105, none), (some 106, none), (some 107, none), (some 108, none), (some 109, none), (some 110, none), (some 111, none), (some 112, none), (some 113, none), (some 114, some 5001), (some 115, none), (some 116, none), (some 117, none), (some 118, none), (some 103, none), (some 119, none), (some 120, none), (some 4, none), (some 5, none)]), (22, [0, 0, 2, 6, 14, 0, 32, 96, 224, 0, 992, 2016, 4094, 8191, 16383, 32767], [(some 123, none), (some 124, none), (some 125, none), (some 126, none), (some 127, none), (some 128, none), (some 129, none), (some 130, none), (some 131, none), (some 132, none), (some 133, none), (some 134, some 134), (some 135, some 1000000), (some 136, none), (some 137, none), (none, some 5000)]), (26, [0, 1, 3, 7, 0, 0, 32, 112, 0, 0, 752, 2032, 4080, 8191, 16383, 32767, 32767, 65535, 262143], [(some 142, none), (some 143, none), (some 144, none), (some 145, none), (some 146, none), (some 147, none), (some 148, some 5001), (some 149, none), (some 150, some 150), (some 151, none), (some 152, some 5001), (some 153, none), (some 154, none), (some 155, none), (some 141, none), (some 156, none), (some 157, none), (some 4, none), (some 5, none)]), (33, [0, 1, 3, 7, 0, 31, 0, 64, 192, 448, 960, 0, 2048, 6144, 14336, 0, 63488, 129024, 260096, 0, 1046528, 2097088, 4194303, 8388607], [(some 196, none), (some 197, none), (some 198, none), (some 199, none), (some 200, none), (some 201, none), (some 202, none), (some 203, none), (some 204, none), (some 205, none), (some 206, none), (some 207, none), (some 208, none), (some 209, none), (some 210, none), (some 211, none), (some 212, none), (some 213, none), (some 214, none), (some 215, none), (some 216, none), (some 217, none), (some 218, some 218), (some 11, none)]), (34, [0, 1, 3, 7, 0, 0, 0, 64, 192, 511, 1023, 2047, 2047, 4095, 16383], [(some 220, none), (some 221, none), (some 222, none), (some 223, none), (some 224, none), (some 225, none), (some 226, none), (some 227, some 5001), (some 228, none), (some 229, none), (some 219, none), (some 230, none), (some 231, none), (some 4, none), (some 5, none)]), (37, [0, 1, 3, 7, 0, 0, 32, 112, 0, 0, 752, 2032, 4080, 0, 8192, 24576, 57344, 131071, 262143, 524287, 524287, 1048575, 4194303], [(some 235, none), (some 236, none), (some 237, none), (some 238, none), (some 239, none), (some 240, none), (some 241, some 5001), (some 242, none), (some 243, none), (some 244, none), (some 245, some 5001), (some 246, none), (some 247, some 247), (some 248, none), (some 249, none), (some 250, none), (some 251, none), (some 252, none), (some 234, none), (some 253, none), (some 254, none), (some 4, none), (some 5, none)]), (8, [0, 1, 3, 7, 0, 16, 48, 127, 255], [(some 44, none), (some 45, none), (some 46, none), (some 47, none), (some 48, none), (some 49, none), (some 50, none), (some 51, none), (some 14, none)]), (15, [0, 1, 3, 7, 0, 0, 32, 96, 224, 0, 992, 2016, 4064, 0, 8192, 24576, 57344, 122880, 262112, 0, 0, 2097151, 4194303, 8388607, 8388607, 16777215, 67108863], [(some 71, none), (some 72, none), (some 73, none), (some 74, none), (some 75, none), (some 76, none), (some 77, none), (some 78, none), (some 79, none), (some 80, none), (some 81, none), (some 82, none), (some 83, none), (some 84, none), (some 85, none), (some 86, none), (some 87, none), (some 88, none), (some 89, none), (some 90, none), (some 91, none), (some 92, none), (some 70, none), (some 93, none), (some 94, none), (some 4, none), (some 5, none)])]
inductive Step (ss : List Lt) (cs : List Ch) (f : Int) : List Lt → List Ch → Int → Prop where
  | skip : Step ss cs f ss cs f
  | pre (c : ByteArray) (q : Int) (hc : c ∈ gds) (hq : 1 ≤ q ∧ q ≤ 100000) (h : preE ss f c q = 0) : Step ss cs f (preL ss f c q) (cs ++ [⟨f, q, 0⟩]) (f + 1)
  | mov (id a : Int) (ha : a ≠ 4) (h : movE ss id a = 0) : Step ss cs f (movL ss id a) cs f
  | spl (id a b m : Int) (h : splE ss id [⟨f, a⟩, ⟨f + 1, b⟩] m = 0) : Step ss cs f (splL ss id [⟨f, a⟩, ⟨f + 1, b⟩] m) cs (f + 2)
  | mer (x y : Int) (h : merE ss [x, y] f = 0) : Step ss cs f (merL ss [x, y] f) cs (f + 1)
  | pro (r : Rc) (b : Int) (ins outs : List Int) (hr : r ∈ rcs) (ho : outs = (List.range r.outs.length).map fun (k : Nat) => f + (k : Int)) (h : proE ss r b ins outs = 0) : Step ss cs f (proL ss r b ins outs) cs (f + outs.length)
abbrev estE (ss : List Lt) (cs : List Ch) (f : Int) : Ent := .blk 26 [.dat (ltD ss), .own 1000000 3 0 cs.length, iA f]
abbrev estH (L : List Int) (ss : List Lt) (cs : List Ch) (f : Int) (i : Nat) : List (Nat × Ent) := [(5000, estE ss cs f), (5001, srcE L i), (1000000, .row 42 3 cs.length (rowF chE cs))]
def ActOk (L : List Int) (ss : List Lt) (cs : List Ch) (f : Int) (i : Nat) : Prop := ∃ ss' cs' f' i', (i < i' ∧ (cs'.length ≤ cs.length ∨ i + 4 ≤ i' ∨ i' = L.length)) ∧ i' ≤ L.length ∧ Step ss cs f ss' cs' f' ∧ HC XX 19 [.ptr 5000 0, .ptr 5001 0] (estH L ss cs f i) (.tup []) (estH L ss' cs' f' i') (some 1000000)
structure EsOk (ss : List Lt) (cs : List Ch) (f : Int) : Prop where
  len : ss.length ≤ 1000
  csz : ∀ x ∈ ss, x.c.size ≤ 1000
  q : ∀ x ∈ ss, 0 ≤ x.q ∧ x.q ≤ 1000000000
  us : ∀ x ∈ ss, x.us.length ≤ 1000
  f : 1 ≤ f ∧ f ≤ 100000
  cl : cs.length ≤ 1000
theorem ni_two (L : List Int) {i : Nat} (h : i < L.length) : i < ni L i ∧ ni L i ≤ L.length := ⟨(ni_le L i (by omega)).2.2 h, (ni_le L i (by omega)).2.1⟩
theorem ni_mono (L : List Int) {i : Nat} (h : i ≤ L.length) : i ≤ ni L i ∧ ni L i ≤ L.length := ⟨(ni_le L i h).1, (ni_le L i h).2.1⟩
theorem ni_stp (L : List Int) {i : Nat} (h : i ≤ L.length) : ni L i = i + 1 ∨ (ni L i = i ∧ i = L.length) := by
  unfold ni
  split <;> omega
theorem act_pre (L : List Int) (ss : List Lt) (cs : List Ch) (f : Int) (i : Nat) (hL : L.length ≤ 1000) (hi : i < L.length) (hE : EsOk ss cs f) (hc : nx L i 8 = 0 ∨ nx L i 8 = 1) : ActOk L ss cs f i := by
  have n0 := next_h L i 8 (by omega) (by omega) (by omega)
  have b0 := ni_two L hi
  obtain ⟨i1, e1⟩ : ∃ i1, i1 = ni L i := ⟨_, rfl⟩
  rw [← e1] at n0 b0
  have n1 := small_h L i1 30 100000 (by omega) (by omega) (by omega) (by omega) (by omega)
  have s1 := sx_rng L i1 (few := 30) (n := 100000) (by omega) (by omega)
  have b1 := ni_mono L b0.2
  have b2 := ni_mono L b1.2
  generalize sx L i1 30 100000 = s at *
  obtain ⟨i2, e2⟩ : ∃ i2, i2 = ni L (ni L i1) := ⟨_, rfl⟩
  rw [← e2] at n1 b2
  have n2 := next_h L i2 3 (by omega) (by omega) (by omega)
  have r2 := nx_rng L i2 (m := 3) (by omega)
  have b3 := ni_mono L b2.2
  have b4 : i + 4 ≤ ni L i2 ∨ ni L i2 = L.length := by
    have s0 := ni_stp L (i := i) (by omega)
    have s1 := ni_stp L (i := i1) (by omega)
    have s2 := ni_stp L (i := ni L i1) (by omega)
    have s3 := ni_stp L (i := i2) (by omega)
    omega
  generalize nx L i2 3 = k at *
  have hg := goods_t
  have hmem : gds.getD k.toNat default ∈ gds := getD_in (by show k.toNat < 4; omega)
  have hcz : (gds.getD k.toNat default).size = 8 := by
    have : ∀ c ∈ gds, c.size = 8 := by decide
    exact this _ hmem
  have hP := rpresent_t ss f (gds.getD k.toNat default) (1 + s) (by have := hE.len; omega) (fun x hx => by have := hE.csz x hx; omega) (by omega)
  have hf := hE.f
  have hcl := hE.cl
  by_cases hz : preE ss f (gds.getD k.toNat default) (1 + s) = 0
  · rw [hz] at hP
    refine ⟨_, _, _, ni L i2, by omega, by omega, Step.pre (gds.getD k.toNat default) (1 + s) hmem (by omega) hz, ?_⟩
    have hlen : (cs ++ [(⟨f, 1 + s, 0⟩ : Ch)]).length = cs.length + 1 := by simp
    have hrow : ∀ (g : Nat → Nat → D), (∀ j, j < 3 → Dle (g 0 j) (chE ⟨f, 1 + s, 0⟩ j)) → ∀ i, i < cs.length + 1 → ∀ j, j < 3 → Dle (catF cs.length (rowF chE cs) g i j) (rowF chE (cs ++ [⟨f, 1 + s, 0⟩]) i j) := fun g hg => rowF_snoc rfl hg
    rcases hc with hc|hc
    · rw [hc] at n0
      refine HC.of (n := Tryz.f19.ntmps) XX_ok Tryz.func19 rfl (by kernel_rfl) rfl rfl (Nat.le_of_ble_eq_true rfl) rfl rfl ?_
      (repeat' (first|((first|refine Zg ?_|refine Zn ?_|refine Zc ?_|refine Zu fun b hb=>?_|refine W.drawT drAct rfl mixed rfl ?_|refine ExCall.h [(5000, 5001)] rfl n0 rfl ⟨rfl, trivial⟩ ?_|refine CallK.h [(5000, 5001)] rfl n0 rfl rfl ⟨rfl, trivial⟩ rfl rfl ?_|refine ExCall.h [(5000, 5001)] rfl n1 rfl ⟨rfl, trivial⟩ ?_|refine CallK.h [(5000, 5001)] rfl n1 rfl rfl ⟨rfl, trivial⟩ rfl rfl ?_|refine Zy hg ?_|refine Zz hg ?_|refine ExCall.h [(5000, 5001)] rfl n2 rfl ⟨rfl, trivial⟩ ?_|refine CallK.h [(5000, 5001)] rfl n2 rfl rfl ⟨rfl, trivial⟩ rfl rfl ?_|refine Zy hP ?_|refine Zz hP ?_);conv=>whnf)|(refine Zb ?_ ?_<;>(intro h;first|exact Zx|conv=>whnf))))
      (conv=>whnf); (repeat' (first|exact Zhq|exact AVle.int (by first|rfl|exact hlen.symm|omega)|exact ResH.same (AVle.own (by first|rfl|exact hlen.symm|omega))|exact ResH.same (AVle.int (by first|rfl|exact hlen.symm|omega))|exact ResH.same (AVle.bool (by simp only [decide_eq_true_eq, decide_eq_false_iff_not, decide_eq_decide]; first|rfl|exact hlen.symm|omega))|exact ResH.same (AVle.tt_ (by simp only [decide_eq_true_eq, decide_eq_false_iff_not, decide_eq_decide]; first|rfl|exact hlen.symm|omega))|exact ResH.same (AVle.ff_ (by simp only [decide_eq_true_eq, decide_eq_false_iff_not, decide_eq_decide]; first|rfl|exact hlen.symm|omega))|refine ResH.agg ?_|refine ⟨_, rfl, EntLe.blk ?_, rfl⟩|refine ⟨_, rfl, EntLe.row (by first|rfl|exact hlen.symm|omega) ?_, rfl⟩|refine And.intro ?_ ?_|((conv=>whnf); first|exact Zhq|exact ResH.same (AVle.own (by first|rfl|exact hlen.symm|omega))|exact ResH.same (AVle.int (by first|rfl|exact hlen.symm|omega))|exact ResH.same (AVle.bool (by simp only [decide_eq_true_eq, decide_eq_false_iff_not, decide_eq_decide]; first|rfl|exact hlen.symm|omega))|exact ResH.same (AVle.tt_ (by simp only [decide_eq_true_eq, decide_eq_false_iff_not, decide_eq_decide]; first|rfl|exact hlen.symm|omega))|exact ResH.same (AVle.ff_ (by simp only [decide_eq_true_eq, decide_eq_false_iff_not, decide_eq_decide]; first|rfl|exact hlen.symm|omega))|refine ResH.agg ?_)))
      · exact AVle.own hlen.symm
      · refine hrow _ fun j hj => ?_
        rcases j with _|_|_|j
        all_goals first|exact Dle.refl _|omega
    · rw [hc] at n0
      refine HC.of (n := Tryz.f19.ntmps) XX_ok Tryz.func19 rfl (by kernel_rfl) rfl rfl (Nat.le_of_ble_eq_true rfl) rfl rfl ?_
      (repeat' (first|((first|refine Zg ?_|refine Zn ?_|refine Zc ?_|refine Zu fun b hb=>?_|refine W.drawT drAct rfl mixed rfl ?_|refine ExCall.h [(5000, 5001)] rfl n0 rfl ⟨rfl, trivial⟩ ?_|refine CallK.h [(5000, 5001)] rfl n0 rfl rfl ⟨rfl, trivial⟩ rfl rfl ?_|refine ExCall.h [(5000, 5001)] rfl n1 rfl ⟨rfl, trivial⟩ ?_|refine CallK.h [(5000, 5001)] rfl n1 rfl rfl ⟨rfl, trivial⟩ rfl rfl ?_|refine Zy hg ?_|refine Zz hg ?_|refine ExCall.h [(5000, 5001)] rfl n2 rfl ⟨rfl, trivial⟩ ?_|refine CallK.h [(5000, 5001)] rfl n2 rfl rfl ⟨rfl, trivial⟩ rfl rfl ?_|refine Zy hP ?_|refine Zz hP ?_);conv=>whnf)|(refine Zb ?_ ?_<;>(intro h;first|exact Zx|conv=>whnf))))
      (conv=>whnf); (repeat' (first|exact Zhq|exact AVle.int (by first|rfl|exact hlen.symm|omega)|exact ResH.same (AVle.own (by first|rfl|exact hlen.symm|omega))|exact ResH.same (AVle.int (by first|rfl|exact hlen.symm|omega))|exact ResH.same (AVle.bool (by simp only [decide_eq_true_eq, decide_eq_false_iff_not, decide_eq_decide]; first|rfl|exact hlen.symm|omega))|exact ResH.same (AVle.tt_ (by simp only [decide_eq_true_eq, decide_eq_false_iff_not, decide_eq_decide]; first|rfl|exact hlen.symm|omega))|exact ResH.same (AVle.ff_ (by simp only [decide_eq_true_eq, decide_eq_false_iff_not, decide_eq_decide]; first|rfl|exact hlen.symm|omega))|refine ResH.agg ?_|refine ⟨_, rfl, EntLe.blk ?_, rfl⟩|refine ⟨_, rfl, EntLe.row (by first|rfl|exact hlen.symm|omega) ?_, rfl⟩|refine And.intro ?_ ?_|((conv=>whnf); first|exact Zhq|exact ResH.same (AVle.own (by first|rfl|exact hlen.symm|omega))|exact ResH.same (AVle.int (by first|rfl|exact hlen.symm|omega))|exact ResH.same (AVle.bool (by simp only [decide_eq_true_eq, decide_eq_false_iff_not, decide_eq_decide]; first|rfl|exact hlen.symm|omega))|exact ResH.same (AVle.tt_ (by simp only [decide_eq_true_eq, decide_eq_false_iff_not, decide_eq_decide]; first|rfl|exact hlen.symm|omega))|exact ResH.same (AVle.ff_ (by simp only [decide_eq_true_eq, decide_eq_false_iff_not, decide_eq_decide]; first|rfl|exact hlen.symm|omega))|refine ResH.agg ?_)))
      · exact AVle.own hlen.symm
      · refine hrow _ fun j hj => ?_
        rcases j with _|_|_|j
        all_goals first|exact Dle.refl _|omega
  · refine ⟨ss, cs, f, ni L i2, by omega, by omega, Step.skip, ?_⟩
    rcases hc with hc|hc
    · rw [hc] at n0
      refine HC.of (n := Tryz.f19.ntmps) XX_ok Tryz.func19 rfl (by kernel_rfl) rfl rfl (Nat.le_of_ble_eq_true rfl) rfl rfl ?_
      (repeat' (first|((first|refine Zg ?_|refine Zn ?_|refine Zc ?_|refine Zu fun b hb=>?_|refine W.drawT drAct rfl mixed rfl ?_|refine ExCall.h [(5000, 5001)] rfl n0 rfl ⟨rfl, trivial⟩ ?_|refine CallK.h [(5000, 5001)] rfl n0 rfl rfl ⟨rfl, trivial⟩ rfl rfl ?_|refine ExCall.h [(5000, 5001)] rfl n1 rfl ⟨rfl, trivial⟩ ?_|refine CallK.h [(5000, 5001)] rfl n1 rfl rfl ⟨rfl, trivial⟩ rfl rfl ?_|refine Zy hg ?_|refine Zz hg ?_|refine ExCall.h [(5000, 5001)] rfl n2 rfl ⟨rfl, trivial⟩ ?_|refine CallK.h [(5000, 5001)] rfl n2 rfl rfl ⟨rfl, trivial⟩ rfl rfl ?_|refine Zy hP ?_|refine Zz hP ?_);conv=>whnf)|(refine Zb ?_ ?_<;>(intro h;first|exact Zx|conv=>whnf))))
      (conv=>whnf); (repeat' (first|exact Zhq|refine ResH.agg ?_|refine ⟨_, rfl, EntLe.blk ?_, rfl⟩|refine ⟨_, rfl, EntLe.row (by first|rfl|omega) ?_, rfl⟩|refine And.intro ?_ ?_|((conv=>whnf); first|exact Zhq|refine ResH.agg ?_)))
    · rw [hc] at n0
      refine HC.of (n := Tryz.f19.ntmps) XX_ok Tryz.func19 rfl (by kernel_rfl) rfl rfl (Nat.le_of_ble_eq_true rfl) rfl rfl ?_
      (repeat' (first|((first|refine Zg ?_|refine Zn ?_|refine Zc ?_|refine Zu fun b hb=>?_|refine W.drawT drAct rfl mixed rfl ?_|refine ExCall.h [(5000, 5001)] rfl n0 rfl ⟨rfl, trivial⟩ ?_|refine CallK.h [(5000, 5001)] rfl n0 rfl rfl ⟨rfl, trivial⟩ rfl rfl ?_|refine ExCall.h [(5000, 5001)] rfl n1 rfl ⟨rfl, trivial⟩ ?_|refine CallK.h [(5000, 5001)] rfl n1 rfl rfl ⟨rfl, trivial⟩ rfl rfl ?_|refine Zy hg ?_|refine Zz hg ?_|refine ExCall.h [(5000, 5001)] rfl n2 rfl ⟨rfl, trivial⟩ ?_|refine CallK.h [(5000, 5001)] rfl n2 rfl rfl ⟨rfl, trivial⟩ rfl rfl ?_|refine Zy hP ?_|refine Zz hP ?_);conv=>whnf)|(refine Zb ?_ ?_<;>(intro h;first|exact Zx|conv=>whnf))))
      (conv=>whnf); (repeat' (first|exact Zhq|refine ResH.agg ?_|refine ⟨_, rfl, EntLe.blk ?_, rfl⟩|refine ⟨_, rfl, EntLe.row (by first|rfl|omega) ?_, rfl⟩|refine And.intro ?_ ?_|((conv=>whnf); first|exact Zhq|refine ResH.agg ?_)))
def actL : List Int := [6, 8, 5, 7, 11, 12, 9, 10, 14, 2, 3, 13]
theorem act_mov (L : List Int) (ss : List Lt) (cs : List Ch) (f : Int) (i : Nat) (hL : L.length ≤ 1000) (hi : i < L.length) (hE : EsOk ss cs f) (hc : nx L i 8 = 2 ∨ nx L i 8 = 3) : ActOk L ss cs f i := by
  have n0 := next_h L i 8 (by omega) (by omega) (by omega)
  have b0 := ni_two L hi
  obtain ⟨i1, e1⟩ : ∃ i1, i1 = ni L i := ⟨_, rfl⟩
  rw [← e1] at n0 b0
  have n1 := next_h L i1 64 (by omega) (by omega) (by omega)
  have b1 := ni_mono L b0.2
  generalize nx L i1 64 = k1 at *
  obtain ⟨i2, e2⟩ : ∃ i2, i2 = ni L i1 := ⟨_, rfl⟩
  rw [← e2] at n1 b1
  have n2 := next_h L i2 12 (by omega) (by omega) (by omega)
  have r2 := nx_rng L i2 (m := 12) (by omega)
  have b2 := ni_mono L b1.2
  generalize nx L i2 12 = k2 at *
  have hlen := hE.len
  have hAn := any_t ss k1 (by omega)
  have hf := hE.f
  obtain ⟨a, ha⟩ : ∃ a, a = actL.getD ((0 + k2.toNat) * 1 + 0) 0 := ⟨_, rfl⟩
  have hP := rmove_t ss (anyV ss k1) a (by omega) (fun x hx => by have := hE.csz x hx; omega)
  have ha4 : a ≠ 4 := by
    have : ∀ j, j < 12 → actL.getD j 0 ≠ 4 := by decide
    rw [ha]
    exact this _ (by omega)
  by_cases hz : movE ss (anyV ss k1) a = 0
  · refine ⟨_, _, _, ni L i2, by omega, by omega, Step.mov (anyV ss k1) a ha4 hz, ?_⟩
    rw [hz] at hP
    rw [ha] at hP ⊢
    rcases hc with hc|hc
    · rw [hc] at n0
      refine HC.of (n := Tryz.f19.ntmps) XX_ok Tryz.func19 rfl (by kernel_rfl) rfl rfl (Nat.le_of_ble_eq_true rfl) rfl rfl ?_
      (repeat' (first|((first|refine Zg ?_|refine Zn ?_|refine Zc ?_|refine Zu fun b hb=>?_|refine W.drawT drAct rfl mixed rfl ?_|refine ExCall.h [(5000, 5001)] rfl n0 rfl ⟨rfl, trivial⟩ ?_|refine CallK.h [(5000, 5001)] rfl n0 rfl rfl ⟨rfl, trivial⟩ rfl rfl ?_|refine ExCall.h [(5000, 5001)] rfl n1 rfl ⟨rfl, trivial⟩ ?_|refine CallK.h [(5000, 5001)] rfl n1 rfl rfl ⟨rfl, trivial⟩ rfl rfl ?_|refine ExCall.h [(5000, 5001)] rfl n2 rfl ⟨rfl, trivial⟩ ?_|refine CallK.h [(5000, 5001)] rfl n2 rfl rfl ⟨rfl, trivial⟩ rfl rfl ?_|refine CallK.by (CallA.plain hAn ⟨ArgLe.cell0 rfl rfl rfl, ArgLe.refl rfl, trivial⟩ rfl) ?_|refine Zy hP ?_|refine Zz hP ?_);conv=>whnf)|(refine Zb ?_ ?_<;>(intro h;first|exact Zx|conv=>whnf))))
      (conv=>whnf); (repeat' (first|exact Zhq|refine ResH.agg ?_|refine ⟨_, rfl, EntLe.blk ?_, rfl⟩|refine ⟨_, rfl, EntLe.row (by first|rfl|omega) ?_, rfl⟩|refine And.intro ?_ ?_|((conv=>whnf); first|exact Zhq|refine ResH.agg ?_)))
    · rw [hc] at n0
      refine HC.of (n := Tryz.f19.ntmps) XX_ok Tryz.func19 rfl (by kernel_rfl) rfl rfl (Nat.le_of_ble_eq_true rfl) rfl rfl ?_
      (repeat' (first|((first|refine Zg ?_|refine Zn ?_|refine Zc ?_|refine Zu fun b hb=>?_|refine W.drawT drAct rfl mixed rfl ?_|refine ExCall.h [(5000, 5001)] rfl n0 rfl ⟨rfl, trivial⟩ ?_|refine CallK.h [(5000, 5001)] rfl n0 rfl rfl ⟨rfl, trivial⟩ rfl rfl ?_|refine ExCall.h [(5000, 5001)] rfl n1 rfl ⟨rfl, trivial⟩ ?_|refine CallK.h [(5000, 5001)] rfl n1 rfl rfl ⟨rfl, trivial⟩ rfl rfl ?_|refine ExCall.h [(5000, 5001)] rfl n2 rfl ⟨rfl, trivial⟩ ?_|refine CallK.h [(5000, 5001)] rfl n2 rfl rfl ⟨rfl, trivial⟩ rfl rfl ?_|refine CallK.by (CallA.plain hAn ⟨ArgLe.cell0 rfl rfl rfl, ArgLe.refl rfl, trivial⟩ rfl) ?_|refine Zy hP ?_|refine Zz hP ?_);conv=>whnf)|(refine Zb ?_ ?_<;>(intro h;first|exact Zx|conv=>whnf))))
      (conv=>whnf); (repeat' (first|exact Zhq|refine ResH.agg ?_|refine ⟨_, rfl, EntLe.blk ?_, rfl⟩|refine ⟨_, rfl, EntLe.row (by first|rfl|omega) ?_, rfl⟩|refine And.intro ?_ ?_|((conv=>whnf); first|exact Zhq|refine ResH.agg ?_)))
  · refine ⟨ss, cs, f, ni L i2, by omega, by omega, Step.skip, ?_⟩
    rw [ha] at hP hz
    rcases hc with hc|hc
    · rw [hc] at n0
      refine HC.of (n := Tryz.f19.ntmps) XX_ok Tryz.func19 rfl (by kernel_rfl) rfl rfl (Nat.le_of_ble_eq_true rfl) rfl rfl ?_
      (repeat' (first|((first|refine Zg ?_|refine Zn ?_|refine Zc ?_|refine Zu fun b hb=>?_|refine W.drawT drAct rfl mixed rfl ?_|refine ExCall.h [(5000, 5001)] rfl n0 rfl ⟨rfl, trivial⟩ ?_|refine CallK.h [(5000, 5001)] rfl n0 rfl rfl ⟨rfl, trivial⟩ rfl rfl ?_|refine ExCall.h [(5000, 5001)] rfl n1 rfl ⟨rfl, trivial⟩ ?_|refine CallK.h [(5000, 5001)] rfl n1 rfl rfl ⟨rfl, trivial⟩ rfl rfl ?_|refine ExCall.h [(5000, 5001)] rfl n2 rfl ⟨rfl, trivial⟩ ?_|refine CallK.h [(5000, 5001)] rfl n2 rfl rfl ⟨rfl, trivial⟩ rfl rfl ?_|refine CallK.by (CallA.plain hAn ⟨ArgLe.cell0 rfl rfl rfl, ArgLe.refl rfl, trivial⟩ rfl) ?_|refine Zy hP ?_|refine Zz hP ?_);conv=>whnf)|(refine Zb ?_ ?_<;>(intro h;first|exact Zx|conv=>whnf))))
      (conv=>whnf); (repeat' (first|exact Zhq|refine ResH.agg ?_|refine ⟨_, rfl, EntLe.blk ?_, rfl⟩|refine ⟨_, rfl, EntLe.row (by first|rfl|omega) ?_, rfl⟩|refine And.intro ?_ ?_|((conv=>whnf); first|exact Zhq|refine ResH.agg ?_)))
    · rw [hc] at n0
      refine HC.of (n := Tryz.f19.ntmps) XX_ok Tryz.func19 rfl (by kernel_rfl) rfl rfl (Nat.le_of_ble_eq_true rfl) rfl rfl ?_
      (repeat' (first|((first|refine Zg ?_|refine Zn ?_|refine Zc ?_|refine Zu fun b hb=>?_|refine W.drawT drAct rfl mixed rfl ?_|refine ExCall.h [(5000, 5001)] rfl n0 rfl ⟨rfl, trivial⟩ ?_|refine CallK.h [(5000, 5001)] rfl n0 rfl rfl ⟨rfl, trivial⟩ rfl rfl ?_|refine ExCall.h [(5000, 5001)] rfl n1 rfl ⟨rfl, trivial⟩ ?_|refine CallK.h [(5000, 5001)] rfl n1 rfl rfl ⟨rfl, trivial⟩ rfl rfl ?_|refine ExCall.h [(5000, 5001)] rfl n2 rfl ⟨rfl, trivial⟩ ?_|refine CallK.h [(5000, 5001)] rfl n2 rfl rfl ⟨rfl, trivial⟩ rfl rfl ?_|refine CallK.by (CallA.plain hAn ⟨ArgLe.cell0 rfl rfl rfl, ArgLe.refl rfl, trivial⟩ rfl) ?_|refine Zy hP ?_|refine Zz hP ?_);conv=>whnf)|(refine Zb ?_ ?_<;>(intro h;first|exact Zx|conv=>whnf))))
      (conv=>whnf); (repeat' (first|exact Zhq|refine ResH.agg ?_|refine ⟨_, rfl, EntLe.blk ?_, rfl⟩|refine ⟨_, rfl, EntLe.row (by first|rfl|omega) ?_, rfl⟩|refine And.intro ?_ ?_|((conv=>whnf); first|exact Zhq|refine ResH.agg ?_)))
theorem two_pts (p q : Pt) : AVle (.dat (.lst 2 2 fun i j => pickF (tabB 2 2) [.val (.int .i64 p.id), .val (.int .i64 p.q), .val (.int .i64 q.id), .val (.int .i64 q.q)] (i * 2 + j))) (.dat (ptD [p, q])) := AVle.dat (Dle.lst rfl fun i hi j hj => by
  rcases i with _|_|i
  · rcases j with _|_|j
    all_goals first|exact Dle.refl _|omega
  · rcases j with _|_|j
    all_goals first|exact Dle.refl _|omega
  · omega)
theorem two_ints (a b : Int) : AVle (.dat (.lst 1 2 fun i j => pickF (tabB 2 1) [.val (.int .i64 a), .val (.int .i64 b)] (i * 1 + j))) (.dat (iD [a, b])) := AVle.dat (Dle.lst rfl fun i hi j hj => by
  obtain rfl : j = 0 := by omega
  rcases i with _|_|i
  · exact Dle.refl _
  · exact Dle.refl _
  · omega)
theorem act_spl (L : List Int) (ss : List Lt) (cs : List Ch) (f : Int) (i : Nat) (hL : L.length ≤ 1000) (hi : i < L.length) (hE : EsOk ss cs f) (hc : nx L i 8 = 4 ∨ nx L i 8 = 5) : ActOk L ss cs f i := by
  have n0 := next_h L i 8 (by omega) (by omega) (by omega)
  have b0 := ni_two L hi
  obtain ⟨i1, e1⟩ : ∃ i1, i1 = ni L i := ⟨_, rfl⟩
  rw [← e1] at n0 b0
  have n1 := next_h L i1 64 (by omega) (by omega) (by omega)
  have b1 := ni_mono L b0.2
  generalize nx L i1 64 = k1 at *
  obtain ⟨i2, e2⟩ : ∃ i2, i2 = ni L i1 := ⟨_, rfl⟩
  rw [← e2] at n1 b1
  have b2 := ni_mono L b1.2
  have hlen := hE.len
  have hf := hE.f
  have hAn := any_t ss k1 (by omega)
  have hAt := rat_t ss (anyV ss k1) (by omega)
  by_cases hh : hasI ss (anyV ss k1) ∧ 2 ≤ (findV ss (anyV ss k1)).q
  · obtain ⟨hh, hq⟩ := hh
    obtain ⟨k0, q1, q2, q3, q4, q5⟩ := findI_ex hh
    rw [at_has hh, q2] at hAt
    rw [← q5] at hq
    have hq2 := (hE.q _ (getD_in q1)).2
    have hq' : 2 ≤ (ss.getD ((k0 : Int)).toNat default).q ∧ (ss.getD ((k0 : Int)).toNat default).q ≤ 1000000000 := ⟨hq, hq2⟩
    have n2 := next_h L i2 ((ss.getD k0 default).q - 1) (by omega) (by omega) (by omega)
    have r2 := nx_rng L i2 (m := (ss.getD k0 default).q - 1) (by omega)
    generalize nx L i2 ((ss.getD k0 default).q - 1) = k2 at *
    obtain ⟨i3, e3⟩ : ∃ i3, i3 = ni L i2 := ⟨_, rfl⟩
    rw [← e3] at n2 b2
    have n3 := next_h L i3 3 (by omega) (by omega) (by omega)
    have b3 := ni_mono L b2.2
    have r3 := nx_rng L i3 (m := 3) (by omega)
    generalize nx L i3 3 = k3 at *
    have hS := rsplit_t ss (anyV ss k1) [⟨f, 1 + k2⟩, ⟨f + 1, (ss.getD k0 default).q - (1 + k2)⟩] (1 + k3) (by omega) (fun x hx => by have := hE.csz x hx; omega) (by simp)
    by_cases hz : splE ss (anyV ss k1) [⟨f, 1 + k2⟩, ⟨f + 1, (ss.getD k0 default).q - (1 + k2)⟩] (1 + k3) = 0
    · refine ⟨_, _, _, ni L i3, by omega, by omega, Step.spl (anyV ss k1) (1 + k2) ((ss.getD k0 default).q - (1 + k2)) (1 + k3) hz, ?_⟩
      rw [hz] at hS
      rcases hc with hc|hc
      · rw [hc] at n0
        refine HC.of (n := Tryz.f19.ntmps) XX_ok Tryz.func19 rfl (by kernel_rfl) rfl rfl (Nat.le_of_ble_eq_true rfl) rfl rfl ?_
        (repeat' (first|((first|refine Zg ?_|refine Zn ?_|refine Zc ?_|refine Zu fun b hb=>?_|refine W.drawT (drAct.take 4) rfl mixed rfl ?_|refine ExCall.h [(5000, 5001)] rfl n0 rfl ⟨rfl, trivial⟩ ?_|refine CallK.h [(5000, 5001)] rfl n0 rfl rfl ⟨rfl, trivial⟩ rfl rfl ?_|refine ExCall.h [(5000, 5001)] rfl n1 rfl ⟨rfl, trivial⟩ ?_|refine CallK.h [(5000, 5001)] rfl n1 rfl rfl ⟨rfl, trivial⟩ rfl rfl ?_|refine ExCall.by (CallA.plain hAn ⟨ArgLe.cell0 rfl rfl rfl, ArgLe.refl rfl, trivial⟩ rfl) ?_|refine Zy hAt ?_|refine Zz hAt ?_|refine ExCall.h [(5000, 5001)] rfl n2 rfl ⟨rfl, trivial⟩ ?_|refine CallK.h [(5000, 5001)] rfl n2 rfl rfl ⟨rfl, trivial⟩ rfl rfl ?_);conv=>whnf)|(refine Zb ?_ ?_<;>(intro h;first|exact Zx|conv=>whnf))))
        refine (W.pubD 11 218 rfl rfl ?_)
        conv => whnf
        refine (W.re 11 (.dat (ptD [⟨f, 1 + k2⟩, ⟨f + 1, (ss.getD k0 default).q - (1 + k2)⟩])) (two_pts ⟨f, 1 + k2⟩ ⟨f + 1, (ss.getD k0 default).q - (1 + k2)⟩) ?_)
        conv => whnf
        (repeat' (first|((first|refine Zg ?_|refine Zn ?_|refine Zc ?_|refine Zu fun b hb=>?_|refine W.drawT drAct rfl mixed rfl ?_|refine ExCall.h [(5000, 5001)] rfl n3 rfl ⟨rfl, trivial⟩ ?_|refine CallK.h [(5000, 5001)] rfl n3 rfl rfl ⟨rfl, trivial⟩ rfl rfl ?_|refine Zy hS ?_|refine Zz hS ?_);conv=>whnf)|(refine Zb ?_ ?_<;>(intro h;first|exact Zx|conv=>whnf))))
        (conv=>whnf); (repeat' (first|exact Zhq|refine ResH.agg ?_|refine ⟨_, rfl, EntLe.blk ?_, rfl⟩|refine ⟨_, rfl, EntLe.row (by first|rfl|omega) ?_, rfl⟩|refine And.intro ?_ ?_|((conv=>whnf); first|exact Zhq|refine ResH.agg ?_)))
      · rw [hc] at n0
        refine HC.of (n := Tryz.f19.ntmps) XX_ok Tryz.func19 rfl (by kernel_rfl) rfl rfl (Nat.le_of_ble_eq_true rfl) rfl rfl ?_
        (repeat' (first|((first|refine Zg ?_|refine Zn ?_|refine Zc ?_|refine Zu fun b hb=>?_|refine W.drawT (drAct.take 4) rfl mixed rfl ?_|refine ExCall.h [(5000, 5001)] rfl n0 rfl ⟨rfl, trivial⟩ ?_|refine CallK.h [(5000, 5001)] rfl n0 rfl rfl ⟨rfl, trivial⟩ rfl rfl ?_|refine ExCall.h [(5000, 5001)] rfl n1 rfl ⟨rfl, trivial⟩ ?_|refine CallK.h [(5000, 5001)] rfl n1 rfl rfl ⟨rfl, trivial⟩ rfl rfl ?_|refine ExCall.by (CallA.plain hAn ⟨ArgLe.cell0 rfl rfl rfl, ArgLe.refl rfl, trivial⟩ rfl) ?_|refine Zy hAt ?_|refine Zz hAt ?_|refine ExCall.h [(5000, 5001)] rfl n2 rfl ⟨rfl, trivial⟩ ?_|refine CallK.h [(5000, 5001)] rfl n2 rfl rfl ⟨rfl, trivial⟩ rfl rfl ?_);conv=>whnf)|(refine Zb ?_ ?_<;>(intro h;first|exact Zx|conv=>whnf))))
        refine (W.pubD 11 218 rfl rfl ?_)
        conv => whnf
        refine (W.re 11 (.dat (ptD [⟨f, 1 + k2⟩, ⟨f + 1, (ss.getD k0 default).q - (1 + k2)⟩])) (two_pts ⟨f, 1 + k2⟩ ⟨f + 1, (ss.getD k0 default).q - (1 + k2)⟩) ?_)
        conv => whnf
        (repeat' (first|((first|refine Zg ?_|refine Zn ?_|refine Zc ?_|refine Zu fun b hb=>?_|refine W.drawT drAct rfl mixed rfl ?_|refine ExCall.h [(5000, 5001)] rfl n3 rfl ⟨rfl, trivial⟩ ?_|refine CallK.h [(5000, 5001)] rfl n3 rfl rfl ⟨rfl, trivial⟩ rfl rfl ?_|refine Zy hS ?_|refine Zz hS ?_);conv=>whnf)|(refine Zb ?_ ?_<;>(intro h;first|exact Zx|conv=>whnf))))
        (conv=>whnf); (repeat' (first|exact Zhq|refine ResH.agg ?_|refine ⟨_, rfl, EntLe.blk ?_, rfl⟩|refine ⟨_, rfl, EntLe.row (by first|rfl|omega) ?_, rfl⟩|refine And.intro ?_ ?_|((conv=>whnf); first|exact Zhq|refine ResH.agg ?_)))
    · refine ⟨ss, cs, f, ni L i3, by omega, by omega, Step.skip, ?_⟩
      rcases hc with hc|hc
      · rw [hc] at n0
        refine HC.of (n := Tryz.f19.ntmps) XX_ok Tryz.func19 rfl (by kernel_rfl) rfl rfl (Nat.le_of_ble_eq_true rfl) rfl rfl ?_
        (repeat' (first|((first|refine Zg ?_|refine Zn ?_|refine Zc ?_|refine Zu fun b hb=>?_|refine W.drawT (drAct.take 4) rfl mixed rfl ?_|refine ExCall.h [(5000, 5001)] rfl n0 rfl ⟨rfl, trivial⟩ ?_|refine CallK.h [(5000, 5001)] rfl n0 rfl rfl ⟨rfl, trivial⟩ rfl rfl ?_|refine ExCall.h [(5000, 5001)] rfl n1 rfl ⟨rfl, trivial⟩ ?_|refine CallK.h [(5000, 5001)] rfl n1 rfl rfl ⟨rfl, trivial⟩ rfl rfl ?_|refine ExCall.by (CallA.plain hAn ⟨ArgLe.cell0 rfl rfl rfl, ArgLe.refl rfl, trivial⟩ rfl) ?_|refine Zy hAt ?_|refine Zz hAt ?_|refine ExCall.h [(5000, 5001)] rfl n2 rfl ⟨rfl, trivial⟩ ?_|refine CallK.h [(5000, 5001)] rfl n2 rfl rfl ⟨rfl, trivial⟩ rfl rfl ?_);conv=>whnf)|(refine Zb ?_ ?_<;>(intro h;first|exact Zx|conv=>whnf))))
        refine (W.pubD 11 218 rfl rfl ?_)
        conv => whnf
        refine (W.re 11 (.dat (ptD [⟨f, 1 + k2⟩, ⟨f + 1, (ss.getD k0 default).q - (1 + k2)⟩])) (two_pts ⟨f, 1 + k2⟩ ⟨f + 1, (ss.getD k0 default).q - (1 + k2)⟩) ?_)
        conv => whnf
        (repeat' (first|((first|refine Zg ?_|refine Zn ?_|refine Zc ?_|refine Zu fun b hb=>?_|refine W.drawT drAct rfl mixed rfl ?_|refine ExCall.h [(5000, 5001)] rfl n3 rfl ⟨rfl, trivial⟩ ?_|refine CallK.h [(5000, 5001)] rfl n3 rfl rfl ⟨rfl, trivial⟩ rfl rfl ?_|refine Zy hS ?_|refine Zz hS ?_);conv=>whnf)|(refine Zb ?_ ?_<;>(intro h;first|exact Zx|conv=>whnf))))
        (conv=>whnf); (repeat' (first|exact Zhq|refine ResH.agg ?_|refine ⟨_, rfl, EntLe.blk ?_, rfl⟩|refine ⟨_, rfl, EntLe.row (by first|rfl|omega) ?_, rfl⟩|refine And.intro ?_ ?_|((conv=>whnf); first|exact Zhq|refine ResH.agg ?_)))
      · rw [hc] at n0
        refine HC.of (n := Tryz.f19.ntmps) XX_ok Tryz.func19 rfl (by kernel_rfl) rfl rfl (Nat.le_of_ble_eq_true rfl) rfl rfl ?_
        (repeat' (first|((first|refine Zg ?_|refine Zn ?_|refine Zc ?_|refine Zu fun b hb=>?_|refine W.drawT (drAct.take 4) rfl mixed rfl ?_|refine ExCall.h [(5000, 5001)] rfl n0 rfl ⟨rfl, trivial⟩ ?_|refine CallK.h [(5000, 5001)] rfl n0 rfl rfl ⟨rfl, trivial⟩ rfl rfl ?_|refine ExCall.h [(5000, 5001)] rfl n1 rfl ⟨rfl, trivial⟩ ?_|refine CallK.h [(5000, 5001)] rfl n1 rfl rfl ⟨rfl, trivial⟩ rfl rfl ?_|refine ExCall.by (CallA.plain hAn ⟨ArgLe.cell0 rfl rfl rfl, ArgLe.refl rfl, trivial⟩ rfl) ?_|refine Zy hAt ?_|refine Zz hAt ?_|refine ExCall.h [(5000, 5001)] rfl n2 rfl ⟨rfl, trivial⟩ ?_|refine CallK.h [(5000, 5001)] rfl n2 rfl rfl ⟨rfl, trivial⟩ rfl rfl ?_);conv=>whnf)|(refine Zb ?_ ?_<;>(intro h;first|exact Zx|conv=>whnf))))
        refine (W.pubD 11 218 rfl rfl ?_)
        conv => whnf
        refine (W.re 11 (.dat (ptD [⟨f, 1 + k2⟩, ⟨f + 1, (ss.getD k0 default).q - (1 + k2)⟩])) (two_pts ⟨f, 1 + k2⟩ ⟨f + 1, (ss.getD k0 default).q - (1 + k2)⟩) ?_)
        conv => whnf
        (repeat' (first|((first|refine Zg ?_|refine Zn ?_|refine Zc ?_|refine Zu fun b hb=>?_|refine W.drawT drAct rfl mixed rfl ?_|refine ExCall.h [(5000, 5001)] rfl n3 rfl ⟨rfl, trivial⟩ ?_|refine CallK.h [(5000, 5001)] rfl n3 rfl rfl ⟨rfl, trivial⟩ rfl rfl ?_|refine Zy hS ?_|refine Zz hS ?_);conv=>whnf)|(refine Zb ?_ ?_<;>(intro h;first|exact Zx|conv=>whnf))))
        (conv=>whnf); (repeat' (first|exact Zhq|refine ResH.agg ?_|refine ⟨_, rfl, EntLe.blk ?_, rfl⟩|refine ⟨_, rfl, EntLe.row (by first|rfl|omega) ?_, rfl⟩|refine And.intro ?_ ?_|((conv=>whnf); first|exact Zhq|refine ResH.agg ?_)))
  · refine ⟨ss, cs, f, i2, by omega, by omega, Step.skip, ?_⟩
    by_cases hh1 : hasI ss (anyV ss k1)
    · obtain ⟨k0, q1, q2, q3, q4, q5⟩ := findI_ex hh1
      rw [at_has hh1, q2] at hAt
      have hq : ¬ 2 ≤ (ss.getD ((k0 : Int)).toNat default).q := fun h => hh ⟨hh1, q5 ▸ h⟩
      rcases hc with hc|hc
      · rw [hc] at n0
        refine HC.of (n := Tryz.f19.ntmps) XX_ok Tryz.func19 rfl (by kernel_rfl) rfl rfl (Nat.le_of_ble_eq_true rfl) rfl rfl ?_
        (repeat' (first|((first|refine Zg ?_|refine Zn ?_|refine Zc ?_|refine Zu fun b hb=>?_|refine W.drawT drAct rfl mixed rfl ?_|refine ExCall.h [(5000, 5001)] rfl n0 rfl ⟨rfl, trivial⟩ ?_|refine CallK.h [(5000, 5001)] rfl n0 rfl rfl ⟨rfl, trivial⟩ rfl rfl ?_|refine ExCall.h [(5000, 5001)] rfl n1 rfl ⟨rfl, trivial⟩ ?_|refine CallK.h [(5000, 5001)] rfl n1 rfl rfl ⟨rfl, trivial⟩ rfl rfl ?_|refine ExCall.by (CallA.plain hAn ⟨ArgLe.cell0 rfl rfl rfl, ArgLe.refl rfl, trivial⟩ rfl) ?_|refine Zy hAt ?_|refine Zz hAt ?_);conv=>whnf)|(refine Zb ?_ ?_<;>(intro h;first|exact Zx|conv=>whnf))))
        (conv=>whnf); (repeat' (first|exact Zhq|refine ResH.agg ?_|refine ⟨_, rfl, EntLe.blk ?_, rfl⟩|refine ⟨_, rfl, EntLe.row (by first|rfl|omega) ?_, rfl⟩|refine And.intro ?_ ?_|((conv=>whnf); first|exact Zhq|refine ResH.agg ?_)))
      · rw [hc] at n0
        refine HC.of (n := Tryz.f19.ntmps) XX_ok Tryz.func19 rfl (by kernel_rfl) rfl rfl (Nat.le_of_ble_eq_true rfl) rfl rfl ?_
        (repeat' (first|((first|refine Zg ?_|refine Zn ?_|refine Zc ?_|refine Zu fun b hb=>?_|refine W.drawT drAct rfl mixed rfl ?_|refine ExCall.h [(5000, 5001)] rfl n0 rfl ⟨rfl, trivial⟩ ?_|refine CallK.h [(5000, 5001)] rfl n0 rfl rfl ⟨rfl, trivial⟩ rfl rfl ?_|refine ExCall.h [(5000, 5001)] rfl n1 rfl ⟨rfl, trivial⟩ ?_|refine CallK.h [(5000, 5001)] rfl n1 rfl rfl ⟨rfl, trivial⟩ rfl rfl ?_|refine ExCall.by (CallA.plain hAn ⟨ArgLe.cell0 rfl rfl rfl, ArgLe.refl rfl, trivial⟩ rfl) ?_|refine Zy hAt ?_|refine Zz hAt ?_);conv=>whnf)|(refine Zb ?_ ?_<;>(intro h;first|exact Zx|conv=>whnf))))
        (conv=>whnf); (repeat' (first|exact Zhq|refine ResH.agg ?_|refine ⟨_, rfl, EntLe.blk ?_, rfl⟩|refine ⟨_, rfl, EntLe.row (by first|rfl|omega) ?_, rfl⟩|refine And.intro ?_ ?_|((conv=>whnf); first|exact Zhq|refine ResH.agg ?_)))
    · rw [at_no hh1] at hAt
      rcases hc with hc|hc
      · rw [hc] at n0
        refine HC.of (n := Tryz.f19.ntmps) XX_ok Tryz.func19 rfl (by kernel_rfl) rfl rfl (Nat.le_of_ble_eq_true rfl) rfl rfl ?_
        (repeat' (first|((first|refine Zg ?_|refine Zn ?_|refine Zc ?_|refine Zu fun b hb=>?_|refine W.drawT drAct rfl mixed rfl ?_|refine ExCall.h [(5000, 5001)] rfl n0 rfl ⟨rfl, trivial⟩ ?_|refine CallK.h [(5000, 5001)] rfl n0 rfl rfl ⟨rfl, trivial⟩ rfl rfl ?_|refine ExCall.h [(5000, 5001)] rfl n1 rfl ⟨rfl, trivial⟩ ?_|refine CallK.h [(5000, 5001)] rfl n1 rfl rfl ⟨rfl, trivial⟩ rfl rfl ?_|refine ExCall.by (CallA.plain hAn ⟨ArgLe.cell0 rfl rfl rfl, ArgLe.refl rfl, trivial⟩ rfl) ?_|refine Zy hAt ?_|refine Zz hAt ?_);conv=>whnf)|(refine Zb ?_ ?_<;>(intro h;first|exact Zx|conv=>whnf))))
        (conv=>whnf); (repeat' (first|exact Zhq|refine ResH.agg ?_|refine ⟨_, rfl, EntLe.blk ?_, rfl⟩|refine ⟨_, rfl, EntLe.row (by first|rfl|omega) ?_, rfl⟩|refine And.intro ?_ ?_|((conv=>whnf); first|exact Zhq|refine ResH.agg ?_)))
      · rw [hc] at n0
        refine HC.of (n := Tryz.f19.ntmps) XX_ok Tryz.func19 rfl (by kernel_rfl) rfl rfl (Nat.le_of_ble_eq_true rfl) rfl rfl ?_
        (repeat' (first|((first|refine Zg ?_|refine Zn ?_|refine Zc ?_|refine Zu fun b hb=>?_|refine W.drawT drAct rfl mixed rfl ?_|refine ExCall.h [(5000, 5001)] rfl n0 rfl ⟨rfl, trivial⟩ ?_|refine CallK.h [(5000, 5001)] rfl n0 rfl rfl ⟨rfl, trivial⟩ rfl rfl ?_|refine ExCall.h [(5000, 5001)] rfl n1 rfl ⟨rfl, trivial⟩ ?_|refine CallK.h [(5000, 5001)] rfl n1 rfl rfl ⟨rfl, trivial⟩ rfl rfl ?_|refine ExCall.by (CallA.plain hAn ⟨ArgLe.cell0 rfl rfl rfl, ArgLe.refl rfl, trivial⟩ rfl) ?_|refine Zy hAt ?_|refine Zz hAt ?_);conv=>whnf)|(refine Zb ?_ ?_<;>(intro h;first|exact Zx|conv=>whnf))))
        (conv=>whnf); (repeat' (first|exact Zhq|refine ResH.agg ?_|refine ⟨_, rfl, EntLe.blk ?_, rfl⟩|refine ⟨_, rfl, EntLe.row (by first|rfl|omega) ?_, rfl⟩|refine And.intro ?_ ?_|((conv=>whnf); first|exact Zhq|refine ResH.agg ?_)))
theorem act_mer (L : List Int) (ss : List Lt) (cs : List Ch) (f : Int) (i : Nat) (hL : L.length ≤ 1000) (hi : i < L.length) (hE : EsOk ss cs f) (hc : nx L i 8 = 6) : ActOk L ss cs f i := by
  have n0 := next_h L i 8 (by omega) (by omega) (by omega)
  have b0 := ni_two L hi
  obtain ⟨i1, e1⟩ : ∃ i1, i1 = ni L i := ⟨_, rfl⟩
  rw [← e1] at n0 b0
  have n1 := next_h L i1 64 (by omega) (by omega) (by omega)
  have b1 := ni_mono L b0.2
  generalize nx L i1 64 = k1 at *
  obtain ⟨i2, e2⟩ : ∃ i2, i2 = ni L i1 := ⟨_, rfl⟩
  rw [← e2] at n1 b1
  have n2 := next_h L i2 64 (by omega) (by omega) (by omega)
  have b2 := ni_mono L b1.2
  generalize nx L i2 64 = k2 at *
  have hlen := hE.len
  have hf := hE.f
  have hA1 := ACalls.at (l := [247]) (any_t ss k1 (by omega))
  have hA2 := ACalls.at (l := [247]) (any_t ss k2 (by omega))
  have hM := (rmerge_t ss [anyV ss k1, anyV ss k2] f (by omega) (fun x hx => by have := hE.csz x hx; omega) (by simp)).args3 (AVle.refl _) (two_ints _ _) (AVle.refl _)
  rw [hc] at n0
  by_cases hz : merE ss [anyV ss k1, anyV ss k2] f = 0
  · refine ⟨_, _, _, ni L i2, by omega, by omega, Step.mer (anyV ss k1) (anyV ss k2) hz, ?_⟩
    rw [hz] at hM
    refine HC.of (n := Tryz.f19.ntmps) XX_ok Tryz.func19 rfl (by kernel_rfl) rfl rfl (Nat.le_of_ble_eq_true rfl) rfl rfl ?_
    (repeat' (first|((first|refine Zg ?_|refine Zn ?_|refine Zc ?_|refine Zu fun b hb=>?_|refine ExCall.h [(5000, 5001)] rfl n0 rfl ⟨rfl, trivial⟩ ?_|refine CallK.h [(5000, 5001)] rfl n0 rfl rfl ⟨rfl, trivial⟩ rfl rfl ?_);conv=>whnf)|(refine Zb ?_ ?_<;>(intro h;first|exact Zx|conv=>whnf))))
    refine W.pb [247] ?_
    (repeat' (first|((first|refine Zg ?_|refine Zn ?_|refine Zc ?_|refine Zu fun b hb=>?_|refine W.drawP drAct rfl mixed rfl ?_|refine ExCall.h [(5000, 5001)] rfl (HC.at (n1)) rfl ⟨rfl, trivial⟩ ?_|refine CallK.h [(5000, 5001)] rfl (HC.at (n1)) rfl rfl ⟨rfl, trivial⟩ rfl rfl ?_|refine ExCall.h [(5000, 5001)] rfl (HC.at (n2)) rfl ⟨rfl, trivial⟩ ?_|refine CallK.h [(5000, 5001)] rfl (HC.at (n2)) rfl rfl ⟨rfl, trivial⟩ rfl rfl ?_|refine CallK.by (CallA.plain hA1 ⟨ArgLe.cell0 rfl rfl rfl, ArgLe.refl rfl, trivial⟩ rfl) ?_|refine CallK.by (CallA.plain hA2 ⟨ArgLe.cell0 rfl rfl rfl, ArgLe.refl rfl, trivial⟩ rfl) ?_|refine Zy (ACalls.at (hM)) ?_|refine Zz (ACalls.at (hM)) ?_);conv=>whnf)|(refine Zb ?_ ?_<;>(intro h;first|exact Zx|conv=>whnf))))
    (conv=>whnf); (repeat' (first|exact Zhq|refine ResH.agg ?_|refine ⟨_, rfl, EntLe.blk ?_, rfl⟩|refine ⟨_, rfl, EntLe.row (by first|rfl|omega) ?_, rfl⟩|refine And.intro ?_ ?_|((conv=>whnf); first|exact Zhq|refine ResH.agg ?_)))
  · refine ⟨ss, cs, f, ni L i2, by omega, by omega, Step.skip, ?_⟩
    refine HC.of (n := Tryz.f19.ntmps) XX_ok Tryz.func19 rfl (by kernel_rfl) rfl rfl (Nat.le_of_ble_eq_true rfl) rfl rfl ?_
    (repeat' (first|((first|refine Zg ?_|refine Zn ?_|refine Zc ?_|refine Zu fun b hb=>?_|refine ExCall.h [(5000, 5001)] rfl n0 rfl ⟨rfl, trivial⟩ ?_|refine CallK.h [(5000, 5001)] rfl n0 rfl rfl ⟨rfl, trivial⟩ rfl rfl ?_);conv=>whnf)|(refine Zb ?_ ?_<;>(intro h;first|exact Zx|conv=>whnf))))
    refine W.pb [247] ?_
    (repeat' (first|((first|refine Zg ?_|refine Zn ?_|refine Zc ?_|refine Zu fun b hb=>?_|refine W.drawP drAct rfl mixed rfl ?_|refine ExCall.h [(5000, 5001)] rfl (HC.at (n1)) rfl ⟨rfl, trivial⟩ ?_|refine CallK.h [(5000, 5001)] rfl (HC.at (n1)) rfl rfl ⟨rfl, trivial⟩ rfl rfl ?_|refine ExCall.h [(5000, 5001)] rfl (HC.at (n2)) rfl ⟨rfl, trivial⟩ ?_|refine CallK.h [(5000, 5001)] rfl (HC.at (n2)) rfl rfl ⟨rfl, trivial⟩ rfl rfl ?_|refine CallK.by (CallA.plain hA1 ⟨ArgLe.cell0 rfl rfl rfl, ArgLe.refl rfl, trivial⟩ rfl) ?_|refine CallK.by (CallA.plain hA2 ⟨ArgLe.cell0 rfl rfl rfl, ArgLe.refl rfl, trivial⟩ rfl) ?_|refine Zy (ACalls.at (hM)) ?_|refine Zz (ACalls.at (hM)) ?_);conv=>whnf)|(refine Zb ?_ ?_<;>(intro h;first|exact Zx|conv=>whnf))))
    (conv=>whnf); (repeat' (first|exact Zhq|refine ResH.agg ?_|refine ⟨_, rfl, EntLe.blk ?_, rfl⟩|refine ⟨_, rfl, EntLe.row (by first|rfl|omega) ?_, rfl⟩|refine And.intro ?_ ?_|((conv=>whnf); first|exact Zhq|refine ResH.agg ?_)))

end Go.Proofs.YtacpjihbbmoolaaGreatDoor

namespace Go.Proofs.YtacpjihbbmoolaaGreatDoor
open Go Go.RowKit
set_option linter.unusedVariables false
set_option linter.unusedSimpArgs false
set_option maxRecDepth 100000

theorem ite0 {c : Prop} {dc : Decidable c} {a b : Int} (ha : c → a ≠ 0) (h : (if c then a else b) = 0) : ¬ c ∧ b = 0 := by
  by_cases hc : c
  · rw [if_pos hc] at h; exact absurd h (ha hc)
  · rw [if_neg hc] at h; exact ⟨hc, h⟩
theorem preE_inv {ss : List Lt} {id : Int} {c : ByteArray} {q : Int} (h : preE ss id c q = 0) : StkOk ss ∧ (idOk id ∧ codeOk c ∧ qOk q) ∧ ¬ takenP ss id ∧ ss.length < 64 ∧ preL ss id c q = replL ss [] [newLt id c q] := by
  have h0 := h
  unfold preE at h
  split at h
  · rename_i h1; exact absurd h h1
  rename_i h1
  split at h
  · cases h
  rename_i h2
  split at h
  · cases h
  rename_i h3
  split at h
  · cases h
  rename_i h4
  refine ⟨stkErr_ok (Decidable.not_not.1 h1), Decidable.not_not.1 h2, h3, by omega, ?_⟩
  unfold preL
  rw [if_pos h0]
theorem movE_inv {ss : List Lt} {id a : Int} (h : movE ss id a = 0) : StkOk ss ∧ hasI ss id ∧ nxE (findV ss id).p a = 0 ∧ movL ss id a = ss.set (findI ss id) ⟨(findV ss id).id, (findV ss id).c, (findV ss id).q, nxR (findV ss id).p a, (findV ss id).us⟩ := by
  have h0 := h
  unfold movE at h
  split at h
  · rename_i h1; exact absurd h h1
  rename_i h1
  split at h
  · cases h
  rename_i h2
  refine ⟨stkErr_ok (Decidable.not_not.1 h1), Decidable.not_not.1 h2, h, ?_⟩
  unfold movL
  rw [if_pos h0]
theorem chkE_inv {ss : List Lt} {q : Int} {ps : List Pt} {m : Int} (h : chkE ss q ps m = 0) : (2 ≤ ps.length ∧ ps.length ≤ 16 ∧ mOk m) ∧ (∀ p ∈ ps, idOk p.id ∧ qOk p.q) ∧ (ps.map Pt.id).Nodup ∧ (∀ p ∈ ps, ¬ takenP ss p.id) ∧ sumP ps ps.length = q := by
  unfold chkE at h
  split at h
  · cases h
  rename_i h1
  split at h
  · cases h
  rename_i h2
  split at h
  · cases h
  rename_i h3
  split at h
  · cases h
  rename_i h4
  split at h
  · cases h
  rename_i h5
  have hm : mOk m := Decidable.not_not.1 fun hh => h1 (.inr (.inr hh))
  have hl : 2 ≤ ps.length ∧ ps.length ≤ 16 := by
    constructor
    · rcases Nat.lt_or_ge ps.length 2 with hh|hh
      · exact absurd (.inl hh) h1
      · exact hh
    · rcases Nat.lt_or_ge 16 ps.length with hh|hh
      · exact absurd (.inr (.inl hh)) h1
      · exact hh
  exact ⟨⟨hl.1, hl.2, hm⟩, Decidable.not_not.1 h2, not_twice.1 h3, fun p hp ht => h4 ⟨p, hp, ht⟩, Decidable.not_not.1 h5⟩
theorem splE_inv {ss : List Lt} {id : Int} {ps : List Pt} {m : Int} (h : splE ss id ps m = 0) : StkOk ss ∧ hasI ss id ∧ rests (findV ss id).p ∧ chkE ss (findV ss id).q ps m = 0 ∧ ss.length - 1 + ps.length ≤ 64 ∧ splL ss id ps m = replL ss [id] (partsP m (findV ss id) ps ps.length) := by
  have h0 := h
  unfold splE at h
  split at h
  · rename_i h1; exact absurd h h1
  rename_i h1
  split at h
  · cases h
  rename_i h2
  split at h
  · cases h
  rename_i h3
  split at h
  · rename_i h4; exact absurd h h4
  rename_i h4
  split at h
  · cases h
  rename_i h5
  refine ⟨stkErr_ok (Decidable.not_not.1 h1), Decidable.not_not.1 h2, Decidable.not_not.1 h3, Decidable.not_not.1 h4, by omega, ?_⟩
  unfold splL
  rw [if_pos h0]
theorem merE_inv {ss : List Lt} {ids : List Int} {id : Int} (h : merE ss ids id = 0) : StkOk ss ∧ (2 ≤ ids.length ∧ ids.length ≤ 16 ∧ idOk id) ∧ (∀ i ∈ ids, hasI ss i) ∧ ids.Nodup ∧ ¬ takenP ss id ∧ (∀ i ∈ ids, rests (findV ss i).p) ∧ (∀ i ∈ ids, kin (findV ss i) (mg0 ss ids)) ∧ mgQ ss ids ≤ 1000000000 ∧ (joinL (mgU ss ids)).length ≤ 64 ∧ merL ss ids id = replL ss ids [mgV ss ids id] := by
  have h0 := h
  unfold merE at h
  split at h
  · rename_i h1; exact absurd h h1
  rename_i h1
  split at h
  · cases h
  rename_i h2
  split at h
  · cases h
  rename_i h3
  split at h
  · cases h
  rename_i h4
  split at h
  · cases h
  rename_i h5
  split at h
  · cases h
  rename_i h6
  split at h
  · cases h
  rename_i h7
  split at h
  · cases h
  rename_i h8
  have hi : idOk id := Decidable.not_not.1 fun hh => h2 (.inr (.inr hh))
  have hl : 2 ≤ ids.length ∧ ids.length ≤ 16 := by
    constructor
    · rcases Nat.lt_or_ge ids.length 2 with hh|hh
      · exact absurd (.inl hh) h2
      · exact hh
    · rcases Nat.lt_or_ge 16 ids.length with hh|hh
      · exact absurd (.inr (.inl hh)) h2
      · exact hh
  refine ⟨stkErr_ok (Decidable.not_not.1 h1), ⟨hl.1, hl.2, hi⟩, Classical.not_not.1 h3, not_twice.1 fun hh => h4 (.inl hh), fun hh => h4 (.inr hh), Classical.not_not.1 h5, Classical.not_not.1 h6, by omega, by omega, ?_⟩
  unfold merL
  rw [if_pos h0]
theorem proE_inv {ss : List Lt} {r : Rc} {b : Int} {ins outs : List Int} (h : proE ss r b ins outs = 0) : StkOk ss ∧ rcOk r ∧ (1 ≤ b ∧ b ≤ 1000 ∧ 1 ≤ ins.length ∧ ins.length ≤ 16 ∧ outs.length = r.outs.length) ∧ (∀ o ∈ outs, idOk o) ∧ (∀ i ∈ ins, hasI ss i) ∧ ins.Nodup ∧ outs.Nodup ∧ (∀ o ∈ outs, ¬ takenP ss o) ∧ (∀ i ∈ ins, mvP (findV ss i).p)
    ∧ (∀ i ∈ ins, (findV ss i).p = prP ss ins ∧ qtyN r.ins (findV ss i).c ≠ 0) ∧ (∀ x ∈ r.ins, qtyN (prH ss ins) x.c = b * x.q) ∧ (∀ x ∈ r.outs, b * x.q ≤ 1000000000) ∧ (ss.length : Int) - ins.length + outs.length ≤ 64 ∧ (∀ k, k < outs.length → (prPart ss r b ins outs k).us.length ≤ 64) ∧ proL ss r b ins outs = replL ss ins (prParts ss r b ins outs outs.length) := by
  have h0 := h
  unfold proE at h
  obtain ⟨h1, h⟩ := ite0 (fun hh => hh) h
  obtain ⟨h2, h⟩ := ite0 (fun _ => by decide) h
  obtain ⟨h3, h⟩ := ite0 (fun _ => by decide) h
  obtain ⟨h4, h⟩ := ite0 (fun _ => by decide) h
  obtain ⟨h5, h⟩ := ite0 (fun _ => by decide) h
  obtain ⟨h6, h⟩ := ite0 (fun _ => by decide) h
  obtain ⟨h7, h⟩ := ite0 (fun _ => by decide) h
  obtain ⟨h8, h⟩ := ite0 (fun _ => by decide) h
  obtain ⟨h9, h⟩ := ite0 (fun _ => by decide) h
  obtain ⟨h10, h⟩ := ite0 (fun _ => by decide) h
  obtain ⟨h11, h⟩ := ite0 (fun _ => by decide) h
  obtain ⟨h12, h⟩ := ite0 (fun _ => by decide) h
  obtain ⟨h13, h⟩ := ite0 (fun _ => by decide) h
  refine ⟨stkErr_ok (Decidable.not_not.1 h1), Classical.not_not.1 h2, by omega, Classical.not_not.1 h4, Classical.not_not.1 h5, not_twice.1 h6, not_twice.1 fun hh => h7 (.inl hh), fun o ho ht => h7 (.inr ⟨o, ho, ht⟩), Classical.not_not.1 h8, Classical.not_not.1 h9, Classical.not_not.1 h10, Classical.not_not.1 h11, by omega, Classical.not_not.1 h13, ?_⟩
  unfold proL
  rw [if_pos h0]

theorem find_self {ss : List Lt} (h : ascP ss) {x : Lt} (hx : x ∈ ss) : findV ss x.id = x := by
  obtain ⟨m1, m2⟩ := findV_mem ⟨x, hx, rfl⟩
  obtain ⟨i, hi, e1⟩ := List.getElem_of_mem hx
  obtain ⟨j, hj, e2⟩ := List.getElem_of_mem m1
  have hp := List.pairwise_iff_getElem.1 h
  rcases Nat.lt_trichotomy i j with hij|hij|hij
  · have := hp i j hi hj hij; rw [e1, e2] at this; omega
  · subst hij; exact e2.symm.trans e1
  · have := hp j i hj hi hij; rw [e1, e2] at this; omega
theorem asc_nodup {ss : List Lt} (h : ascP ss) : ss.Nodup := List.Pairwise.imp (fun hab e => by rw [e] at hab; omega) h
theorem rem_perm {ss : List Lt} {ids : List Int} (h : ascP ss) (hh : ∀ i ∈ ids, hasI ss i) (hn : ids.Nodup) : ss.Perm (keepI ss ids ++ ids.map (findV ss)) := by
  have h1 : ss.Perm (ss.filter (fun x => decide (x.id ∉ ids)) ++ ss.filter fun x => !decide (x.id ∉ ids)) := (List.filter_append_perm (fun x : Lt => decide (x.id ∉ ids)) ss).symm
  refine h1.trans (List.Perm.append_left _ ?_)
  refine (List.perm_ext_iff_of_nodup ((asc_nodup h).filter _) ?_).2 fun x => ?_
  · refine List.pairwise_map.2 (List.Pairwise.imp_of_mem (fun {a b} ha hb hab e => hab ?_) hn)
    have h1 := (findV_mem (hh a ha)).2
    have h2 := (findV_mem (hh b hb)).2
    rw [← h1, ← h2, e]
  · rw [List.mem_filter, List.mem_map]
    constructor
    · rintro ⟨hx, hi⟩
      exact ⟨x.id, by simpa using hi, find_self h hx⟩
    · rintro ⟨i, hi, rfl⟩
      obtain ⟨m1, m2⟩ := findV_mem (hh i hi)
      exact ⟨m1, by rw [m2]; simpa using hi⟩
theorem unitsL_app (a b : List Lt) : unitsL (a ++ b) = unitsL a ++ unitsL b := by
  rw [unitsL_eq, unitsL_eq, unitsL_eq, List.filter_append, List.flatMap_append]
theorem unitsL_perm {a b : List Lt} (h : a.Perm b) : (unitsL a).Perm (unitsL b) := by
  rw [unitsL_eq, unitsL_eq]
  exact (h.filter _).flatMap_right _
theorem unitsL_all {a : List Lt} (h : ∀ x ∈ a, x.p ≠ 13) : unitsL a = a.flatMap fun x => expand x.us := by
  rw [unitsL_eq, List.filter_eq_self.2 fun x hx => by simpa using h x hx]
theorem repl_ok {ss : List Lt} {ids : List Int} {ls : List Lt} (hO : StkOk ss) (hl : (keepI ss ids).length + ls.length ≤ 64) (hok : ∀ x ∈ ls, ltOk x ∧ x.us.length ≤ 64 ∧ cmpct x.us) (ht : ∀ x ∈ ls, ¬ hasI (keepI ss ids) x.id) (hn : (ls.map Lt.id).Nodup)
    (hu1 : ∀ x ∈ ls, (expand x.us).Nodup) (hu2 : (unitsL (keepI ss ids ++ ls)).Nodup) : StkOk (replL ss ids ls) := by
  have hp := repl_perm ss ids ls
  have hm : ∀ x, x ∈ replL ss ids ls ↔ x ∈ keepI ss ids ∨ x ∈ ls := fun x => by rw [hp.mem_iff, List.mem_append]
  have hok' : ∀ x ∈ replL ss ids ls, ltOk x := fun x hx => by
    rcases (hm x).1 hx with h|h
    · exact hO.ok x (keep_mem h).1
    · exact (hok x h).1
  refine ⟨by rw [hp.length_eq, List.length_append]; exact hl, fun x hx => ?_, hok', fun x hx => ?_, asc_to (repl_asc (asc_of hO.asc) (fun x hx y hy e => ht x hx ⟨y, hy, e⟩) hn), (reps_nodup hok').2 ⟨fun x hx => ?_, (unitsL_perm hp).nodup_iff.2 hu2⟩⟩
  · rcases (hm x).1 hx with h|h
    · exact hO.us x (keep_mem h).1
    · exact (hok x h).2.1
  · rcases (hm x).1 hx with h|h
    · exact hO.jn x (keep_mem h).1
    · rw [join_self (hok x h).2.2]
  · rcases (hm x).1 hx with h|h
    · exact ((reps_nodup hO.ok).1 hO.rep).1 x (keep_mem h).1
    · exact hu1 x h
theorem keep_cnt {ss : List Lt} {ids : List Int} (h : ascP ss) (hh : ∀ i ∈ ids, hasI ss i) (hn : ids.Nodup) : (keepI ss ids).length + ids.length = ss.length := by
  have := (rem_perm h hh hn).length_eq
  rw [List.length_append, List.length_map] at this
  omega
theorem repl_same {ss : List Lt} {ids : List Int} {ls : List Lt} (hO : StkOk ss) (hh : ∀ i ∈ ids, hasI ss i) (hn : ids.Nodup) (hp : (unitsL ls).Perm (unitsL (ids.map (findV ss)))) : (unitsL (keepI ss ids ++ ls)).Perm (unitsL ss) := by
  rw [unitsL_app]
  refine (List.Perm.append_left _ hp).trans ?_
  rw [← unitsL_app]
  exact unitsL_perm (rem_perm (asc_of hO.asc) hh hn).symm
theorem nodup_of_units {ls : List Lt} (h13 : ∀ x ∈ ls, x.p ≠ 13) (h : (unitsL ls).Nodup) : ∀ x ∈ ls, (expand x.us).Nodup := fun x hx => by
  rw [unitsL_all h13] at h
  exact h.sublist (List.sublist_flatten_of_mem (List.mem_map.2 ⟨x, hx, rfl⟩))

end Go.Proofs.YtacpjihbbmoolaaGreatDoor

namespace Go.Proofs.YtacpjihbbmoolaaGreatDoor
open Go Go.RowKit
set_option linter.unusedVariables false
set_option linter.unusedSimpArgs false
set_option maxRecDepth 100000

theorem expand_flat (ls : List (List Sl)) : expand ls.flatten = ls.flatMap expand := by
  induction ls with
  | nil => rfl
  | cons l ls ih => rw [List.flatten_cons, expand_app, ih, List.flatMap_cons]
theorem parts_units {m : Int} {x : Lt} {ps : List Pt} (h : PtsOk x ps) : ∀ k, k ≤ ps.length → (((partsP m x ps k).flatMap fun y => expand y.us) ++ expand (restP m x ps k)).Perm (expand x.us)
  | 0, _ => by simp [partsP, restP]
  | k + 1, hk => by
    obtain ⟨_, o2, o3⟩ := restP_ok (m := m) h k (by omega)
    have hp := partP_rng (m := m) h k (by omega)
    have ih := parts_units (m := m) h k (by omega)
    have hd := div_perm (m := m) o2 hp
    rw [partsP_succ, List.flatMap_append, List.append_assoc]
    refine (List.Perm.append_left _ ?_).trans ih
    rw [List.flatMap_cons, List.flatMap_nil, List.append_nil]
    exact hd
theorem parts_end {m : Int} {x : Lt} {ps : List Pt} (h : PtsOk x ps) : restP m x ps ps.length = [] := by
  obtain ⟨o1, o2, _⟩ := restP_ok (m := m) h ps.length (Nat.le_refl _)
  refine cnt_zero_nil o2 ?_
  rw [o1]
  unfold bdP
  rw [h.sum, Int.mul_ediv_cancel _ (by have := h.q; omega)]
  omega
theorem parts_all {m : Int} {x : Lt} {ps : List Pt} (h : PtsOk x ps) : ((partsP m x ps ps.length).flatMap fun y => expand y.us).Perm (expand x.us) := by
  have := parts_units (m := m) h ps.length (Nat.le_refl _)
  rw [parts_end h] at this
  simpa [expand_nil] using this

theorem units_part (x : Sl) (hx : x.s ≤ x.e) {a b : Nat} (hab : a ≤ b) (hb : (b : Int) ≤ x.e - x.s) : ((unitsOf x).take b).drop a = unitsOf ⟨x.m, x.s + a, x.s + b⟩ := by
  have e : unitsOf x = unitsOf ⟨x.m, x.s, x.s + a⟩ ++ (unitsOf ⟨x.m, x.s + a, x.s + b⟩ ++ unitsOf ⟨x.m, x.s + b, x.e⟩) := by
    rw [units_cat (by omega) (by omega), units_cat (by omega) (by omega)]
  have l1 : (unitsOf ⟨x.m, x.s, x.s + a⟩).length = a := by rw [units_len]; show (x.s + a - x.s).toNat = a; omega
  have l2 : (unitsOf ⟨x.m, x.s + a, x.s + b⟩).length = b - a := by rw [units_len]; show (x.s + b - (x.s + a)).toNat = b - a; omega
  rw [e, List.take_append, l1, List.take_append, l2, List.take_of_length_le (by omega), List.take_of_length_le (l := unitsOf ⟨x.m, x.s + a, x.s + b⟩) (by omega), show b - a - (b - a) = 0 by omega, List.take_zero, List.append_nil, List.drop_append, l1, List.drop_of_length_le (by omega), Nat.sub_self, List.drop_zero, List.nil_append]
theorem expand_pcs {us : List Sl} {f t : Int} (hv : ∀ y ∈ us, y.s < y.e) (hf : 0 ≤ f) (hft : f ≤ t) : ∀ k, k ≤ us.length → expand (pcs us f t k) = ((expand (us.take k)).take t.toNat).drop f.toNat := by
  intro k
  induction k with
  | zero => intro _; simp [pcs, expand_nil]
  | succ k ih =>
    intro hk
    have hx := hv _ (getD_in (k := k) (by omega))
    have hlen : (expand (us.take k)).length = (cnt (us.take k)).toNat := by
      have := cnt_expand (us := us.take k) fun y hy => by have := hv y (List.mem_of_mem_take hy); omega
      omega
    have hc0 := cnt_nonneg (us := us.take k) fun y hy => by have := hv y (List.mem_of_mem_take hy); omega
    rw [pcs_succ, expand_app, ih (by omega), take_snoc us k (by omega), expand_app, expand_one, List.take_append, hlen, List.drop_append]
    congr 1
    generalize hX : us.getD k default = X at *
    have hul := units_len X
    have htl : ((expand (us.take k)).take t.toNat).length = min t.toNat (cnt (us.take k)).toNat := by rw [List.length_take, hlen]
    rw [htl]
    unfold pcAt btA btB
    rw [hX]
    generalize cnt (us.take k) = c at *
    by_cases htc : t ≤ c
    · have e1 : t.toNat - c.toNat = 0 := by omega
      rw [e1, List.take_zero, List.drop_nil, if_neg (by split <;> split <;> omega)]
      rfl
    · have e2 : min t.toNat c.toNat = c.toNat := by omega
      rw [e2]
      by_cases hab : (if 0 > f - c then 0 else f - c) < (if X.e - X.s < t - c then X.e - X.s else t - c)
      · rw [if_pos hab, expand_one]
        obtain ⟨a, ha⟩ : ∃ a : Nat, (a : Int) = if 0 > f - c then 0 else f - c := ⟨(if 0 > f - c then 0 else f - c).toNat, by split <;> omega⟩
        obtain ⟨b, hb⟩ : ∃ b : Nat, (b : Int) = if X.e - X.s < t - c then X.e - X.s else t - c := ⟨(if X.e - X.s < t - c then X.e - X.s else t - c).toNat, by split <;> omega⟩
        rw [← ha, ← hb] at hab ⊢
        have hb2 : (b : Int) ≤ X.e - X.s := by rw [hb]; split <;> omega
        rw [← units_part X (by omega) (by omega) hb2]
        have e3 : f.toNat - c.toNat = a := by split at ha <;> omega
        rw [e3]
        congr 1
        split at hb
        · rw [List.take_of_length_le (l := unitsOf X) (i := t.toNat - c.toNat) (by omega), List.take_of_length_le (by omega)]
        · rw [show t.toNat - c.toNat = b by omega]
      · rw [if_neg hab]
        rw [List.drop_of_length_le (by rw [List.length_take, hul]; split at hab <;> split at hab <;> omega)]
        rfl
theorem pcs_ok {us : List Sl} {f t : Int} (hv : ∀ y ∈ us, slOk y) (hf : 0 ≤ f) : ∀ y ∈ pcs us f t us.length, slOk y := fun y hy => by
  unfold pcs at hy
  obtain ⟨k, hk, hy⟩ := List.mem_flatMap.1 hy
  have hk := List.mem_range.1 hk
  have hx := hv _ (getD_in hk)
  unfold pcAt at hy
  split at hy
  · rename_i hab
    obtain rfl := List.mem_singleton.1 hy
    have hA0 : 0 ≤ btA us f k := by unfold btA; split <;> omega
    have hB0 : btB us t k ≤ (us.getD k default).e - (us.getD k default).s := by unfold btB; split <;> omega
    unfold slOk at *
    dsimp only
    omega
  · simp at hy
theorem btw_join {us : List Sl} {f t : Int} (hv : ∀ y ∈ us, slOk y) (hf : 0 ≤ f) : btwL us f t = joinL (pcs us f t us.length) := joinR_eq (slOk_lt (pcs_ok hv hf))
theorem expand_btw {us : List Sl} {f t : Int} (hv : ∀ y ∈ us, slOk y) (hf : 0 ≤ f) (hft : f ≤ t) : expand (btwL us f t) = ((expand us).take t.toNat).drop f.toNat := by
  rw [btw_join hv hf, expand_join (slOk_le (pcs_ok hv hf)), expand_pcs (slOk_lt hv) hf hft us.length (Nat.le_refl _), List.take_length]

structure ProOk (ss : List Lt) (r : Rc) (ins : List Int) : Prop where
  us : ∀ y ∈ mgU ss ins, slOk y
  sc : scOk r.sc
  w : 0 < r.sc.sum
theorem sc_mono {sc : List Int} (h : scOk sc) : ∀ k, k ≤ sc.length → 0 ≤ (sc.take k).sum ∧ (sc.take k).sum ≤ sc.sum ∧ (k < sc.length → (sc.take k).sum ≤ (sc.take (k + 1)).sum) := by
  have h0 := scSum_rng h
  have step : ∀ k, k < sc.length → (sc.take k).sum ≤ (sc.take (k + 1)).sum := fun k hk => by
    have hx := h _ (getD_in hk)
    have hs : (sc.take (k + 1)).sum = (sc.take k).sum + sc.getD k default := sum_take0 sc k hk
    omega
  have key : ∀ j, j ≤ sc.length → (sc.take (sc.length - j)).sum ≤ sc.sum := by
    intro j
    induction j with
    | zero => intro _; rw [Nat.sub_zero, List.take_length]; exact Int.le_refl _
    | succ j ih =>
      intro hj
      have h1 := ih (by omega)
      have h2 := step (sc.length - (j + 1)) (by omega)
      rw [show sc.length - (j + 1) + 1 = sc.length - j by omega] at h2
      omega
  intro k hk
  have := key (sc.length - k) (by omega)
  rw [show sc.length - (sc.length - k) = k by omega] at this
  exact ⟨(h0 k hk).1, this, step k⟩
theorem prBd_rng {ss : List Lt} {r : Rc} {ins : List Int} (h : ProOk ss r ins) (k : Nat) (hk : k ≤ r.sc.length) : 0 ≤ prBd ss r ins k ∧ (k < r.sc.length → prBd ss r ins k ≤ prBd ss r ins (k + 1)) ∧ prBd ss r ins k ≤ cnt (mgU ss ins) := by
  have hc := cnt_nonneg (slOk_le h.us)
  obtain ⟨a, b, c⟩ := sc_mono h.sc k hk
  have hw := h.w
  unfold prBd
  exact ⟨Int.ediv_nonneg (Int.mul_nonneg hc a) (by omega), fun hk' => Int.ediv_le_ediv hw (Int.mul_le_mul_of_nonneg_left (c hk') hc), Int.ediv_le_of_le_mul hw (Int.mul_le_mul_of_nonneg_left b hc)⟩
theorem pro_units {ss : List Lt} {r : Rc} {b : Int} {ins outs : List Int} (h : ProOk ss r ins) : ∀ k, k ≤ r.sc.length → ((prParts ss r b ins outs k).flatMap fun y => expand y.us) = (expand (mgU ss ins)).take (prBd ss r ins k).toNat
  | 0, _ => by
    have : prBd ss r ins 0 = 0 := by unfold prBd; simp
    rw [this]
    simp [prParts]
  | k + 1, hk => by
    have ih := pro_units (b := b) (outs := outs) h k (by omega)
    obtain ⟨a1, a2, a3⟩ := prBd_rng h k (by omega)
    have a4 := a2 (by omega)
    rw [prParts_succ, List.flatMap_append, ih, List.flatMap_cons, List.flatMap_nil, List.append_nil]
    show _ ++ expand (btwL (mgU ss ins) (prBd ss r ins k) (prBd ss r ins (k + 1))) = _
    rw [expand_btw h.us a1 a4]
    conv => rhs; rw [← List.take_append_drop (prBd ss r ins k).toNat ((expand (mgU ss ins)).take (prBd ss r ins (k + 1)).toNat)]
    rw [List.take_take, show min (prBd ss r ins k).toNat (prBd ss r ins (k + 1)).toNat = (prBd ss r ins k).toNat by omega]
theorem pro_all {ss : List Lt} {r : Rc} {b : Int} {ins outs : List Int} (h : ProOk ss r ins) : ((prParts ss r b ins outs r.sc.length).flatMap fun y => expand y.us) = expand (mgU ss ins) := by
  rw [pro_units h r.sc.length (Nat.le_refl _)]
  have e : prBd ss r ins r.sc.length = cnt (mgU ss ins) := by
    unfold prBd
    rw [List.take_length, Int.mul_ediv_cancel _ (by have := h.w; omega)]
  rw [e, List.take_of_length_le (by have := cnt_expand (slOk_le h.us); omega)]

end Go.Proofs.YtacpjihbbmoolaaGreatDoor

namespace Go.Proofs.YtacpjihbbmoolaaGreatDoor
open Go Go.RowKit
set_option linter.unusedVariables false
set_option linter.unusedSimpArgs false
set_option maxRecDepth 100000

def chU (cs : List Ch) : List (Int × Int) := cs.flatMap fun c => unitsOf ⟨c.m, 0, c.u⟩
structure EstOk (ss : List Lt) (cs : List Ch) (f : Int) : Prop where
  stk : StkOk ss
  id : ∀ x ∈ ss, x.id < f ∧ x.p ≠ 13
  cov : (unitsL ss).Perm (chU cs)
  chs : cs.Pairwise fun a b => a.m < b.m
  chr : ∀ c ∈ cs, 1 ≤ c.m ∧ c.m < f ∧ 1 ≤ c.u ∧ c.u ≤ 1000000 ∧ c.a = 0
  f : 1 ≤ f
theorem mem_unitsL {ss : List Lt} {p : Int × Int} : p ∈ unitsL ss ↔ ∃ x ∈ ss, x.p ≠ 13 ∧ p ∈ expand x.us := by
  rw [unitsL_eq, List.mem_flatMap]
  constructor
  · rintro ⟨x, hx, h⟩
    have := List.mem_filter.1 hx
    exact ⟨x, this.1, by simpa using this.2, h⟩
  · rintro ⟨x, hx, hp, h⟩
    exact ⟨x, List.mem_filter.2 ⟨hx, by simpa using hp⟩, h⟩
theorem est_src {ss : List Lt} {cs : List Ch} {f : Int} (h : EstOk ss cs f) {x : Lt} (hx : x ∈ ss) {s : Sl} (hs : s ∈ x.us) : s.m < f ∧ ∃ c ∈ cs, s.m = c.m ∧ s.e ≤ c.u := by
  have hok := (h.stk.ok x hx).2.2.2.2 s hs
  unfold slOk at hok
  have key : ∀ u, s.s ≤ u → u < s.e → ∃ c ∈ cs, s.m = c.m ∧ 0 ≤ u ∧ u < c.u := fun u h1 h2 => by
    have hm : (s.m, u) ∈ unitsL ss := mem_unitsL.2 ⟨x, hx, (h.id x hx).2, mem_expand.2 ⟨s, hs, rfl, h1, h2⟩⟩
    obtain ⟨c, hc, hm⟩ := List.mem_flatMap.1 (h.cov.mem_iff.1 hm)
    have := mem_units.1 hm
    exact ⟨c, hc, this⟩
  obtain ⟨c, hc, e1, e2, e3⟩ := key (s.e - 1) (by omega) (by omega)
  have := (h.chr c hc).2.1
  exact ⟨by omega, c, hc, e1, by omega⟩
theorem est_nodup {ss : List Lt} (h : StkOk ss) : (unitsL ss).Nodup := ((reps_nodup h.ok).1 h.rep).2

theorem new_ok {id q : Int} {c : ByteArray} (h : idOk id ∧ codeOk c ∧ qOk q) : ltOk (newLt id c q) ∧ (newLt id c q).us.length ≤ 64 ∧ cmpct (newLt id c q).us := by
  obtain ⟨h1, h2, h3⟩ := h
  have h1' := h1
  have h3' := h3
  unfold idOk at h1'
  unfold qOk at h3'
  refine ⟨⟨h1, h2, h3, by show (1 : Int) ≤ 1 ∧ (1 : Int) ≤ 13; omega, fun s hs => ?_⟩, by show 1 ≤ 64; omega, by show (0 : Int) < q; omega⟩
  obtain rfl := List.mem_singleton.1 hs
  unfold slOk
  dsimp only
  omega
theorem units_new (id q : Int) (c : ByteArray) : unitsL [newLt id c q] = unitsOf ⟨id, 0, q⟩ := by
  rw [unitsL_all (fun x hx => by rw [List.mem_singleton.1 hx]; show (1 : Int) ≠ 13; omega), List.flatMap_cons, List.flatMap_nil, List.append_nil, expand_one]
theorem pre_stk {ss : List Lt} {id q : Int} {c : ByteArray} (h : preE ss id c q = 0) : StkOk (preL ss id c q) ∧ (unitsL (preL ss id c q)).Perm (unitsL ss ++ unitsOf ⟨id, 0, q⟩) ∧ ∀ x, x ∈ preL ss id c q ↔ x ∈ ss ∨ x = newLt id c q := by
  obtain ⟨hO, hok, ht, hl, he⟩ := preE_inv h
  rw [he]
  have hn := new_ok hok
  have hU : (unitsL (keepI ss [] ++ [newLt id c q])) = unitsL ss ++ unitsOf ⟨id, 0, q⟩ := by rw [unitsL_app, keep_nil, units_new]
  refine ⟨repl_ok hO (by rw [keep_nil]; show _ + 1 ≤ 64; omega) (fun x hx => by rw [List.mem_singleton.1 hx]; exact hn) (fun x hx hh => ?_) (by simp) (fun x hx => ?_) ?_, ?_, fun x => ?_⟩
  · rw [List.mem_singleton.1 hx, keep_nil] at hh
    obtain ⟨y, hy, e⟩ := hh
    exact ht ⟨y, hy, .inl e⟩
  · rw [List.mem_singleton.1 hx]
    show (expand [_]).Nodup
    rw [expand_one]
    exact nodup_units _
  · rw [hU, List.nodup_append]
    refine ⟨est_nodup hO, nodup_units _, fun a ha b hb hab => ?_⟩
    subst hab
    obtain ⟨x, hx, _, hm⟩ := mem_unitsL.1 ha
    obtain ⟨s, hs, h1, _⟩ := mem_expand.1 hm
    exact ht ⟨x, hx, .inr ⟨s, hs, h1.symm.trans (mem_units.1 hb).1⟩⟩
  · rw [← hU]
    exact unitsL_perm (repl_perm _ _ _)
  · rw [(repl_perm ss [] [newLt id c q]).mem_iff, List.mem_append, keep_nil, List.mem_singleton]

theorem set_us {ss : List Lt} {k : Nat} (hk : k < ss.length) (y : Lt) (hy : y.us = (ss.getD k default).us) : (ss.set k y).map Lt.us = ss.map Lt.us := by
  rw [List.map_set, hy]
  have : (ss.getD k default).us = (ss.map Lt.us)[k]'(by simpa using hk) := by rw [getD_of hk]; simp
  rw [this, List.set_getElem_self]
theorem units_map {ss : List Lt} (h : ∀ x ∈ ss, x.p ≠ 13) : unitsL ss = (ss.map Lt.us).flatMap expand := by rw [unitsL_all h, List.flatMap_map]
theorem mov_stk {ss : List Lt} {id a : Int} (h : movE ss id a = 0) (ha : a ≠ 4) (h13 : ∀ x ∈ ss, x.p ≠ 13) : StkOk (movL ss id a) ∧ unitsL (movL ss id a) = unitsL ss ∧ ∀ x ∈ movL ss id a, x.p ≠ 13 ∧ ∃ y ∈ ss, y.id = x.id ∧ y.c = x.c ∧ y.q = x.q ∧ y.us = x.us := by
  obtain ⟨hO, hh, hx, he⟩ := movE_inv h
  rw [he]
  obtain ⟨k, q1, q2, q3, q4, q5⟩ := findI_ex hh
  obtain ⟨m1, m2⟩ := findV_mem hh
  rw [q2]
  obtain ⟨r1, r2, r3⟩ := nxm_rng _ _ hx
  generalize hy : (⟨(findV ss id).id, (findV ss id).c, (findV ss id).q, nxR (findV ss id).p a, (findV ss id).us⟩ : Lt) = y
  have y1 : y.id = (findV ss id).id := by rw [← hy]
  have y2 : y.us = (findV ss id).us := by rw [← hy]
  have y3 : y.p = nxR (findV ss id).p a := by rw [← hy]
  have y4 : y.c = (findV ss id).c := by rw [← hy]
  have y5 : y.q = (findV ss id).q := by rw [← hy]
  have hmem : ∀ x ∈ ss.set k y, x ∈ ss ∨ x = y := fun x hx => List.mem_or_eq_of_mem_set hx
  have hp : ∀ x ∈ ss.set k y, x.p ≠ 13 := fun x hx => by
    rcases hmem x hx with h|rfl
    · exact h13 x h
    · rw [y3]; exact r3 ha
  have hus := set_us q1 y (by rw [y2, q5])
  have hunits : unitsL (ss.set k y) = unitsL ss := by rw [units_map hp, units_map h13, hus]
  have hok : ∀ x ∈ ss.set k y, ltOk x := fun x hx => by
    rcases hmem x hx with h|rfl
    · exact hO.ok x h
    · have := hO.ok _ m1
      exact ⟨by rw [y1]; exact this.1, by rw [y4]; exact this.2.1, by rw [y5]; exact this.2.2.1, by rw [y3]; omega, by rw [y2]; exact this.2.2.2.2⟩
  have hn := (reps_nodup hO.ok).1 hO.rep
  refine ⟨⟨by rw [List.length_set]; exact hO.len, fun x hx => ?_, hok, fun x hx => ?_, fun i hi => ?_, (reps_nodup hok).2 ⟨fun x hx => ?_, by rw [hunits]; exact hn.2⟩⟩, hunits, fun x hx => ⟨hp x hx, ?_⟩⟩
  · rcases hmem x hx with h|rfl
    · exact hO.us x h
    · rw [y2]; exact hO.us _ m1
  · rcases hmem x hx with h|rfl
    · exact hO.jn x h
    · rw [y2]; exact hO.jn _ m1
  · rw [List.length_set] at hi
    have hid : ∀ j, j < ss.length → ((ss.set k y).getD j default).id = (ss.getD j default).id := fun j hj => by
      by_cases hjk : j = k
      · subst hjk
        rw [List.getD_eq_getElem?_getD, List.getElem?_set_self hj]
        show y.id = _
        rw [y1, q5]
      · rw [List.getD_eq_getElem?_getD, List.getElem?_set_ne (Ne.symm hjk), ← List.getD_eq_getElem?_getD]
    rw [hid i (by omega), hid (i + 1) hi]
    exact hO.asc i hi
  · rcases hmem x hx with h|rfl
    · exact hn.1 x h
    · rw [y2]; exact hn.1 _ m1
  · rcases hmem x hx with h|rfl
    · exact ⟨x, h, rfl, rfl, rfl, rfl⟩
    · exact ⟨_, m1, y1.symm, y4.symm, y5.symm, y2.symm⟩

theorem kept_not {ss : List Lt} {ids : List Int} {i : Int} (h : ¬ takenP ss i) : ¬ hasI (keepI ss ids) i := fun ⟨y, hy, e⟩ => h ⟨y, (keep_mem hy).1, .inl e⟩
theorem rests_not {p : Int} (h : rests p) : p ≠ 13 := by unfold rests at h; omega
theorem spl_parts {ss : List Lt} {id : Int} {ps : List Pt} {m : Int} (hO : StkOk ss) (hh : hasI ss id) (hc : chkE ss (findV ss id).q ps m = 0) : PtsOk (findV ss id) ps := by
  obtain ⟨⟨n1, n2, n3⟩, n4, n5, n6, n7⟩ := chkE_inv hc
  obtain ⟨m1, m2⟩ := findV_mem hh
  have hx := hO.ok _ m1
  exact ⟨hx.2.2.1, hx.2.2.2.2, hO.us _ m1, fun p hp => (n4 p hp).2, n2, n7⟩
theorem part_ok {x : Lt} {ps : List Pt} {m : Int} (hx : ltOk x) (hP : PtsOk x ps) (hi : ∀ p ∈ ps, idOk p.id ∧ qOk p.q) {y : Lt} (hy : y ∈ partsP m x ps ps.length) : ltOk y ∧ y.us.length ≤ 64 ∧ cmpct y.us ∧ y.p = x.p ∧ y.c = x.c := by
  unfold partsP at hy
  obtain ⟨k, hk, rfl⟩ := List.mem_map.1 hy
  have hk := List.mem_range.1 hk
  obtain ⟨_, o2, o3⟩ := restP_ok (m := m) hP k (by omega)
  have d := divR (m := m) o2 (partP_rng hP k hk)
  have h1 := hi _ (getD_in hk)
  exact ⟨⟨h1.1, hx.2.1, h1.2, hx.2.2.2.1, d.oA⟩, by have := d.lA; show (divA m _ _).length ≤ 64; omega, d.pA, rfl, rfl⟩
theorem spl_stk {ss : List Lt} {id : Int} {ps : List Pt} {m : Int} (h : splE ss id ps m = 0) : StkOk (splL ss id ps m) ∧ (unitsL (splL ss id ps m)).Perm (unitsL ss) ∧ ∀ x ∈ splL ss id ps m, x ∈ ss ∨ x ∈ partsP m (findV ss id) ps ps.length := by
  obtain ⟨hO, hh, hr, hc, hl, he⟩ := splE_inv h
  rw [he]
  obtain ⟨⟨n1, n2, n3⟩, n4, n5, n6, n7⟩ := chkE_inv hc
  have hP := spl_parts hO hh hc
  obtain ⟨m1, m2⟩ := findV_mem hh
  have hids : ∀ i ∈ [id], hasI ss i := fun i hi => by rw [List.mem_singleton.1 hi]; exact hh
  have hk := keep_cnt (asc_of hO.asc) hids (by simp)
  have hk1 : (keepI ss [id]).length + 1 = ss.length := hk
  have hpo := fun y (hy : y ∈ partsP m (findV ss id) ps ps.length) => part_ok (hO.ok _ m1) hP n4 hy
  have h13 : ∀ y ∈ partsP m (findV ss id) ps ps.length, y.p ≠ 13 := fun y hy => by rw [(hpo y hy).2.2.2.1]; exact rests_not hr
  have hu : (unitsL (keepI ss [id] ++ partsP m (findV ss id) ps ps.length)).Perm (unitsL ss) := repl_same hO hids (by simp) (by
    rw [unitsL_all h13, unitsL_all (fun y hy => by
      obtain ⟨i, hi, rfl⟩ := List.mem_map.1 hy
      rw [List.mem_singleton.1 hi]
      exact rests_not hr)]
    refine (parts_all hP).trans (List.Perm.of_eq ?_)
    simp)
  have hnd := hu.nodup_iff.2 (est_nodup hO)
  refine ⟨repl_ok hO (by rw [partsP_len]; omega) (fun x hx => ⟨(hpo x hx).1, (hpo x hx).2.1, (hpo x hx).2.2.1⟩) (fun x hx => ?_) (by rw [parts_ids]; exact n5) (nodup_of_units h13 ?_) hnd, (unitsL_perm (repl_perm _ _ _)).trans hu, fun x hx => ?_⟩
  · have : x.id ∈ (partsP m (findV ss id) ps ps.length).map Lt.id := List.mem_map.2 ⟨x, hx, rfl⟩
    rw [parts_ids] at this
    obtain ⟨p, hp, e⟩ := List.mem_map.1 this
    rw [← e]
    exact kept_not (n6 p hp)
  · rw [unitsL_app, List.nodup_append] at hnd
    exact hnd.2.1
  · rcases List.mem_append.1 ((repl_perm _ _ _).mem_iff.1 hx) with h|h
    · exact .inl (keep_mem h).1
    · exact .inr h

theorem mg_units (ss : List Lt) (ids : List Int) : expand (mgU ss ids) = (ids.map (findV ss)).flatMap fun x => expand x.us := by
  unfold mgU
  rw [expand_flat, List.flatMap_map, List.flatMap_map]
theorem mgQ_pos {ss : List Lt} {ids : List Int} (hO : StkOk ss) (hh : ∀ i ∈ ids, hasI ss i) (hl : 1 ≤ ids.length) : 1 ≤ mgQ ss ids := by
  have h1 : ∀ k, k ≤ ids.length → (k : Int) ≤ mgQ ss (ids.take k) := by
    intro k
    induction k with
    | zero => intro _; simp [mgQ]
    | succ k ih =>
      intro hk
      have := ih (by omega)
      have hq := (hO.ok _ (findV_mem (hh _ (getD_in (k := k) (by omega)))).1).2.2.1
      unfold qOk at hq
      rw [mgQ_snoc ss ids k (by omega)]
      push_cast
      omega
  have := h1 ids.length (Nat.le_refl _)
  rw [List.take_length] at this
  omega
theorem mer_stk {ss : List Lt} {ids : List Int} {id : Int} (h : merE ss ids id = 0) : StkOk (merL ss ids id) ∧ (unitsL (merL ss ids id)).Perm (unitsL ss) ∧ (mgV ss ids id).p ≠ 13 ∧ ∀ x, x ∈ merL ss ids id ↔ x ∈ keepI ss ids ∨ x = mgV ss ids id := by
  obtain ⟨hO, ⟨l1, l2, hi⟩, hh, hn, ht, hr, hkn, hq, hl, he⟩ := merE_inv h
  rw [he]
  have hg := mg_rng hO hh ids.length (Nat.le_refl _)
  rw [List.take_length] at hg
  have h0 : ids.getD 0 default ∈ ids := getD_in (by omega)
  obtain ⟨m1, m2⟩ := findV_mem (hh _ h0)
  have hx0 := hO.ok _ m1
  have hp : (mgV ss ids id).p ≠ 13 := rests_not (hr _ h0)
  have hk := keep_cnt (asc_of hO.asc) hh hn
  have hqp := mgQ_pos hO hh (by omega)
  have hvo : ltOk (mgV ss ids id) ∧ (mgV ss ids id).us.length ≤ 64 ∧ cmpct (mgV ss ids id).us := ⟨⟨hi, hx0.2.1, by show 1 ≤ mgQ ss ids ∧ mgQ ss ids ≤ 1000000000; omega, hx0.2.2.2.1, joinL_ok hg.2.2⟩, hl, cmpct_join (slOk_le hg.2.2)⟩
  have h13 : ∀ y ∈ [mgV ss ids id], y.p ≠ 13 := fun y hy => by rw [List.mem_singleton.1 hy]; exact hp
  have hu : (unitsL (keepI ss ids ++ [mgV ss ids id])).Perm (unitsL ss) := repl_same hO hh hn (by
    rw [unitsL_all h13, unitsL_all (fun y hy => by
      obtain ⟨i, hi, rfl⟩ := List.mem_map.1 hy
      exact rests_not (hr i hi))]
    refine List.Perm.of_eq ?_
    rw [List.flatMap_cons, List.flatMap_nil, List.append_nil, ← mg_units]
    exact expand_join (slOk_le hg.2.2))
  have hnd := hu.nodup_iff.2 (est_nodup hO)
  refine ⟨repl_ok hO (by show _ + 1 ≤ 64; have := hO.len; omega) (fun x hx => by rw [List.mem_singleton.1 hx]; exact hvo) (fun x hx => by rw [List.mem_singleton.1 hx]; exact kept_not ht) (by simp) (nodup_of_units h13 ?_) hnd, (unitsL_perm (repl_perm _ _ _)).trans hu, hp, fun x => ?_⟩
  · rw [unitsL_app, List.nodup_append] at hnd
    exact hnd.2.1
  · rw [(repl_perm ss ids [mgV ss ids id]).mem_iff, List.mem_append, List.mem_singleton]

theorem pro_proOk {ss : List Lt} {r : Rc} {ins : List Int} (hO : StkOk ss) (hr : rcOk r) (hh : ∀ i ∈ ins, hasI ss i) : ProOk ss r ins := by
  have hg := mg_rng hO hh ins.length (Nat.le_refl _)
  rw [List.take_length] at hg
  have hs := scSum_rng hr.2.2.2.2.1 r.sc.length (Nat.le_refl _)
  rw [List.take_length] at hs
  exact ⟨hg.2.2, hr.2.2.2.2.1, by have := hr.2.2.2.2.2; omega⟩
theorem pro_stk {ss : List Lt} {r : Rc} {b : Int} {ins outs : List Int} (h : proE ss r b ins outs = 0) : StkOk (proL ss r b ins outs) ∧ (unitsL (proL ss r b ins outs)).Perm (unitsL ss) ∧ mvP (prP ss ins) ∧ ∀ x, x ∈ proL ss r b ins outs ↔ x ∈ keepI ss ins ∨ x ∈ prParts ss r b ins outs outs.length := by
  obtain ⟨hO, hr, ⟨b1, b2, l1, l2, l3⟩, ho, hh, hn, hon, hot, hm, hk, hq, hx, hl, hu64, he⟩ := proE_inv h
  rw [he]
  have hP := pro_proOk hO hr hh
  have h0 : ins.getD 0 default ∈ ins := getD_in (by omega)
  have hmv : mvP (prP ss ins) := hm _ h0
  obtain ⟨m1, m2⟩ := findV_mem (hh _ h0)
  have hx0 := hO.ok _ m1
  have hp13 : prP ss ins ≠ 13 := by unfold mvP at hmv; omega
  have hkc := keep_cnt (asc_of hO.asc) hh hn
  have hls : outs.length = r.sc.length := by rw [l3]; exact hr.2.2.2.1.symm
  have hpo : ∀ y ∈ prParts ss r b ins outs outs.length, ltOk y ∧ y.us.length ≤ 64 ∧ cmpct y.us ∧ y.p = prP ss ins := fun y hy => by
    unfold prParts at hy
    obtain ⟨k, hk, rfl⟩ := List.mem_map.1 hy
    have hk := List.mem_range.1 hk
    obtain ⟨a1, a2, a3⟩ := prBd_rng hP k (by omega)
    have hou := getD_in (us := r.outs) (k := k) (by omega)
    have hnd := hr.2.2.1.2.1 _ hou
    have hq1 := hnd.2
    unfold qOk at hq1
    have hbq : 1 ≤ b * (r.outs.getD k default).q := by
      have := Int.mul_le_mul b1 hq1.1 (by omega) (by omega)
      omega
    refine ⟨⟨ho _ (getD_in hk), hnd.1, ⟨hbq, hx _ hou⟩, hx0.2.2.2.1, ?_⟩, hu64 k hk, ?_, rfl⟩
    · show ∀ s ∈ btwL (mgU ss ins) (prBd ss r ins k) (prBd ss r ins (k + 1)), slOk s
      rw [btw_join hP.us a1]
      exact joinL_ok (pcs_ok hP.us a1)
    · show cmpct (btwL (mgU ss ins) (prBd ss r ins k) (prBd ss r ins (k + 1)))
      rw [btw_join hP.us a1]
      exact cmpct_join (slOk_le (pcs_ok hP.us a1))
  have h13 : ∀ y ∈ prParts ss r b ins outs outs.length, y.p ≠ 13 := fun y hy => by rw [(hpo y hy).2.2.2]; exact hp13
  have hu : (unitsL (keepI ss ins ++ prParts ss r b ins outs outs.length)).Perm (unitsL ss) := repl_same hO hh hn (by
    rw [unitsL_all h13, unitsL_all (fun y hy => by
      obtain ⟨i, hi, rfl⟩ := List.mem_map.1 hy
      have := hm i hi
      unfold mvP at this
      omega)]
    refine List.Perm.of_eq ?_
    rw [hls, pro_all hP, mg_units])
  have hnd := hu.nodup_iff.2 (est_nodup hO)
  refine ⟨repl_ok hO (by rw [prParts_len]; omega) (fun x hx => ⟨(hpo x hx).1, (hpo x hx).2.1, (hpo x hx).2.2.1⟩) (fun x hx => ?_) (by rw [prParts_ids]; exact hon) (nodup_of_units h13 ?_) hnd, (unitsL_perm (repl_perm _ _ _)).trans hu, hmv, fun x => ?_⟩
  · have : x.id ∈ (prParts ss r b ins outs outs.length).map Lt.id := List.mem_map.2 ⟨x, hx, rfl⟩
    rw [prParts_ids] at this
    exact kept_not (hot _ this)
  · rw [unitsL_app, List.nodup_append] at hnd
    exact hnd.2.1
  · rw [(repl_perm _ _ _).mem_iff, List.mem_append]

theorem est_step {ss ss' : List Lt} {cs cs' : List Ch} {f f' : Int} (h : EstOk ss cs f) (hs : Step ss cs f ss' cs' f') : EstOk ss' cs' f' ∧ f ≤ f' ∧ f' ≤ f + 2 ∧ cs'.length ≤ cs.length + 1 := by
  have h13 : ∀ x ∈ ss, x.p ≠ 13 := fun x hx => (h.id x hx).2
  cases hs with
  | skip => exact ⟨h, by omega, by omega, by omega⟩
  | pre c q hc hq he =>
    obtain ⟨s1, s2, s3⟩ := pre_stk he
    refine ⟨⟨s1, fun x hx => ?_, ?_, ?_, fun c hc => ?_, by have := h.f; omega⟩, by omega, by omega, by simp⟩
    · rcases (s3 x).1 hx with hx|rfl
      · have := h.id x hx; exact ⟨by omega, this.2⟩
      · exact ⟨by show f < f + 1; omega, by show (1 : Int) ≠ 13; omega⟩
    · refine s2.trans ?_
      unfold chU
      rw [List.flatMap_append, List.flatMap_cons, List.flatMap_nil, List.append_nil]
      exact h.cov.append_right _
    · rw [List.pairwise_append]
      refine ⟨h.chs, List.pairwise_singleton .., fun a ha b hb => ?_⟩
      rw [List.mem_singleton.1 hb]
      exact (h.chr a ha).2.1
    · rcases List.mem_append.1 hc with hc|hc
      · have := h.chr c hc; exact ⟨this.1, by omega, this.2.2⟩
      · rw [List.mem_singleton.1 hc]
        have := h.f
        refine ⟨this, by show f < f + 1; omega, hq.1, by show q ≤ _; omega, rfl⟩
  | mov id a ha he =>
    obtain ⟨s1, s2, s3⟩ := mov_stk he ha h13
    refine ⟨⟨s1, fun x hx => ?_, by rw [s2]; exact h.cov, h.chs, h.chr, h.f⟩, by omega, by omega, by omega⟩
    obtain ⟨hp, y, hy, e, _⟩ := s3 x hx
    exact ⟨by rw [← e]; exact (h.id y hy).1, hp⟩
  | spl id a b m he =>
    obtain ⟨s1, s2, s3⟩ := spl_stk he
    obtain ⟨hO, hh, hr, hc, hl, _⟩ := splE_inv he
    obtain ⟨⟨n1, n2, n3⟩, n4, n5, n6, n7⟩ := chkE_inv hc
    obtain ⟨m1, m2⟩ := findV_mem hh
    refine ⟨⟨s1, fun x hx => ?_, s2.trans h.cov, h.chs, fun c hc => ?_, by have := h.f; omega⟩, by omega, by omega, by omega⟩
    · rcases s3 x hx with hx|hx
      · have := h.id x hx; exact ⟨by omega, this.2⟩
      · have h1 := part_ok (hO.ok _ m1) (spl_parts hO hh hc) n4 hx
        refine ⟨?_, by rw [h1.2.2.2.1]; exact rests_not hr⟩
        have : x.id ∈ (partsP m (findV ss id) [⟨f, a⟩, ⟨f + 1, b⟩] 2).map Lt.id := List.mem_map.2 ⟨x, hx, rfl⟩
        rw [show (partsP m (findV ss id) [⟨f, a⟩, ⟨f + 1, b⟩] 2).map Lt.id = [f, f + 1] from parts_ids m _ _] at this
        simp at this
        omega
    · have := h.chr c hc; exact ⟨this.1, by omega, this.2.2⟩
  | mer x y he =>
    obtain ⟨s1, s2, s3, s4⟩ := mer_stk he
    refine ⟨⟨s1, fun z hz => ?_, s2.trans h.cov, h.chs, fun c hc => ?_, by have := h.f; omega⟩, by omega, by omega, by omega⟩
    · rcases (s4 z).1 hz with hz|rfl
      · have := h.id z (keep_mem hz).1; exact ⟨by omega, this.2⟩
      · exact ⟨by show f < f + 1; omega, s3⟩
    · have := h.chr c hc; exact ⟨this.1, by omega, this.2.2⟩
  | pro r b ins outs hr ho he =>
    obtain ⟨s1, s2, s3, s4⟩ := pro_stk he
    have hol : outs.length = r.outs.length := by rw [ho]; simp
    have h2 : r.outs.length ≤ 2 := by
      simp only [rcs, List.mem_cons, List.not_mem_nil, or_false] at hr
      rcases hr with rfl|rfl|rfl <;> simp
    have hmem : ∀ o ∈ outs, f ≤ o ∧ o < f + outs.length := fun o hoo => by
      rw [ho] at hoo ⊢
      obtain ⟨k, hk, rfl⟩ := List.mem_map.1 hoo
      have := List.mem_range.1 hk
      simp
      omega
    refine ⟨⟨s1, fun z hz => ?_, s2.trans h.cov, h.chs, fun c hc => ?_, by have := h.f; omega⟩, by omega, by omega, by omega⟩
    · rcases (s4 z).1 hz with hz|hz
      · have := h.id z (keep_mem hz).1; exact ⟨by omega, this.2⟩
      · have hzi : z.id ∈ (prParts ss r b ins outs outs.length).map Lt.id := List.mem_map.2 ⟨z, hz, rfl⟩
        rw [prParts_ids] at hzi
        refine ⟨(hmem _ hzi).2, ?_⟩
        unfold prParts at hz
        obtain ⟨k, hk, rfl⟩ := List.mem_map.1 hz
        show prP ss ins ≠ 13
        unfold mvP at s3
        omega
    · have := h.chr c hc; exact ⟨this.1, by omega, this.2.2⟩
theorem est_nil : EstOk [] [] 1 := ⟨stk_nil, fun x hx => by simp at hx, by rw [unitsL_eq]; exact List.Perm.refl _, List.Pairwise.nil, fun c hc => by simp at hc, by omega⟩
inductive Acts : Nat → List Lt → List Ch → Int → Prop where
  | nil : Acts 0 [] [] 1
  | next {n : Nat} {ss ss' : List Lt} {cs cs' : List Ch} {f f' : Int} (h : Acts n ss cs f) (hs : Step ss cs f ss' cs' f') : Acts (n + 1) ss' cs' f'
theorem acts_est {n : Nat} {ss : List Lt} {cs : List Ch} {f : Int} (h : Acts n ss cs f) : EstOk ss cs f ∧ f ≤ 1 + 2 * n ∧ cs.length ≤ n := by
  induction h with
  | nil => exact ⟨est_nil, by omega, by simp⟩
  | next h hs ih =>
    obtain ⟨a, b, c⟩ := ih
    obtain ⟨p, q, r, s⟩ := est_step a hs
    exact ⟨p, by push_cast; omega, by omega⟩
theorem est_es {n : Nat} {ss : List Lt} {cs : List Ch} {f : Int} (h : Acts n ss cs f) (hn : n ≤ 1000) : EsOk ss cs f := by
  obtain ⟨a, b, c⟩ := acts_est h
  have hf := a.f
  exact ⟨by have := a.stk.len; omega, fun x hx => by have := (a.stk.ok x hx).2.1.1; omega, fun x hx => by have := (a.stk.ok x hx).2.2.1; unfold qOk at this; omega, fun x hx => by have := a.stk.us x hx; omega, by omega, by omega⟩

end Go.Proofs.YtacpjihbbmoolaaGreatDoor

namespace Go.Proofs.YtacpjihbbmoolaaGreatDoor
open Go Go.RowKit
set_option linter.unusedVariables false
set_option linter.unusedSimpArgs false
set_option maxRecDepth 100000
set_option maxHeartbeats 4000000
attribute [local irreducible] ResLe AVle ArgLe ArgP EntLe Dle ResH ArgQ

theorem rcs_ok : ∀ r ∈ rcs, (1 ≤ r.ins.length ∧ r.ins.length ≤ 2) ∧ r.outs.length ≤ 2 ∧ r.sc.length ≤ 2 ∧ 0 < (r.ins.getD 0 default).q ∧ (∀ x ∈ r.ins, x.c.size ≤ 8) ∧ ∀ x ∈ r.outs, x.c.size ≤ 8 := by
  intro r hr
  simp only [rcs, List.mem_cons, List.not_mem_nil, or_false] at hr
  rcases hr with rfl|rfl|rfl <;> simp <;> decide
def outsF (f : Int) (n : Nat) : List Int := (List.range n).map fun (k : Nat) => f + (k : Int)
theorem outsF_succ (f : Int) (n : Nat) : outsF f (n + 1) = outsF f n ++ [f + (n : Int)] := by unfold outsF; rw [List.range_succ, List.map_append]; rfl
theorem outsF_len (f : Int) (n : Nat) : (outsF f n).length = n := by simp [outsF]
theorem two_app {a b : Int} {f g : Nat → Nat → D} (hf : ∀ j, j < 1 → Dle (f 0 j) (iE a j)) (hg : ∀ j, j < 1 → Dle (g 0 j) (iE b j)) : AVle (.dat (.lst 1 (1 + 1) (catF 1 f g))) (.dat (iD [a, b])) :=
  RowIs.dat (us := [a, b]) (RowIs.cat (RowIs.one (enc := iE) (s := 1) (x := a) hf) (RowIs.one (enc := iE) (s := 1) (x := b) hg))
theorem act_pro (L : List Int) (ss : List Lt) (cs : List Ch) (f : Int) (i : Nat) (hL : L.length ≤ 1000) (hi : i < L.length) (hE : EsOk ss cs f) (hc : nx L i 8 = 7) : ActOk L ss cs f i := by
  have n0 := next_h L i 8 (by omega) (by omega) (by omega)
  have b0 := ni_two L hi
  obtain ⟨i1, e1⟩ : ∃ i1, i1 = ni L i := ⟨_, rfl⟩
  rw [← e1, hc] at n0
  rw [← e1] at b0
  have n1 := next_h L i1 3 (by omega) (by omega) (by omega)
  have b1 := ni_mono L b0.2
  have r1 := nx_rng L i1 (m := 3) (by omega)
  generalize nx L i1 3 = k1 at *
  obtain ⟨i2, e2⟩ : ∃ i2, i2 = ni L i1 := ⟨_, rfl⟩
  rw [← e2] at n1 b1
  have n2 := next_h L i2 64 (by omega) (by omega) (by omega)
  have b2 := ni_mono L b1.2
  generalize nx L i2 64 = k2 at *
  obtain ⟨i3, e3⟩ : ∃ i3, i3 = ni L i2 := ⟨_, rfl⟩
  rw [← e3] at n2 b2
  have n3 := next_h L i3 64 (by omega) (by omega) (by omega)
  have b3 := ni_mono L b2.2
  generalize nx L i3 64 = k3 at *
  have hlen := hE.len
  have hf := hE.f
  have hA1 := any_t ss k2 (by omega)
  have hA2 := any_t ss k3 (by omega)
  have hR := recipes_t
  have hmem : rcs.getD k1.toNat default ∈ rcs := getD_in (by show k1.toNat < 3; omega)
  obtain ⟨⟨c1, c2⟩, c3, c4, c5, c6, c7⟩ := rcs_ok _ hmem
  have hkl : (0 : Int) ≤ k1 ∧ k1 < (rcs.length : Int) := ⟨r1.1, by show k1 < 3; omega⟩
  generalize hr : rcs.getD k1.toNat default = r at *
  by_cases hn : (rcs.getD k1.toNat default).ins.length = 1
  · have hAt := rat_t ss ([anyV ss k2].getD 0 default) (by omega)
    by_cases hh : hasI ss ([anyV ss k2].getD 0 default)
    · obtain ⟨k0, q1, q2, q3, q4, q5⟩ := findI_ex hh
      rw [at_has hh, q2] at hAt
      have hq2 := hE.q _ (getD_in q1)
      have hq' : 0 ≤ (ss.getD ((k0 : Int)).toNat default).q ∧ (ss.getD ((k0 : Int)).toNat default).q ≤ 1000000000 := hq2
      have c5' : 0 < ((rcs.getD k1.toNat default).ins.getD (Int.toNat 0) default).q := by rw [hr]; exact c5
      have hPr := rprocess_t ss r ((ss.getD k0 default).q / (r.ins.getD 0 default).q) [anyV ss k2] (outsF f r.outs.length) (by omega) (fun x hx => by have := hE.csz x hx; omega) (by omega) (by omega) (by omega) (fun x hx => by have := c6 x hx; omega) (fun x hx => by have := c7 x hx; omega) (by simp) (by rw [outsF_len]; omega)
      by_cases hz : proE ss r ((ss.getD k0 default).q / (r.ins.getD 0 default).q) [anyV ss k2] (outsF f r.outs.length) = 0
      · refine ⟨_, _, _, i3, by omega, by omega, Step.pro r ((ss.getD k0 default).q / (r.ins.getD 0 default).q) [anyV ss k2] (outsF f r.outs.length) hmem rfl hz, ?_⟩
        rw [hz] at hPr
        rw [← hr] at *
        refine HC.of (n := Tryz.f19.ntmps) XX_ok Tryz.func19 rfl (by kernel_rfl) rfl rfl (Nat.le_of_ble_eq_true rfl) rfl rfl ?_
        (repeat' (first|((first|refine Zg ?_|refine Zn ?_|refine Zc ?_|refine Zu fun b hb=>?_|refine ExCall.h [(5000, 5001)] rfl n0 rfl ⟨rfl, trivial⟩ ?_|refine CallK.h [(5000, 5001)] rfl n0 rfl rfl ⟨rfl, trivial⟩ rfl rfl ?_|refine Zy hR ?_|refine Zz hR ?_|refine ExCall.h [(5000, 5001)] rfl n1 rfl ⟨rfl, trivial⟩ ?_|refine CallK.h [(5000, 5001)] rfl n1 rfl rfl ⟨rfl, trivial⟩ rfl rfl ?_|refine ExCall.h [(5000, 5001)] rfl n2 rfl ⟨rfl, trivial⟩ ?_|refine CallK.h [(5000, 5001)] rfl n2 rfl rfl ⟨rfl, trivial⟩ rfl rfl ?_|refine ExCall.by (CallA.plain hA1 ⟨ArgLe.cell0 rfl rfl rfl, ArgLe.refl rfl, trivial⟩ rfl) ?_);conv=>whnf)|(refine Zb ?_ ?_<;>(intro h;first|exact Zx|conv=>whnf))))
        all_goals first|(exfalso; omega)|skip
        refine (W.pubD 13 32 rfl rfl ?_)
        conv => whnf
        refine (W.re 13 (.dat (iD [anyV ss k2])) (one_int _) ?_)
        conv => whnf
        (repeat' (first|((first|refine Zg ?_|refine Zn ?_|refine Zc ?_|refine Zu fun b hb=>?_|refine W.drawT drAct rfl mixed rfl ?_|refine Zy hAt ?_|refine Zz hAt ?_);conv=>whnf)|(refine Zb ?_ ?_<;>(intro h;first|exact Zx|conv=>whnf))))
        refine (W.adopt 15 67 3 1 (rowF iE []) rfl rfl rfl rfl ?_)
        conv => whnf
        refine (W.loopK (ι := Nat) [0, 4, 5, 6, 12, 13, 14] [5000, 5001, 1000000, 12] (fun k => [(16, iA k), (15, .own 67 1 0 (outsF f k).length)]) (fun k => [(67, .row 3 1 (outsF f k).length (rowF iE (outsF f k)))]) (fun k => k ≤ (rcs.getD k1.toNat default).outs.length) (fun k => (rcs.getD k1.toNat default).outs.length - k) 0 (Nat.zero_le _) ?_ ?_ ?_)
        · exact Yz
        · exact Yz
        conv => whnf
        intro k hk
        have hol := outsF_len f k
        have hol1 : (outsF f k).length + 1 = (outsF f (k + 1)).length := by rw [outsF_len, outsF_len]
        by_cases hk' : k < (rcs.getD k1.toNat default).outs.length
        · (repeat' (first|((first|refine Zg ?_|refine Zn ?_|refine Zc ?_|refine Zu fun b hb=>?_);conv=>whnf)|(refine Zb ?_ ?_<;>(intro h;first|exact Zx|conv=>whnf))))
          refine ⟨k + 1, by omega, by omega, ?_, ?_, ?_, ?_⟩
          all_goals (repeat' (first|exact Yq|exact Yi (by first|rfl|exact hol1|omega)|exact Yo (by first|rfl|exact hol1|omega)|exact Ye (by first|rfl|exact hol1|omega)|refine ⟨_, rfl, Yb ?_, rfl⟩|refine ⟨_, rfl, Yw (by first|rfl|exact hol1|omega) ?_, rfl⟩|refine And.intro ?_ ?_))
          rw [outsF_succ]
          refine rowF_snoc rfl fun j hj => ?_
          obtain rfl : j = 0 := by omega
          exact Dle.refl _
        obtain rfl : k = (rcs.getD k1.toNat default).outs.length := by omega
        (repeat' (first|((first|refine Zv 14 ?_|refine Zt dr19 ?_|refine Zn ?_|refine Zc ?_|refine Zu fun b hb=>?_);conv=>whnf)|(refine Zb ?_ ?_<;>(intro h;first|exact Zx|conv=>whnf))))
        refine (W.pubD 15 67 rfl rfl ?_)
        conv => whnf
        (repeat' (first|((first|refine Zg ?_|refine Zn ?_|refine Zc ?_|refine Zu fun b hb=>?_|refine W.drawT drAct rfl mixed rfl ?_|refine Zy hPr ?_|refine Zz hPr ?_);conv=>whnf)|(refine Zb ?_ ?_<;>(intro h;first|exact Zx|conv=>whnf))))
        (conv=>whnf); (repeat' (first|exact Zhq|refine ResH.agg ?_|refine ⟨_, rfl, EntLe.blk ?_, rfl⟩|refine ⟨_, rfl, EntLe.row (by first|rfl|omega) ?_, rfl⟩|refine And.intro ?_ ?_|((conv=>whnf); first|exact Zhq|refine ResH.agg ?_)))
      · refine ⟨ss, cs, f, i3, by omega, by omega, Step.skip, ?_⟩
        rw [← hr] at *
        refine HC.of (n := Tryz.f19.ntmps) XX_ok Tryz.func19 rfl (by kernel_rfl) rfl rfl (Nat.le_of_ble_eq_true rfl) rfl rfl ?_
        (repeat' (first|((first|refine Zg ?_|refine Zn ?_|refine Zc ?_|refine Zu fun b hb=>?_|refine ExCall.h [(5000, 5001)] rfl n0 rfl ⟨rfl, trivial⟩ ?_|refine CallK.h [(5000, 5001)] rfl n0 rfl rfl ⟨rfl, trivial⟩ rfl rfl ?_|refine Zy hR ?_|refine Zz hR ?_|refine ExCall.h [(5000, 5001)] rfl n1 rfl ⟨rfl, trivial⟩ ?_|refine CallK.h [(5000, 5001)] rfl n1 rfl rfl ⟨rfl, trivial⟩ rfl rfl ?_|refine ExCall.h [(5000, 5001)] rfl n2 rfl ⟨rfl, trivial⟩ ?_|refine CallK.h [(5000, 5001)] rfl n2 rfl rfl ⟨rfl, trivial⟩ rfl rfl ?_|refine ExCall.by (CallA.plain hA1 ⟨ArgLe.cell0 rfl rfl rfl, ArgLe.refl rfl, trivial⟩ rfl) ?_);conv=>whnf)|(refine Zb ?_ ?_<;>(intro h;first|exact Zx|conv=>whnf))))
        all_goals first|(exfalso; omega)|skip
        refine (W.pubD 13 32 rfl rfl ?_)
        conv => whnf
        refine (W.re 13 (.dat (iD [anyV ss k2])) (one_int _) ?_)
        conv => whnf
        (repeat' (first|((first|refine Zg ?_|refine Zn ?_|refine Zc ?_|refine Zu fun b hb=>?_|refine W.drawT drAct rfl mixed rfl ?_|refine Zy hAt ?_|refine Zz hAt ?_);conv=>whnf)|(refine Zb ?_ ?_<;>(intro h;first|exact Zx|conv=>whnf))))
        refine (W.adopt 15 67 3 1 (rowF iE []) rfl rfl rfl rfl ?_)
        conv => whnf
        refine (W.loopK (ι := Nat) [0, 4, 5, 6, 12, 13, 14] [5000, 5001, 1000000, 12] (fun k => [(16, iA k), (15, .own 67 1 0 (outsF f k).length)]) (fun k => [(67, .row 3 1 (outsF f k).length (rowF iE (outsF f k)))]) (fun k => k ≤ (rcs.getD k1.toNat default).outs.length) (fun k => (rcs.getD k1.toNat default).outs.length - k) 0 (Nat.zero_le _) ?_ ?_ ?_)
        · exact Yz
        · exact Yz
        conv => whnf
        intro k hk
        have hol := outsF_len f k
        have hol1 : (outsF f k).length + 1 = (outsF f (k + 1)).length := by rw [outsF_len, outsF_len]
        by_cases hk' : k < (rcs.getD k1.toNat default).outs.length
        · (repeat' (first|((first|refine Zg ?_|refine Zn ?_|refine Zc ?_|refine Zu fun b hb=>?_);conv=>whnf)|(refine Zb ?_ ?_<;>(intro h;first|exact Zx|conv=>whnf))))
          refine ⟨k + 1, by omega, by omega, ?_, ?_, ?_, ?_⟩
          all_goals (repeat' (first|exact Yq|exact Yi (by first|rfl|exact hol1|omega)|exact Yo (by first|rfl|exact hol1|omega)|exact Ye (by first|rfl|exact hol1|omega)|refine ⟨_, rfl, Yb ?_, rfl⟩|refine ⟨_, rfl, Yw (by first|rfl|exact hol1|omega) ?_, rfl⟩|refine And.intro ?_ ?_))
          rw [outsF_succ]
          refine rowF_snoc rfl fun j hj => ?_
          obtain rfl : j = 0 := by omega
          exact Dle.refl _
        obtain rfl : k = (rcs.getD k1.toNat default).outs.length := by omega
        (repeat' (first|((first|refine Zv 14 ?_|refine Zt dr19 ?_|refine Zn ?_|refine Zc ?_|refine Zu fun b hb=>?_);conv=>whnf)|(refine Zb ?_ ?_<;>(intro h;first|exact Zx|conv=>whnf))))
        refine (W.pubD 15 67 rfl rfl ?_)
        conv => whnf
        (repeat' (first|((first|refine Zg ?_|refine Zn ?_|refine Zc ?_|refine Zu fun b hb=>?_|refine W.drawT drAct rfl mixed rfl ?_|refine Zy hPr ?_|refine Zz hPr ?_);conv=>whnf)|(refine Zb ?_ ?_<;>(intro h;first|exact Zx|conv=>whnf))))
        (conv=>whnf); (repeat' (first|exact Zhq|refine ResH.agg ?_|refine ⟨_, rfl, EntLe.blk ?_, rfl⟩|refine ⟨_, rfl, EntLe.row (by first|rfl|omega) ?_, rfl⟩|refine And.intro ?_ ?_|((conv=>whnf); first|exact Zhq|refine ResH.agg ?_)))
    · rw [at_no hh] at hAt
      refine ⟨ss, cs, f, i3, by omega, by omega, Step.skip, ?_⟩
      rw [← hr] at *
      refine HC.of (n := Tryz.f19.ntmps) XX_ok Tryz.func19 rfl (by kernel_rfl) rfl rfl (Nat.le_of_ble_eq_true rfl) rfl rfl ?_
      (repeat' (first|((first|refine Zg ?_|refine Zn ?_|refine Zc ?_|refine Zu fun b hb=>?_|refine ExCall.h [(5000, 5001)] rfl n0 rfl ⟨rfl, trivial⟩ ?_|refine CallK.h [(5000, 5001)] rfl n0 rfl rfl ⟨rfl, trivial⟩ rfl rfl ?_|refine Zy hR ?_|refine Zz hR ?_|refine ExCall.h [(5000, 5001)] rfl n1 rfl ⟨rfl, trivial⟩ ?_|refine CallK.h [(5000, 5001)] rfl n1 rfl rfl ⟨rfl, trivial⟩ rfl rfl ?_|refine ExCall.h [(5000, 5001)] rfl n2 rfl ⟨rfl, trivial⟩ ?_|refine CallK.h [(5000, 5001)] rfl n2 rfl rfl ⟨rfl, trivial⟩ rfl rfl ?_|refine ExCall.by (CallA.plain hA1 ⟨ArgLe.cell0 rfl rfl rfl, ArgLe.refl rfl, trivial⟩ rfl) ?_);conv=>whnf)|(refine Zb ?_ ?_<;>(intro h;first|exact Zx|conv=>whnf))))
      all_goals first|(exfalso; omega)|skip
      refine (W.pubD 13 32 rfl rfl ?_)
      conv => whnf
      refine (W.re 13 (.dat (iD [anyV ss k2])) (one_int _) ?_)
      conv => whnf
      (repeat' (first|((first|refine Zg ?_|refine Zn ?_|refine Zc ?_|refine Zu fun b hb=>?_|refine W.drawT drAct rfl mixed rfl ?_|refine Zy hAt ?_|refine Zz hAt ?_);conv=>whnf)|(refine Zb ?_ ?_<;>(intro h;first|exact Zx|conv=>whnf))))
      refine (W.adopt 15 67 3 1 (rowF iE []) rfl rfl rfl rfl ?_)
      conv => whnf
      refine (W.loopK (ι := Nat) [0, 4, 5, 6, 12, 13, 14] [5000, 5001, 1000000, 12] (fun k => [(16, iA k), (15, .own 67 1 0 (outsF f k).length)]) (fun k => [(67, .row 3 1 (outsF f k).length (rowF iE (outsF f k)))]) (fun k => k ≤ (rcs.getD k1.toNat default).outs.length) (fun k => (rcs.getD k1.toNat default).outs.length - k) 0 (Nat.zero_le _) ?_ ?_ ?_)
      · exact Yz
      · exact Yz
      conv => whnf
      intro k hk
      have hol := outsF_len f k
      have hol1 : (outsF f k).length + 1 = (outsF f (k + 1)).length := by rw [outsF_len, outsF_len]
      by_cases hk' : k < (rcs.getD k1.toNat default).outs.length
      · (repeat' (first|((first|refine Zg ?_|refine Zn ?_|refine Zc ?_|refine Zu fun b hb=>?_);conv=>whnf)|(refine Zb ?_ ?_<;>(intro h;first|exact Zx|conv=>whnf))))
        refine ⟨k + 1, by omega, by omega, ?_, ?_, ?_, ?_⟩
        all_goals (repeat' (first|exact Yq|exact Yi (by first|rfl|exact hol1|omega)|exact Yo (by first|rfl|exact hol1|omega)|exact Ye (by first|rfl|exact hol1|omega)|refine ⟨_, rfl, Yb ?_, rfl⟩|refine ⟨_, rfl, Yw (by first|rfl|exact hol1|omega) ?_, rfl⟩|refine And.intro ?_ ?_))
        rw [outsF_succ]
        refine rowF_snoc rfl fun j hj => ?_
        obtain rfl : j = 0 := by omega
        exact Dle.refl _
      obtain rfl : k = (rcs.getD k1.toNat default).outs.length := by omega
      (repeat' (first|((first|refine Zv 14 ?_|refine Zt dr19 ?_|refine Zn ?_|refine Zc ?_|refine Zu fun b hb=>?_);conv=>whnf)|(refine Zb ?_ ?_<;>(intro h;first|exact Zx|conv=>whnf))))
      refine (W.pubD 15 67 rfl rfl ?_)
      conv => whnf
      (repeat' (first|((first|refine Zg ?_|refine Zn ?_|refine Zc ?_|refine Zu fun b hb=>?_);conv=>whnf)|(refine Zb ?_ ?_<;>(intro h;first|exact Zx|conv=>whnf))))
      (conv=>whnf); (repeat' (first|exact Zhq|refine ResH.agg ?_|refine ⟨_, rfl, EntLe.blk ?_, rfl⟩|refine ⟨_, rfl, EntLe.row (by first|rfl|omega) ?_, rfl⟩|refine And.intro ?_ ?_|((conv=>whnf); first|exact Zhq|refine ResH.agg ?_)))
  · have hn2 : (rcs.getD k1.toNat default).ins.length = 2 := by rw [hr]; rw [hr] at hn; omega
    have hAt := rat_t ss ([anyV ss k2, anyV ss k3].getD 0 default) (by omega)
    by_cases hh : hasI ss ([anyV ss k2, anyV ss k3].getD 0 default)
    · obtain ⟨k0, q1, q2, q3, q4, q5⟩ := findI_ex hh
      rw [at_has hh, q2] at hAt
      have hq2 := hE.q _ (getD_in q1)
      have hq' : 0 ≤ (ss.getD ((k0 : Int)).toNat default).q ∧ (ss.getD ((k0 : Int)).toNat default).q ≤ 1000000000 := hq2
      have c5' : 0 < ((rcs.getD k1.toNat default).ins.getD (Int.toNat 0) default).q := by rw [hr]; exact c5
      have hPr := rprocess_t ss r ((ss.getD k0 default).q / (r.ins.getD 0 default).q) [anyV ss k2, anyV ss k3] (outsF f r.outs.length) (by omega) (fun x hx => by have := hE.csz x hx; omega) (by omega) (by omega) (by omega) (fun x hx => by have := c6 x hx; omega) (fun x hx => by have := c7 x hx; omega) (by simp) (by rw [outsF_len]; omega)
      by_cases hz : proE ss r ((ss.getD k0 default).q / (r.ins.getD 0 default).q) [anyV ss k2, anyV ss k3] (outsF f r.outs.length) = 0
      · refine ⟨_, _, _, (ni L i3), by omega, by omega, Step.pro r ((ss.getD k0 default).q / (r.ins.getD 0 default).q) [anyV ss k2, anyV ss k3] (outsF f r.outs.length) hmem rfl hz, ?_⟩
        rw [hz] at hPr
        rw [← hr] at *
        refine HC.of (n := Tryz.f19.ntmps) XX_ok Tryz.func19 rfl (by kernel_rfl) rfl rfl (Nat.le_of_ble_eq_true rfl) rfl rfl ?_
        (repeat' (first|((first|refine Zg ?_|refine Zn ?_|refine Zc ?_|refine Zu fun b hb=>?_|refine ExCall.h [(5000, 5001)] rfl n0 rfl ⟨rfl, trivial⟩ ?_|refine CallK.h [(5000, 5001)] rfl n0 rfl rfl ⟨rfl, trivial⟩ rfl rfl ?_|refine Zy hR ?_|refine Zz hR ?_|refine ExCall.h [(5000, 5001)] rfl n1 rfl ⟨rfl, trivial⟩ ?_|refine CallK.h [(5000, 5001)] rfl n1 rfl rfl ⟨rfl, trivial⟩ rfl rfl ?_|refine ExCall.h [(5000, 5001)] rfl n2 rfl ⟨rfl, trivial⟩ ?_|refine CallK.h [(5000, 5001)] rfl n2 rfl rfl ⟨rfl, trivial⟩ rfl rfl ?_|refine ExCall.by (CallA.plain hA1 ⟨ArgLe.cell0 rfl rfl rfl, ArgLe.refl rfl, trivial⟩ rfl) ?_|refine ExCall.h [(5000, 5001)] rfl n3 rfl ⟨rfl, trivial⟩ ?_|refine CallK.h [(5000, 5001)] rfl n3 rfl rfl ⟨rfl, trivial⟩ rfl rfl ?_|refine ExCall.by (CallA.plain hA2 ⟨ArgLe.cell0 rfl rfl rfl, ArgLe.refl rfl, trivial⟩ rfl) ?_);conv=>whnf)|(refine Zb ?_ ?_<;>(intro h;first|exact Zx|conv=>whnf))))
        all_goals first|(exfalso; omega)|skip
        refine (W.pubD 13 32 rfl rfl ?_)
        conv => whnf
        refine (W.re 13 (.dat (iD [anyV ss k2, anyV ss k3])) (two_app (fun j hj => ?_) (fun j hj => ?_)) ?_)
        · obtain rfl : j = 0 := by omega
          exact Dle.refl _
        · obtain rfl : j = 0 := by omega
          exact Dle.refl _
        conv => whnf
        (repeat' (first|((first|refine Zg ?_|refine Zn ?_|refine Zc ?_|refine Zu fun b hb=>?_|refine W.drawT drAct rfl mixed rfl ?_|refine Zy hAt ?_|refine Zz hAt ?_);conv=>whnf)|(refine Zb ?_ ?_<;>(intro h;first|exact Zx|conv=>whnf))))
        refine (W.adopt 15 67 3 1 (rowF iE []) rfl rfl rfl rfl ?_)
        conv => whnf
        refine (W.loopK (ι := Nat) [0, 4, 5, 6, 12, 13, 14] [5000, 5001, 1000000, 12] (fun k => [(16, iA k), (15, .own 67 1 0 (outsF f k).length)]) (fun k => [(67, .row 3 1 (outsF f k).length (rowF iE (outsF f k)))]) (fun k => k ≤ (rcs.getD k1.toNat default).outs.length) (fun k => (rcs.getD k1.toNat default).outs.length - k) 0 (Nat.zero_le _) ?_ ?_ ?_)
        · exact Yz
        · exact Yz
        conv => whnf
        intro k hk
        have hol := outsF_len f k
        have hol1 : (outsF f k).length + 1 = (outsF f (k + 1)).length := by rw [outsF_len, outsF_len]
        by_cases hk' : k < (rcs.getD k1.toNat default).outs.length
        · (repeat' (first|((first|refine Zg ?_|refine Zn ?_|refine Zc ?_|refine Zu fun b hb=>?_);conv=>whnf)|(refine Zb ?_ ?_<;>(intro h;first|exact Zx|conv=>whnf))))
          refine ⟨k + 1, by omega, by omega, ?_, ?_, ?_, ?_⟩
          all_goals (repeat' (first|exact Yq|exact Yi (by first|rfl|exact hol1|omega)|exact Yo (by first|rfl|exact hol1|omega)|exact Ye (by first|rfl|exact hol1|omega)|refine ⟨_, rfl, Yb ?_, rfl⟩|refine ⟨_, rfl, Yw (by first|rfl|exact hol1|omega) ?_, rfl⟩|refine And.intro ?_ ?_))
          rw [outsF_succ]
          refine rowF_snoc rfl fun j hj => ?_
          obtain rfl : j = 0 := by omega
          exact Dle.refl _
        obtain rfl : k = (rcs.getD k1.toNat default).outs.length := by omega
        (repeat' (first|((first|refine Zv 14 ?_|refine Zt dr19 ?_|refine Zn ?_|refine Zc ?_|refine Zu fun b hb=>?_);conv=>whnf)|(refine Zb ?_ ?_<;>(intro h;first|exact Zx|conv=>whnf))))
        refine (W.pubD 15 67 rfl rfl ?_)
        conv => whnf
        (repeat' (first|((first|refine Zg ?_|refine Zn ?_|refine Zc ?_|refine Zu fun b hb=>?_|refine W.drawT drAct rfl mixed rfl ?_|refine Zy hPr ?_|refine Zz hPr ?_);conv=>whnf)|(refine Zb ?_ ?_<;>(intro h;first|exact Zx|conv=>whnf))))
        (conv=>whnf); (repeat' (first|exact Zhq|refine ResH.agg ?_|refine ⟨_, rfl, EntLe.blk ?_, rfl⟩|refine ⟨_, rfl, EntLe.row (by first|rfl|omega) ?_, rfl⟩|refine And.intro ?_ ?_|((conv=>whnf); first|exact Zhq|refine ResH.agg ?_)))
      · refine ⟨ss, cs, f, (ni L i3), by omega, by omega, Step.skip, ?_⟩
        rw [← hr] at *
        refine HC.of (n := Tryz.f19.ntmps) XX_ok Tryz.func19 rfl (by kernel_rfl) rfl rfl (Nat.le_of_ble_eq_true rfl) rfl rfl ?_
        (repeat' (first|((first|refine Zg ?_|refine Zn ?_|refine Zc ?_|refine Zu fun b hb=>?_|refine ExCall.h [(5000, 5001)] rfl n0 rfl ⟨rfl, trivial⟩ ?_|refine CallK.h [(5000, 5001)] rfl n0 rfl rfl ⟨rfl, trivial⟩ rfl rfl ?_|refine Zy hR ?_|refine Zz hR ?_|refine ExCall.h [(5000, 5001)] rfl n1 rfl ⟨rfl, trivial⟩ ?_|refine CallK.h [(5000, 5001)] rfl n1 rfl rfl ⟨rfl, trivial⟩ rfl rfl ?_|refine ExCall.h [(5000, 5001)] rfl n2 rfl ⟨rfl, trivial⟩ ?_|refine CallK.h [(5000, 5001)] rfl n2 rfl rfl ⟨rfl, trivial⟩ rfl rfl ?_|refine ExCall.by (CallA.plain hA1 ⟨ArgLe.cell0 rfl rfl rfl, ArgLe.refl rfl, trivial⟩ rfl) ?_|refine ExCall.h [(5000, 5001)] rfl n3 rfl ⟨rfl, trivial⟩ ?_|refine CallK.h [(5000, 5001)] rfl n3 rfl rfl ⟨rfl, trivial⟩ rfl rfl ?_|refine ExCall.by (CallA.plain hA2 ⟨ArgLe.cell0 rfl rfl rfl, ArgLe.refl rfl, trivial⟩ rfl) ?_);conv=>whnf)|(refine Zb ?_ ?_<;>(intro h;first|exact Zx|conv=>whnf))))
        all_goals first|(exfalso; omega)|skip
        refine (W.pubD 13 32 rfl rfl ?_)
        conv => whnf
        refine (W.re 13 (.dat (iD [anyV ss k2, anyV ss k3])) (two_app (fun j hj => ?_) (fun j hj => ?_)) ?_)
        · obtain rfl : j = 0 := by omega
          exact Dle.refl _
        · obtain rfl : j = 0 := by omega
          exact Dle.refl _
        conv => whnf
        (repeat' (first|((first|refine Zg ?_|refine Zn ?_|refine Zc ?_|refine Zu fun b hb=>?_|refine W.drawT drAct rfl mixed rfl ?_|refine Zy hAt ?_|refine Zz hAt ?_);conv=>whnf)|(refine Zb ?_ ?_<;>(intro h;first|exact Zx|conv=>whnf))))
        refine (W.adopt 15 67 3 1 (rowF iE []) rfl rfl rfl rfl ?_)
        conv => whnf
        refine (W.loopK (ι := Nat) [0, 4, 5, 6, 12, 13, 14] [5000, 5001, 1000000, 12] (fun k => [(16, iA k), (15, .own 67 1 0 (outsF f k).length)]) (fun k => [(67, .row 3 1 (outsF f k).length (rowF iE (outsF f k)))]) (fun k => k ≤ (rcs.getD k1.toNat default).outs.length) (fun k => (rcs.getD k1.toNat default).outs.length - k) 0 (Nat.zero_le _) ?_ ?_ ?_)
        · exact Yz
        · exact Yz
        conv => whnf
        intro k hk
        have hol := outsF_len f k
        have hol1 : (outsF f k).length + 1 = (outsF f (k + 1)).length := by rw [outsF_len, outsF_len]
        by_cases hk' : k < (rcs.getD k1.toNat default).outs.length
        · (repeat' (first|((first|refine Zg ?_|refine Zn ?_|refine Zc ?_|refine Zu fun b hb=>?_);conv=>whnf)|(refine Zb ?_ ?_<;>(intro h;first|exact Zx|conv=>whnf))))
          refine ⟨k + 1, by omega, by omega, ?_, ?_, ?_, ?_⟩
          all_goals (repeat' (first|exact Yq|exact Yi (by first|rfl|exact hol1|omega)|exact Yo (by first|rfl|exact hol1|omega)|exact Ye (by first|rfl|exact hol1|omega)|refine ⟨_, rfl, Yb ?_, rfl⟩|refine ⟨_, rfl, Yw (by first|rfl|exact hol1|omega) ?_, rfl⟩|refine And.intro ?_ ?_))
          rw [outsF_succ]
          refine rowF_snoc rfl fun j hj => ?_
          obtain rfl : j = 0 := by omega
          exact Dle.refl _
        obtain rfl : k = (rcs.getD k1.toNat default).outs.length := by omega
        (repeat' (first|((first|refine Zv 14 ?_|refine Zt dr19 ?_|refine Zn ?_|refine Zc ?_|refine Zu fun b hb=>?_);conv=>whnf)|(refine Zb ?_ ?_<;>(intro h;first|exact Zx|conv=>whnf))))
        refine (W.pubD 15 67 rfl rfl ?_)
        conv => whnf
        (repeat' (first|((first|refine Zg ?_|refine Zn ?_|refine Zc ?_|refine Zu fun b hb=>?_|refine W.drawT drAct rfl mixed rfl ?_|refine Zy hPr ?_|refine Zz hPr ?_);conv=>whnf)|(refine Zb ?_ ?_<;>(intro h;first|exact Zx|conv=>whnf))))
        (conv=>whnf); (repeat' (first|exact Zhq|refine ResH.agg ?_|refine ⟨_, rfl, EntLe.blk ?_, rfl⟩|refine ⟨_, rfl, EntLe.row (by first|rfl|omega) ?_, rfl⟩|refine And.intro ?_ ?_|((conv=>whnf); first|exact Zhq|refine ResH.agg ?_)))
    · rw [at_no hh] at hAt
      refine ⟨ss, cs, f, (ni L i3), by omega, by omega, Step.skip, ?_⟩
      rw [← hr] at *
      refine HC.of (n := Tryz.f19.ntmps) XX_ok Tryz.func19 rfl (by kernel_rfl) rfl rfl (Nat.le_of_ble_eq_true rfl) rfl rfl ?_
      (repeat' (first|((first|refine Zg ?_|refine Zn ?_|refine Zc ?_|refine Zu fun b hb=>?_|refine ExCall.h [(5000, 5001)] rfl n0 rfl ⟨rfl, trivial⟩ ?_|refine CallK.h [(5000, 5001)] rfl n0 rfl rfl ⟨rfl, trivial⟩ rfl rfl ?_|refine Zy hR ?_|refine Zz hR ?_|refine ExCall.h [(5000, 5001)] rfl n1 rfl ⟨rfl, trivial⟩ ?_|refine CallK.h [(5000, 5001)] rfl n1 rfl rfl ⟨rfl, trivial⟩ rfl rfl ?_|refine ExCall.h [(5000, 5001)] rfl n2 rfl ⟨rfl, trivial⟩ ?_|refine CallK.h [(5000, 5001)] rfl n2 rfl rfl ⟨rfl, trivial⟩ rfl rfl ?_|refine ExCall.by (CallA.plain hA1 ⟨ArgLe.cell0 rfl rfl rfl, ArgLe.refl rfl, trivial⟩ rfl) ?_|refine ExCall.h [(5000, 5001)] rfl n3 rfl ⟨rfl, trivial⟩ ?_|refine CallK.h [(5000, 5001)] rfl n3 rfl rfl ⟨rfl, trivial⟩ rfl rfl ?_|refine ExCall.by (CallA.plain hA2 ⟨ArgLe.cell0 rfl rfl rfl, ArgLe.refl rfl, trivial⟩ rfl) ?_);conv=>whnf)|(refine Zb ?_ ?_<;>(intro h;first|exact Zx|conv=>whnf))))
      all_goals first|(exfalso; omega)|skip
      refine (W.pubD 13 32 rfl rfl ?_)
      conv => whnf
      refine (W.re 13 (.dat (iD [anyV ss k2, anyV ss k3])) (two_app (fun j hj => ?_) (fun j hj => ?_)) ?_)
      · obtain rfl : j = 0 := by omega
        exact Dle.refl _
      · obtain rfl : j = 0 := by omega
        exact Dle.refl _
      conv => whnf
      (repeat' (first|((first|refine Zg ?_|refine Zn ?_|refine Zc ?_|refine Zu fun b hb=>?_|refine W.drawT drAct rfl mixed rfl ?_|refine Zy hAt ?_|refine Zz hAt ?_);conv=>whnf)|(refine Zb ?_ ?_<;>(intro h;first|exact Zx|conv=>whnf))))
      refine (W.adopt 15 67 3 1 (rowF iE []) rfl rfl rfl rfl ?_)
      conv => whnf
      refine (W.loopK (ι := Nat) [0, 4, 5, 6, 12, 13, 14] [5000, 5001, 1000000, 12] (fun k => [(16, iA k), (15, .own 67 1 0 (outsF f k).length)]) (fun k => [(67, .row 3 1 (outsF f k).length (rowF iE (outsF f k)))]) (fun k => k ≤ (rcs.getD k1.toNat default).outs.length) (fun k => (rcs.getD k1.toNat default).outs.length - k) 0 (Nat.zero_le _) ?_ ?_ ?_)
      · exact Yz
      · exact Yz
      conv => whnf
      intro k hk
      have hol := outsF_len f k
      have hol1 : (outsF f k).length + 1 = (outsF f (k + 1)).length := by rw [outsF_len, outsF_len]
      by_cases hk' : k < (rcs.getD k1.toNat default).outs.length
      · (repeat' (first|((first|refine Zg ?_|refine Zn ?_|refine Zc ?_|refine Zu fun b hb=>?_);conv=>whnf)|(refine Zb ?_ ?_<;>(intro h;first|exact Zx|conv=>whnf))))
        refine ⟨k + 1, by omega, by omega, ?_, ?_, ?_, ?_⟩
        all_goals (repeat' (first|exact Yq|exact Yi (by first|rfl|exact hol1|omega)|exact Yo (by first|rfl|exact hol1|omega)|exact Ye (by first|rfl|exact hol1|omega)|refine ⟨_, rfl, Yb ?_, rfl⟩|refine ⟨_, rfl, Yw (by first|rfl|exact hol1|omega) ?_, rfl⟩|refine And.intro ?_ ?_))
        rw [outsF_succ]
        refine rowF_snoc rfl fun j hj => ?_
        obtain rfl : j = 0 := by omega
        exact Dle.refl _
      obtain rfl : k = (rcs.getD k1.toNat default).outs.length := by omega
      (repeat' (first|((first|refine Zv 14 ?_|refine Zt dr19 ?_|refine Zn ?_|refine Zc ?_|refine Zu fun b hb=>?_);conv=>whnf)|(refine Zb ?_ ?_<;>(intro h;first|exact Zx|conv=>whnf))))
      refine (W.pubD 15 67 rfl rfl ?_)
      conv => whnf
      (repeat' (first|((first|refine Zg ?_|refine Zn ?_|refine Zc ?_|refine Zu fun b hb=>?_);conv=>whnf)|(refine Zb ?_ ?_<;>(intro h;first|exact Zx|conv=>whnf))))
      (conv=>whnf); (repeat' (first|exact Zhq|refine ResH.agg ?_|refine ⟨_, rfl, EntLe.blk ?_, rfl⟩|refine ⟨_, rfl, EntLe.row (by first|rfl|omega) ?_, rfl⟩|refine And.intro ?_ ?_|((conv=>whnf); first|exact Zhq|refine ResH.agg ?_)))
theorem act_ok (L : List Int) (ss : List Lt) (cs : List Ch) (f : Int) (i : Nat) (hL : L.length ≤ 1000) (hi : i < L.length) (hE : EsOk ss cs f) : ActOk L ss cs f i := by
  have h := nx_rng L i (m := 8) (by omega)
  rcases (show nx L i 8 = 0 ∨ nx L i 8 = 1 ∨ nx L i 8 = 2 ∨ nx L i 8 = 3 ∨ nx L i 8 = 4 ∨ nx L i 8 = 5 ∨ nx L i 8 = 6 ∨ nx L i 8 = 7 by omega) with h|h|h|h|h|h|h|h
  · exact act_pre L ss cs f i hL hi hE (.inl h)
  · exact act_pre L ss cs f i hL hi hE (.inr h)
  · exact act_mov L ss cs f i hL hi hE (.inl h)
  · exact act_mov L ss cs f i hL hi hE (.inr h)
  · exact act_spl L ss cs f i hL hi hE (.inl h)
  · exact act_spl L ss cs f i hL hi hE (.inr h)
  · exact act_mer L ss cs f i hL hi hE h
  · exact act_pro L ss cs f i hL hi hE h

end Go.Proofs.YtacpjihbbmoolaaGreatDoor

namespace Go.Proofs.YtacpjihbbmoolaaGreatDoor
open Go Go.RowKit
set_option linter.unusedVariables false
set_option linter.unusedSimpArgs false
set_option maxRecDepth 100000
set_option maxHeartbeats 4000000
attribute [local irreducible] ResLe AVle ArgLe ArgP EntLe Dle ResH ArgQ

theorem step_len {ss ss' : List Lt} {cs cs' : List Ch} {f f' : Int} (hs : Step ss cs f ss' cs' f') : ss'.length ≤ ss.length + 2 := by
  have rl := fun ids ls => (repl_perm ss ids ls).length_eq
  have kl := fun ids => keep_len ss ids
  cases hs with
  | skip => omega
  | pre c q hc hq he =>
    obtain ⟨_, _, _, _, e⟩ := preE_inv he
    rw [e, rl, List.length_append, keep_nil]
    show _ + 1 ≤ _
    omega
  | mov id a ha he =>
    obtain ⟨_, _, _, e⟩ := movE_inv he
    rw [e, List.length_set]
    omega
  | spl id a b m he =>
    obtain ⟨_, _, _, _, _, e⟩ := splE_inv he
    have h1 := kl [id]
    rw [e, rl, List.length_append, partsP_len]
    show _ + 2 ≤ _
    omega
  | mer x y he =>
    obtain ⟨_, _, _, _, _, _, _, _, _, e⟩ := merE_inv he
    have h1 := kl [x, y]
    rw [e, rl, List.length_append]
    show _ + 1 ≤ _
    omega
  | pro r b ins outs hr ho he =>
    obtain ⟨_, _, ⟨_, _, l1, l2, l3⟩, _, _, _, _, _, _, _, _, _, _, _, e⟩ := proE_inv he
    have h1 := kl ins
    have h2 : r.outs.length ≤ 2 := by
      simp only [rcs, List.mem_cons, List.not_mem_nil, or_false] at hr
      rcases hr with rfl|rfl|rfl <;> simp
    rw [e, rl, List.length_append, prParts_len]
    omega
inductive Runs (L : List Int) : List Lt → List Ch → Int → Nat → List Lt → List Ch → Int → Nat → Prop where
  | done {ss : List Lt} {cs : List Ch} {f : Int} {i : Nat} (h : ¬ (i < L.length ∧ ss.length < 24)) : Runs L ss cs f i ss cs f i
  | next {ss ss' sz : List Lt} {cs cs' cz : List Ch} {f f' fz : Int} {i i' iz : Nat} (h : i < L.length ∧ ss.length < 24) (hi : i < i') (hi' : i' ≤ L.length) (hn : cs'.length ≤ cs.length + 1) (hl : ss'.length ≤ ss.length + 2) (hC : HC XX 19 [.ptr 5000 0, .ptr 5001 0] (estH L ss cs f i) (.tup []) (estH L ss' cs' f' i') (some 1000000)) (k : Runs L ss' cs' f' i' sz cz fz iz) : Runs L ss cs f i sz cz fz iz
theorem runs_ex (L : List Int) (hL : L.length ≤ 1000) : ∀ (m n : Nat) (ss : List Lt) (cs : List Ch) (f : Int) (i : Nat), Acts n ss cs f → n ≤ i → i ≤ L.length → (4 * cs.length ≤ i ∨ (i = L.length ∧ 4 * cs.length ≤ L.length + 4)) → L.length - i ≤ m → ∃ n' ss' cs' f' i', (Acts n' ss' cs' f' ∧ 4 * cs'.length ≤ L.length + 4) ∧ n' ≤ L.length ∧ Runs L ss cs f i ss' cs' f' i' := by
  intro m
  induction m with
  | zero =>
    intro n ss cs f i hA hn hi hc4 hm
    exact ⟨n, ss, cs, f, i, ⟨hA, by omega⟩, by omega, .done (by omega)⟩
  | succ m ih =>
    intro n ss cs f i hA hn hi hc4 hm
    by_cases hc : i < L.length ∧ ss.length < 24
    · obtain ⟨ss', cs', f', i', ⟨h1, h5⟩, h2, h3, h4⟩ := act_ok L ss cs f i hL hc.1 (est_es hA (by omega))
      have h6 := (est_step (acts_est hA).1 h3).2.2.2
      obtain ⟨n', sz, cz, fz, iz, g1, g2, g3⟩ := ih (n + 1) ss' cs' f' i' (.next hA h3) (by omega) h2 (by omega) (by omega)
      exact ⟨n', sz, cz, fz, iz, g1, g2, .next hc h1 h2 (est_step (acts_est hA).1 h3).2.2.2 (step_len h3) h4 g3⟩
    · exact ⟨n, ss, cs, f, i, ⟨hA, by omega⟩, by omega, .done hc⟩
theorem runs_len {L : List Int} {ss sz : List Lt} {cs cz : List Ch} {f fz : Int} {i iz : Nat} (h : Runs L ss cs f i sz cz fz iz) : ss.length ≤ 25 → sz.length ≤ 25 := by
  induction h with
  | done h => exact id
  | next h hi hi' hn hl hC k ih => exact fun _ => ih (by omega)
abbrev esA (ss : List Lt) (cs : List Ch) (f : Int) : AV := .agg [.dat (ltD ss), .dat (chD cs), iA f]
theorem make_ex2 (l : List Int) (hl : l.length ≤ 9223372036854775807) : ∃ n ss cs f, n ≤ 120 ∧ (Acts n ss cs f ∧ ss.length ≤ 25 ∧ cs.length ≤ 31) ∧ ACalls XX 5 [.dat (ilst l)] (esA ss cs f) := by
  have hcut := cut_t l 120 (by omega) hl
  generalize hLL : l.take (120 : Int).toNat = L at hcut
  have hL : L.length ≤ 120 := by rw [← hLL]; simp; omega
  obtain ⟨n, sz, cz, fz, iz, ⟨g1, g4⟩, g2, g3⟩ := runs_ex L (by omega) L.length 0 [] [] 1 0 .nil (by omega) (by omega) (by simp) (by omega)
  refine ⟨n, sz, cz, fz, by omega, ⟨g1, runs_len g3 (Nat.zero_le _), by omega⟩, ?_⟩
  refine ACalls.of (n := Tryz.f5.ntmps) XX_ok Tryz.func5 rfl (by kernel_rfl) rfl rfl (Nat.le_of_ble_eq_true rfl) ?_
  (repeat' (first|((first|refine Zg ?_|refine Zn ?_|refine Zc ?_|refine Zu fun b hb=>?_|refine Zy hcut ?_);conv=>whnf)|(refine Zb ?_ ?_<;>(intro h;first|exact Zx|conv=>whnf))))
  refine (W.adoptB 4 1 99 42 3 (rowF chE []) rfl rfl rfl rfl rfl rfl ?_)
  conv => whnf
  refine (W.loopK (ι := List Lt × List Ch × Int × Nat) [2, 3, 4] [2] (fun _ => []) (fun q => [(4, .blk 26 [.dat (ltD q.1), .own 99 3 0 q.2.1.length, iA q.2.2.1]), (8, srcE L q.2.2.2), (99, .row 42 3 q.2.1.length (rowF chE q.2.1))]) (fun q => q.2.2.2 ≤ L.length ∧ Runs L q.1 q.2.1 q.2.2.1 q.2.2.2 sz cz fz iz) (fun q => L.length - q.2.2.2) ([], [], 1, 0) ⟨Nat.zero_le _, g3⟩ ?_ ?_ ?_)
  · exact Yz
  · exact Yz
  conv => whnf
  intro ⟨ss, cs, f, i⟩ ⟨hi, hR⟩
  dsimp only at hi hR ⊢
  have hlf := left_h L i
  cases hR with
  | done h =>
    by_cases hc : iz < L.length
    · rw [decide_eq_true hc] at hlf
      have : ¬ sz.length < 24 := fun h2 => h ⟨hc, h2⟩
      (repeat' (first|((first|refine Zg ?_|refine Zn ?_|refine Zc ?_|refine Zu fun b hb=>?_|refine ExCall.h [(5000, 8)] rfl hlf rfl ⟨rfl, trivial⟩ ?_);conv=>whnf)|(refine Zb ?_ ?_<;>(intro h;first|exact Zx|conv=>whnf))))
      all_goals first|exact Zrz|(exfalso; omega)
    · rw [decide_eq_false hc] at hlf
      (repeat' (first|((first|refine Zg ?_|refine Zn ?_|refine Zc ?_|refine Zu fun b hb=>?_|refine ExCall.h [(5000, 8)] rfl hlf rfl ⟨rfl, trivial⟩ ?_);conv=>whnf)|(refine Zb ?_ ?_<;>(intro h;first|exact Zx|conv=>whnf))))
      all_goals first|exact Zrz|(exfalso; omega)
  | next h h1 h2 hn hl hC k =>
    rename_i ss' cs' f' i'
    rw [decide_eq_true h.1] at hlf
    have h24 := h.2
    (repeat' (first|((first|refine Zg ?_|refine Zn ?_|refine Zc ?_|refine Zu fun b hb=>?_|refine ExCall.h [(5000, 8)] rfl hlf rfl ⟨rfl, trivial⟩ ?_|refine ExCall.h [(5000, 4), (5001, 8), (1000000, 99)] rfl hC rfl ⟨rfl, rfl, rfl, trivial⟩ ?_);conv=>whnf)|(refine Zb ?_ ?_<;>(intro h;first|exact Zx|conv=>whnf))))
    all_goals first|(exfalso; omega)|skip
    refine ⟨(ss', cs', f', i'), ⟨h2, k⟩, ?_, ?_, ?_, ?_, ?_⟩
    · dsimp only; omega
    all_goals exact Yz
end Go.Proofs.YtacpjihbbmoolaaGreatDoor
