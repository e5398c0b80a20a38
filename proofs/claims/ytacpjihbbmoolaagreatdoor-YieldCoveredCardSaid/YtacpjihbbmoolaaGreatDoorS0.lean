/- Yields: the law's package is awake; each function at the one recipe of the law, its loops as far as they go. -/
import Derived.Test.YtacpjihbbmoolaaGreatDoorFY
import Derived.Test.YtacpjihbbmoolaaGreatDoorVt
import Derived.Test.YtacpjihbbmoolaaGreatDoorShelf
import Derived.Test.YtacpjihbbmoolaaGreatDoorLays

namespace Go.Proofs.YtacpjihbbmoolaaGreatDoor
open Go Go.RowKit Go.Lib Go.Sort
set_option linter.unusedVariables false
set_option linter.unusedSimpArgs false
set_option maxRecDepth 100000
set_option maxHeartbeats 4000000
attribute [local irreducible] ResLe AVle ArgLe ArgP EntLe Dle ResH ArgQ strEq strLt

structure LoopW (X : Cx) (n : Nat) (c : Code) (st : St) (Q : Exit → St → Prop) : Prop where
  out : X.ok → ∀ R : Run, R.n = n → ∀ ρ M a w, Sim X R ρ M st a w → ∀ b k cs, ∃ e a' w', (∃ st' ρ' M', Q e st' ∧ Sim X R ρ' M' st' a' w') ∧ Arrives X.P (lone (b.at a (.code c :: .inLoop c :: k)) cs w) b k cs e a' w'
theorem LoopW.mk1 {X : Cx} {n : Nat} {c : Code} {st : St} {Q : Exit → St → Prop} (h : W X n c st (fun e st' => match e with
    | .normal => LoopW X n c st' Q
    | e => Q e st')) : LoopW X n c st Q := ⟨fun hX R hn ρ M a w hs b k cs => by
  obtain ⟨e, a₁, w₁, ⟨st', ρ', M', hq, hs'⟩, harr⟩ := h.out hX R hn ρ M a w hs b (.inLoop c :: k) cs
  cases e with
  | normal =>
    obtain ⟨e₂, a₂, w₂, hq₂, harr₂⟩ := hq.out hX R hn ρ' M' a₁ w₁ hs' b k cs
    exact ⟨e₂, a₂, w₂, hq₂, .of_steps (Steps.trans harr (.one step_inLoop)) harr₂⟩
  | exit id => exact ⟨_, a₁, w₁, ⟨st', ρ', M', hq, hs'⟩, .pass (x := .inLoop c) rfl (fun _ _ => .inl (by simp)) harr⟩
  | goto l => exact ⟨_, a₁, w₁, ⟨st', ρ', M', hq, hs'⟩, .pass (x := .inLoop c) rfl (fun _ _ => .inl (by simp)) harr⟩
  | ret => exact ⟨_, a₁, w₁, ⟨st', ρ', M', hq, hs'⟩, .pass (x := .inLoop c) rfl (fun _ _ => .inl (by simp)) harr⟩
  | panic ch => exact ⟨_, a₁, w₁, ⟨st', ρ', M', hq, hs'⟩, .pass (x := .inLoop c) rfl (fun _ _ => .inl (by simp)) harr⟩
  | outgrown => exact ⟨_, a₁, w₁, ⟨st', ρ', M', hq, hs'⟩, .pass (x := .inLoop c) rfl (fun _ _ => .inl (by simp)) harr⟩⟩
theorem LoopW.mkK {X : Cx} {n : Nat} {c : Code} {st : St} {Q : Exit → St → Prop} (live lrefs : List Nat) (h : keepFK st live fun lf => keepHK st lrefs fun lh => W X n c ⟨lf, lh⟩ (fun e st' => match e with
    | .normal => LoopW X n c st' Q
    | e => Q e st')) : LoopW X n c st Q := by
  rw [keepFK_eq, keepHK_eq] at h
  exact LoopW.mk1 (W.weak ⟨keepF st live, keepH st lrefs⟩ (leF_keep st live) (leH_keep st lrefs) h)
theorem W.unroll {X : Cx} {n : Nat} {c : Code} {st : St} {Q : Exit → St → Prop} (h : LoopW X n c st Q) : W X n (.loop c) st Q := ⟨fun hX R hn ρ M a w hs b k cs => by
  obtain ⟨e, a', w', hq, harr⟩ := h.out hX R hn ρ M a w hs b k cs
  exact ⟨e, a', w', hq, .of_steps (.one step_loop) harr⟩⟩

def c1 : ByteArray := ⟨#[49, 48, 48, 48, 48, 48, 48, 48]⟩
def c2 : ByteArray := ⟨#[50, 48, 48, 48, 48, 48, 48, 48]⟩
def ndF1 (_ j : Nat) : D := match j with
  | 0 => .val (.string c1)
  | _ => .val (.int .i64 5)
def ndF2 (_ j : Nat) : D := match j with
  | 0 => .val (.string c2)
  | _ => .val (.int .i64 2)
def rcF0 (_ j : Nat) : D := match j with
  | 0 => .val (.int .i64 1)
  | 1 => .lst 2 1 ndF1
  | 2 => .lst 2 1 ndF2
  | _ => .lst 1 1 fun _ _ => .val (.int .i64 1)
abbrev rcL : D := .lst 4 1 rcF0
def mkL : ML := putM [] c2 0
theorem c1_sz : c1.size ≤ maxLen := Nat.le_trans (show c1.size ≤ 1000 by decide) (by decide)
theorem c2_sz : c2.size ≤ maxLen := Nat.le_trans (show c2.size ≤ 1000 by decide) (by decide)
theorem sm_makers : HC XX 74 [.dat rcL] [] (.mp 10) [(10, .mp XX.P 9 3 mkL)] (some 10) := by
  have s1 := c2_sz
  have s2 : ([] : ML).length < maxLen := Nat.lt_of_lt_of_le (show 0 < 1 by decide) (by decide)
  have s3 : -9223372036854775808 ≤ (0 : Int) ∧ (0 : Int) ≤ 9223372036854775807 := by decide
  refine HC.of (n := Tryz.f74.ntmps) XX_ok Tryz.func74 rfl (by kernel_rfl) rfl rfl (Nat.le_of_ble_eq_true rfl) rfl rfl ?_
  (repeat' (first|((first|refine Zv 9 ?_|refine Zn ?_|refine Zc ?_|refine Zu fun b hb=>?_|refine W.unroll (LoopW.mk1 ?_)|refine LoopW.mk1 ?_|refine Zc ?_ ⟨rfl, rfl, rfl, s1⟩);conv=>whnf)|(refine Zb ?_ ?_<;>(intro h;first|exact Zx|conv=>whnf))))
  rw [show hasM ([] : ML) c2 = false by decide]
  conv => whnf
  (repeat' (first|((first|refine Zg ?_|refine Zn ?_|refine Zc ?_|refine Zu fun b hb=>?_|refine LoopW.mk1 ?_|refine Zc ?_ ⟨rfl, rfl, rfl, s1, s2, s3⟩);conv=>whnf)|(refine Zb ?_ ?_<;>(intro h;first|exact Zx|conv=>whnf))))
  (conv=>whnf); (repeat' (first|exact Zhq|refine ResH.agg ?_|refine ⟨_, rfl, EntLe.blk ?_, rfl⟩|refine ⟨_, rfl, EntLe.row (by first|rfl|omega) ?_, rfl⟩|refine And.intro ?_ ?_|((conv=>whnf); first|exact Zhq|refine ResH.agg ?_)))
noncomputable abbrev visH (st od : List Int) : List (Nat × Ent) :=
  [(5000, .blk 116 [.mp 5005]), (5005, .mp XX.P 9 3 mkL), (5001, .blk 22 [.own 5006 1 0 1]), (5006, .row 3 1 1 (rowF iE st)), (5002, .blk 84 [.dat rcL]),
   (5003, .blk 60 [.clo 112 [.ptr 5000 0, .ptr 5001 0, .ptr 5002 0, .ptr 5003 0, .ptr 5004 0]]), (5004, .blk 22 [.own 1000000 1 0 od.length]), (1000000, .row 3 1 od.length (rowF iE od))]
theorem sm_visit1 (st od : List Int) : HC XX 112 [sY c1, .ptr 5000 0, .ptr 5001 0, .ptr 5002 0, .ptr 5003 0, .ptr 5004 0] (visH st od) (bA true) (visH st od) (some 1000000) := by
  have s1 := c1_sz
  refine HC.of (n := Tryz.f112.ntmps) XX_ok Tryz.func112 rfl (by kernel_rfl) rfl rfl (Nat.le_of_ble_eq_true rfl) rfl rfl ?_
  (repeat' (first|((first|refine Zv 2 ?_|refine Zn ?_|refine Zc ?_|refine Zu fun b hb=>?_|refine Zc ?_ ⟨rfl, rfl, rfl, s1⟩);conv=>whnf)|(refine Zb ?_ ?_<;>(intro h;first|exact Zx|conv=>whnf))))
  conv => whnf
  rw [show hasM mkL c1 = false by decide]
  conv => whnf
  (repeat' (first|((first|refine Zg ?_|refine Zn ?_|refine Zc ?_|refine Zu fun b hb=>?_);conv=>whnf)|(refine Zb ?_ ?_<;>(intro h;first|exact Zx|conv=>whnf))))
  all_goals first|((conv=>whnf); (repeat' (first|exact Zhq|refine ResH.agg ?_|refine ⟨_, rfl, EntLe.blk ?_, rfl⟩|refine ⟨_, rfl, EntLe.row (by first|rfl|omega) ?_, rfl⟩|refine And.intro ?_ ?_|((conv=>whnf); first|exact Zhq|refine ResH.agg ?_))); done)|(exfalso; omega)
theorem sm_visit2 : HC XX 112 [sY c2, .ptr 5000 0, .ptr 5001 0, .ptr 5002 0, .ptr 5003 0, .ptr 5004 0] (visH [0] []) (bA true) (visH [2] [0]) (some 1000000) := by
  have s1 := c2_sz
  have k1 := sm_visit1 [1] []
  refine HC.of (n := Tryz.f112.ntmps) XX_ok Tryz.func112 rfl (by kernel_rfl) rfl rfl (Nat.le_of_ble_eq_true rfl) rfl rfl ?_
  (repeat' (first|((first|refine Zv 2 ?_|refine Zn ?_|refine Zc ?_|refine Zu fun b hb=>?_|refine Zc ?_ ⟨rfl, rfl, rfl, s1⟩);conv=>whnf)|(refine Zb ?_ ?_<;>(intro h;first|exact Zx|conv=>whnf))))
  conv => whnf
  rw [show hasM mkL c2 = true by decide, show getM mkL c2 = 0 by decide]
  conv => whnf
  (repeat' (first|((first|refine Zg ?_|refine Zn ?_|refine Zc ?_|refine Zu fun b hb=>?_);conv=>whnf)|(refine Zb ?_ ?_<;>(intro h;first|exact Zx|conv=>whnf))))
  all_goals first|(exfalso; exact absurd h (by decide))|skip
  refine (W.weak ⟨[(1, .ptr 5000 0), (2, .ptr 5001 0), (3, .ptr 5002 0), (4, .ptr 5003 0), (5, .ptr 5004 0), (8, iA 0), (39, .dat (.lst 2 1 ndF1)), (40, iA 1), (41, iA 0)], visH [1] []⟩ ?_ ?_ ?_)
  · exact Yz
  · (repeat' (first|exact Yq|refine ⟨_, rfl, Yb ?_, rfl⟩|refine ⟨_, rfl, Yw (by first|rfl|omega) ?_, rfl⟩|refine And.intro ?_ ?_))
    intro i hi j hj
    obtain rfl : i = 0 := by omega
    obtain rfl : j = 0 := by omega
    exact Dle.refl _
  conv => whnf
  (repeat' (first|((first|refine Zg ?_|refine Zn ?_|refine Zc ?_|refine Zu fun b hb=>?_|refine W.unroll (LoopW.mk1 ?_)|refine LoopW.mk1 ?_|refine ExCall.h [(5000, 5000), (5005, 5005), (5001, 5001), (5006, 5006), (5002, 5002), (5003, 5003), (5004, 5004), (1000000, 1000000)] rfl k1 rfl ⟨rfl, rfl, rfl, rfl, rfl, rfl, rfl, rfl, trivial⟩ ?_);conv=>whnf)|(refine Zb ?_ ?_<;>(intro h;first|exact Zx|conv=>whnf))))
  (conv=>whnf); (repeat' (first|exact Zhq|refine ResH.agg ?_|refine ⟨_, rfl, EntLe.blk ?_, rfl⟩|refine ⟨_, rfl, EntLe.row (by first|rfl|omega) ?_, rfl⟩|refine And.intro ?_ ?_|((conv=>whnf); first|exact Zhq|refine ResH.agg ?_)))
  all_goals (intro i hi j hj)
  all_goals (obtain rfl : i = 0 := by first|omega|(simp at hi; omega))
  all_goals (obtain rfl : j = 0 := by omega)
  all_goals exact Dle.refl _
theorem reverse_h (l : List Int) (hl : l.length ≤ 1000) : HC XX 113 [.own 5000 1 0 l.length] [(5000, .row 3 1 l.length (rowF iE l))] (.tup []) [(5000, .row 3 1 l.length (rowF iE l.reverse))] none := by
  refine ⟨⟨_, Tryz.func113, rfl, rfl⟩, fun M w ρ vs hgl hp hlen ha hH => ?_⟩
  obtain ⟨v0, rfl⟩ : ∃ v0, vs = [v0] := by
    match vs, hlen with
    | [a], _ => exact ⟨a, rfl⟩
  have h0 := own_of (ha 0 _ v0 rfl rfl)
  rw [partOf_zero, Nat.sub_zero] at h0
  subst h0
  obtain ⟨xs, hown, hx⟩ := hH.ents 5000 _ rfl
  have hden0 : ∀ M', DenA ρ M' (.tup []) (.tuple #[]) := fun M' => .tup [] [] rfl fun i c v h => by simp at h
  have hx1 : ∀ i, i < l.length → xs[i]? = some (.int .i64 (l.getD i 0)) := fun i hi => by
    obtain ⟨u, h1, h2, h3⟩ := hx i hi 0 (by omega)
    rw [Nat.mul_one, Nat.add_zero] at h1
    have h4 : u = .int .i64 (l.getD i default) := val_of (DenA.dat (ρ := ρ) h2)
    rw [h1, h4]
    rfl
  by_cases hn0 : l.length = 0
  · rw [hn0]
    refine (Tryz.slices_Reverse_int_empty (addrOf (ρ 5000).1) (ρ 5000).2 w).mono fun e w' ⟨he, hw⟩ => ⟨_, ρ, M, he, ?_⟩
    subst hw
    rw [hn0] at hown
    refine ⟨hden0 M, Mem.le_refl _, fun _ _ h => .inl h, hp, Chg.refl _ _, ⟨fun k' e hk => ?_, fun k' k'' e e' hk hk' _ _ hne => ?_, fun k' e g' p v hk ho => ?_⟩, fun k' e g' hk ho hg => ?_, fun _ _ => rfl, fun _ => Nat.le_refl _⟩
    · simp only [lk_cons] at hk
      split at hk
      · rename_i e0; cases hk; subst e0
        exact ⟨xs, hown, fun i hi => absurd hi (by omega)⟩
      · cases hk
    · simp only [lk_cons] at hk hk'
      split at hk <;> split at hk'
      · rename_i e0 e1; exact absurd (e0.symm.trans e1) hne
      · cases hk'
      · cases hk
      · cases hk
    · simp only [lk_cons] at hk
      split at hk
      · rename_i e0; subst e0; exact hH.sep 5000 _ g' p v rfl rfl
      · cases hk
    · simp only [lk_cons] at hk
      split at hk
      · rename_i e0; subst e0; exact .inr (blkOf_of (e := .row 3 1 0 (rowF iE l)) rfl rfl hg)
      · cases hk
  have hn1 : 0 < l.length := by omega
  obtain ⟨hl', ⟨e0, e1⟩|⟨gb, cap, cur, e0, _, hg, hnc, hcm, hcs, hct⟩⟩ := hown
  · exact absurd e1 hn0
  rw [Nat.mul_one] at hl' hct
  have hg1 : (ρ 5000).1 = some gb := by
    cases hq : (ρ 5000).1 with
    | none => rw [hq] at e0; simp [addrOf] at e0
    | some g1 => rw [hq] at e0; simp [addrOf] at e0; rw [e0.1]
  have hg2 : (ρ 5000).2 = cap := by injection e0
  rw [hg2, hg1]
  have hblk : gb < w.heap.size := by
    rcases Nat.lt_or_ge gb w.heap.size with h'|h'
    · exact h'
    · rw [Array.getElem?_eq_none h'] at hg; cases hg
  have hholds : Holds (Value.int .i64) w gb 0 l.toArray := fun t ht => by
    have ht' : t < l.length := by simpa using ht
    refine ⟨?_, by simp [World.frozen?, hg]⟩
    have h5 : xs[t]? = cur[t]? := by
      rw [← hct, List.getElem?_take, if_pos ht', Array.getElem?_toList]
    simp only [World.cell?, hg, Nat.zero_add, Option.isSome_none, Bool.false_eq_true, if_false, id]
    rw [← h5, hx1 t ht']
    have : l.toArray[t]! = l.getD t 0 := by simp [getElem!_pos, ht', List.getD_eq_getElem?_getD]
    rw [this]
  have hpub : ∀ m d, PubOk M (putRow (Value.int .i64) (Sort.ahead w m) gb 0 d) := fun m d p v hpv => by
    obtain ⟨c1, c2⟩ := hp p v hpv
    have hb : p.block < w.heap.size := cell_lt c1
    have hne : p.block ≠ gb := hH.sep 5000 _ gb p v rfl rfl hg1 hpv
    refine ⟨?_, c2⟩
    rw [← c1]
    unfold World.cell?
    have : (putRow (Value.int .i64) (Sort.ahead w m) gb 0 d).heap[p.block]? = w.heap[p.block]? := by
      simp [putRow, mapBlock, Sort.ahead, Array.getElem?_modify, Ne.symm hne]
    rw [this]
  refine (Tryz.slices_Reverse_int gb 0 cap l w hholds (by omega)).mono fun e w' ⟨he, m, hw⟩ => ⟨_, ρ, M, he, ?_⟩
  have hbn : blkOf ρ [(5000, Ent.row 3 1 l.length (rowF iE l))] 5000 = some gb := blkOf_of (e := .row 3 1 l.length (rowF iE l)) rfl rfl hg1
  refine ⟨hden0 M, Mem.le_refl _, fun _ _ h => .inl h, hw ▸ hpub m _, ?_, ⟨fun k' e hk => ?_, fun k' k'' e e' hk hk' _ _ hne => ?_, fun k' e g' p v hk ho => ?_⟩, fun k' e g' hk ho hg => ?_, fun _ _ => rfl, fun _ => ?_⟩
  · rw [hw]
    refine ⟨rfl, rfl, rfl, by simp [putRow, mapBlock, Sort.ahead], fun q hq hne => ?_⟩
    have : gb ≠ q := fun e => hne (e ▸ blkOf_mem hbn)
    simp [putRow, mapBlock, Sort.ahead, Array.getElem?_modify, this]
  · simp only [lk_cons] at hk
    split at hk
    · rename_i e0; cases hk; subst e0
      refine ⟨(l.reverse.map (Value.int .i64)), ⟨by simp, .inr ⟨gb, cap, putCells (Value.int .i64) 0 l.reverse.toArray cur, by rw [hg1, hg2]; rfl, Nat.zero_le _, ?_, hnc, hcm, by simpa [putCells] using hcs, ?_⟩⟩, fun i hi j hj => ?_⟩
      · rw [hw]
        simp [putRow, mapBlock, Sort.ahead, Array.getElem?_modify, hg, onCells]
      · rw [Nat.mul_one]
        apply List.ext_getElem?
        intro t
        rw [List.getElem?_take, Array.getElem?_toList]
        by_cases ht : t < l.length
        · rw [if_pos ht]
          simp only [putCells, Array.getElem?_mapIdx, Array.getElem?_eq_getElem (show t < cur.size by omega), Option.map_some]
          rw [if_pos (by simp; omega)]
          simp [getElem!_pos, ht]
        · rw [if_neg ht, List.getElem?_eq_none (by simp; omega)]
      · obtain rfl : j = 0 := by omega
        refine ⟨.int .i64 (l.reverse.getD i 0), ?_, ?_, rfl⟩
        · have : i < l.reverse.length := by simpa using hi
          simp only [Nat.mul_one, Nat.add_zero, List.getElem?_map, List.getD_eq_getElem?_getD]
          rw [List.getElem?_eq_getElem this]
          rfl
        · show DenD M (.val (.int .i64 (l.reverse.getD i 0))) _
          exact .val _
    · cases hk
  · simp only [lk_cons] at hk hk'
    split at hk <;> split at hk'
    · rename_i e0 e1; exact absurd (e0.symm.trans e1) hne
    · cases hk'
    · cases hk
    · cases hk
  · simp only [lk_cons] at hk
    split at hk
    · rename_i e0; subst e0; exact hH.sep 5000 _ g' p v rfl rfl
    · cases hk
  · simp only [lk_cons] at hk
    split at hk
    · rename_i e0; subst e0; exact .inr (blkOf_of (e := .row 3 1 l.length (rowF iE l)) rfl rfl hg)
    · cases hk
  · rw [hw]; exact Nat.le_add_right _ _
theorem sm_order : HC XX 75 [.dat rcL, .mp 5000, sY c2] [(5000, .mp XX.P 9 3 mkL)] (.tup [.dat (iD [0]), bA true]) [(5000, .mp XX.P 9 3 mkL)] none := by
  have k1 := sm_visit2
  have k2 := reverse_h [0] (by decide)
  refine HC.of (n := Tryz.f75.ntmps) XX_ok Tryz.func75 rfl (by kernel_rfl) rfl rfl (Nat.le_of_ble_eq_true rfl) rfl rfl ?_
  (repeat' (first|((first|refine Zv 5 ?_|refine Zn ?_|refine Zc ?_|refine Zu fun b hb=>?_);conv=>whnf)|(refine Zb ?_ ?_<;>(intro h;first|exact Zx|conv=>whnf))))
  all_goals (conv=>whnf)
  refine (W.adoptB 9 0 18 3 1 (rowF iE []) rfl rfl rfl rfl rfl rfl ?_); conv => whnf
  refine (W.weak ⟨[(2, sY c2), (9, .ptr 9 0), (10, .ptr 10 0)], [(4, .blk 116 [.mp 5000]), (5000, .mp XX.P 9 3 mkL), (8, .blk 22 [.own 13 1 0 1]), (13, .row 3 1 1 (rowF iE [0])), (3, .blk 84 [.dat rcL]),
    (10, .blk 60 [.clo 112 [.ptr 4 0, .ptr 8 0, .ptr 3 0, .ptr 10 0, .ptr 9 0]]), (9, .blk 22 [.own 18 1 0 0]), (18, .row 3 1 0 (rowF iE []))]⟩ ?_ ?_ ?_)
  · exact Yz
  · (repeat' (first|exact Yq|refine ⟨_, rfl, Yb ?_, rfl⟩|refine ⟨_, rfl, Yw (by first|rfl|omega) ?_, rfl⟩|refine And.intro ?_ ?_))
    intro i hi j hj
    obtain rfl : i = 0 := by omega
    obtain rfl : j = 0 := by omega
    exact Dle.refl _
  conv => whnf
  (repeat' (first|((first|refine Zg ?_|refine Zn ?_|refine Zc ?_|refine Zu fun b hb=>?_|refine ExCall.h [(5000, 4), (5005, 5000), (5001, 8), (5006, 13), (5002, 3), (5003, 10), (5004, 9), (1000000, 18)] rfl k1 rfl ⟨rfl, rfl, rfl, rfl, rfl, rfl, rfl, rfl, trivial⟩ ?_|refine ExCall.h [(5000, 18)] rfl k2 rfl ⟨rfl, trivial⟩ ?_);conv=>whnf)|(refine Zb ?_ ?_<;>(intro h;first|exact Zx|conv=>whnf))))
  all_goals first|(exfalso; omega)|skip
  (conv=>whnf); (repeat' (first|exact Zhq|refine ResH.agg ?_|refine ⟨_, rfl, EntLe.blk ?_, rfl⟩|refine ⟨_, rfl, EntLe.row (by first|rfl|omega) ?_, rfl⟩|refine And.intro ?_ ?_|((conv=>whnf); first|exact Zhq|refine ResH.agg ?_)))
  all_goals (conv=>whnf)
  all_goals exact ResH.row0 rfl rfl rfl
abbrev dmL : ML := [(c1, 10), (c2, 3)]
abbrev zL : D := .lst 1 1 fun _ _ => .val (.int .i64 0)
abbrev twL : D := .lst 1 1 fun _ _ => .val (.int .i64 2)
theorem sm_run : HC XX 76 [.dat rcL, .mp 5000, .dat zL, .agg [sY c2, iA 3]] [(5000, .mp XX.P 9 3 mkL)] (.tup [.mp 19, .dat twL, iA 0]) [(5000, .mp XX.P 9 3 mkL), (19, .mp XX.P 9 3 dmL)] (some 19) := by
  have s1 := c2_sz
  have s1' := c1_sz
  have s2 : ([] : ML).length < maxLen := Nat.lt_of_lt_of_le (show 0 < 1 by decide) (by decide)
  have s3 : -9223372036854775808 ≤ (3 : Int) ∧ (3 : Int) ≤ 9223372036854775807 := by decide
  have g1 : getM mkL c2 = 0 := by decide
  have g2 : getM (putM [] c2 3) c2 = 3 := by decide
  have g3 : getM (putM [] c2 3) c1 = 0 := by decide
  refine HC.of (n := Tryz.f76.ntmps) XX_ok Tryz.func76 rfl (by kernel_rfl) rfl rfl (Nat.le_of_ble_eq_true rfl) rfl rfl ?_
  (repeat' (first|((first|refine Zv 12 ?_|refine Zt dr76 ?_|refine Zn ?_|refine Zc ?_|refine Zu fun b hb=>?_|refine W.unroll (LoopW.mk1 ?_)|refine LoopW.mk1 ?_|refine Zc ?_ ⟨rfl, rfl, rfl, s1⟩|refine Zc ?_ ⟨rfl, rfl, rfl, s1, s2, s3⟩);conv=>whnf)|(refine Zb ?_ ?_<;>(intro h;first|exact Zx|conv=>whnf))))
  refine (W.weak ⟨[(0, .dat rcL), (1, .mp 5000), (11, .mp 19), (12, .own 27 1 0 1), (14, iA 0), (28, .dat zL), (29, iA 1), (30, iA 0)], [(5000, .mp XX.P 9 3 mkL), (19, .mp XX.P 9 3 (putM [] c2 3)), (27, .row 3 1 1 fun _ _ => .val (.int .i64 2))]⟩ ?_ ?_ ?_)
  · exact Yz
  · (repeat' (first|exact Yq|refine ⟨_, rfl, Yb ?_, rfl⟩|refine ⟨_, rfl, Yw (by first|rfl|omega) ?_, rfl⟩|refine And.intro ?_ ?_))
    intro i hi j hj
    obtain rfl : i = 0 := by omega
    obtain rfl : j = 0 := by omega
    refine Dle.of_eq ?_
    show D.val (.int .i64 (if (getM (putM [] c2 3) c2 + 2 - 1) / 2 > 0 then (getM (putM [] c2 3) c2 + 2 - 1) / 2 else 0)) = _
    rw [g2]
    rfl
  conv => whnf
  have s5 : (putM ([] : ML) c2 3).length < maxLen := Nat.lt_of_lt_of_le (show 1 < 2 by decide) (by decide)
  have s6 : -9223372036854775808 ≤ getM (putM [] c2 3) c1 + 2 * 5 ∧ getM (putM [] c2 3) c1 + 2 * 5 ≤ 9223372036854775807 := by rw [g3]; decide
  (repeat' (first|((first|refine Zg ?_|refine Zt dr76 ?_|refine Zn ?_|refine Zc ?_|refine Zu fun b hb=>?_|refine W.unroll (LoopW.mk1 ?_)|refine LoopW.mk1 ?_|refine Zc ?_ ⟨rfl, rfl, rfl, s1'⟩|refine Zc ?_ ⟨rfl, rfl, rfl, s1', s5, s6⟩);conv=>whnf)|(refine Zb ?_ ?_<;>(intro h;first|exact Zx|conv=>whnf))))
  all_goals first|(exfalso; omega)|skip
  rw [show putM (putM ([] : ML) c2 3) c1 (getM (putM [] c2 3) c1 + 2 * 5) = dmL by decide]
  (conv=>whnf); (repeat' (first|exact Zhq|refine ResH.agg ?_|refine ⟨_, rfl, EntLe.blk ?_, rfl⟩|refine ⟨_, rfl, EntLe.row (by first|rfl|omega) ?_, rfl⟩|refine And.intro ?_ ?_|((conv=>whnf); first|exact Zhq|refine ResH.agg ?_)))
  all_goals (conv=>whnf)
  all_goals exact ResH.row0 rfl rfl rfl
theorem sm_nan (a : ByteArray) : ACalls XD 115 [sY a] (bA false) := by
  have h : strEq a a = true := (strEq_iff a a).2 rfl
  refine ACalls.of (n := Tryz.f115.ntmps) XD_ok Tryz.func115 rfl (by kernel_rfl) rfl rfl (Nat.le_of_ble_eq_true rfl) ?_
  (repeat' (first|((first|refine Zg ?_|refine Zn ?_|refine Zc ?_|refine Zu fun b hb=>?_);conv=>whnf)|(refine Zb ?_ ?_<;>(intro h;first|exact Zx|conv=>whnf))))
  all_goals (repeat' (first|exact Zrq|exact Zi (by simp [h])|exact Zo (h := by simp [h])|refine ResLe.agg ?_|refine And.intro ?_ ?_|((conv=>whnf); first|exact Zrq|exact Zi (by simp [h])|exact Zo (h := by simp [h])|refine ResLe.agg ?_|refine And.intro ?_ ?_)))
theorem sm_cmp (a : ByteArray) : ACalls XD 79 [sY a, sY a] (iA 0) := by
  have h0 := sm_nan
  have q1 := strLt_irr a
  have q2 : strEq a a = true := (strEq_iff a a).2 rfl
  refine ACalls.of (n := Tryz.f79.ntmps) XD_ok Tryz.func79 rfl (by kernel_rfl) rfl rfl (Nat.le_of_ble_eq_true rfl) ?_
  (repeat' (first|((first|refine Zg ?_|refine Zn ?_|refine Zc ?_|refine Zu fun b hb=>?_|refine Zy (h0 _) ?_);conv=>whnf)|(refine Zb ?_ ?_<;>(intro h;first|exact Zx|conv=>whnf))))
  all_goals (repeat' (first|exact Zrq|exact Zi (by simp_all)|exact Zo (h := by simp_all)|refine ResLe.agg ?_|refine And.intro ?_ ?_|((conv=>whnf); first|exact Zrq|exact Zi (by simp_all)|exact Zo (h := by simp_all)|refine ResLe.agg ?_|refine And.intro ?_ ?_)))
theorem sm_less (x : Nd) : ACalls XD 78 [(.agg [sY x.c, iA x.q]), (.agg [sY x.c, iA x.q])] (iA 0) := by
  refine ACalls.of (n := Tryz.f78.ntmps) XD_ok Tryz.func78 rfl (by kernel_rfl) rfl rfl (Nat.le_of_ble_eq_true rfl) ?_
  (repeat' (first|((first|refine Zg ?_|refine Zn ?_|refine Zc ?_|refine Zu fun b hb=>?_|refine Zy (sm_cmp _) ?_);conv=>whnf)|(refine Zb ?_ ?_<;>(intro h;first|exact Zx|conv=>whnf))))
  all_goals exact Zrz
theorem sm_swo : SWO (ltOf (fun _ _ => 0 : Nat → Nat → Int)) := ⟨fun _ => rfl, fun _ _ _ h => (by cases (show false = true from h)), fun _ _ _ _ _ => rfl⟩
theorem sm_sort (us : List Nd) (hn : us.length = 1) :
    HC XX 77 [.own 5000 2 0 us.length, .dat (.val (.func (.func 78) #[] #[]))] [(5000, .row 30 2 us.length (rowF ndE us))] (.tup []) [(5000, .row 30 2 us.length fun i j => rowF ndE us (sortAt us.length (fun _ _ => 0) i) j)] none :=
  sort_h (X := XX) (cf := fun _ _ => 0) Tryz.sort77 rfl ⟨_, Tryz.func77, rfl, rfl⟩ Tryz.isAgg30 Tryz.sizeOf30
    (enters_of Tryz.func78 (by kernel_rfl) rfl) sm_swo (by omega) (by omega) (fun i j hi hj => by
      obtain rfl : i = 0 := by omega
      obtain rfl : j = 0 := by omega
      exact sm_less (us.getD 0 default))
theorem next_two {x y : ByteArray × Int} {A : Prop} {B : ByteArray × Int → ML → Prop} (h1 : B x [y]) (h2 : B y [x]) : NextK [x, y] A B := ⟨fun h => (by cases h), fun p l h => by
  have hp : p ∈ [x, y] := h.symm.subset List.mem_cons_self
  rcases List.mem_cons.1 hp with rfl|hp
  · obtain rfl := List.perm_singleton.1 (List.Perm.cons_inv h).symm
    exact h1
  · obtain rfl := List.mem_singleton.1 hp
    obtain rfl := List.perm_singleton.1 (List.Perm.cons_inv ((List.Perm.swap x p []).trans h)).symm
    exact h2⟩
theorem next_one {x : ByteArray × Int} {A : Prop} {B : ByteArray × Int → ML → Prop} (h1 : B x []) : NextK [x] A B := ⟨fun h => (by cases h), fun p l h => by
  have h2 := List.singleton_perm.1 h
  injection h2 with h2 h3
  subst h2
  subst h3
  exact h1⟩
theorem next_nil {A : Prop} {B : ByteArray × Int → ML → Prop} (h1 : A) : NextK [] A B := ⟨fun _ => h1, fun p l h => (by cases List.nil_perm.1 h)⟩
theorem ACalls.yargs {X : Cx} {f : FuncId} {cs ds : List AV} {r : AV} (h : ACalls X f ds r) (hle : AVsLe cs ds) : ACalls X f cs r := by
  obtain ⟨h1, h2⟩ := AVsLe_at hle
  exact ⟨h.fn, fun M w vs hg hp hl hd => h.out M w vs hg hp (by omega) fun i d v e1 e2 => by
    obtain ⟨c, e3, e4⟩ := h2 i d e1
    unfold AVle at e4
    exact fun ρ => e4 ρ M v (hd i c v e3 e2 ρ)⟩
theorem c1_ok : cOk c1 := ⟨rfl, fun i hi => by
  rcases i with _|_|_|_|_|_|_|_|i
  all_goals first|(exfalso; omega)|decide⟩
theorem c2_ok : cOk c2 := ⟨rfl, fun i hi => by
  rcases i with _|_|_|_|_|_|_|_|i
  all_goals first|(exfalso; omega)|decide⟩
theorem asc_one {x : Nd} {lo hi : Int} (h : cOk x.c) (h1 : lo ≤ x.q) (h2 : x.q ≤ hi) : ascOk [x] lo hi := fun i hi => by
  obtain rfl : i = 0 := by simpa using hi
  exact ⟨h, h1, h2, fun h => absurd h (by omega)⟩
def r0 : Rc := ⟨1, [⟨c1, 5⟩], [⟨c2, 2⟩], [1]⟩
theorem r0_ok : yrOk r0 := ⟨by decide, ⟨asc_one c1_ok (by decide) (by decide), by decide, by decide⟩, ⟨asc_one c2_ok (by decide) (by decide), by decide, by decide⟩, rfl, fun i hi => by
  obtain rfl : i = 0 := by
    have : i < 1 := hi
    omega
  decide, by decide⟩
abbrev rcV : AV := .agg [iA 1, .dat (.lst 2 1 ndF1), .dat (.lst 2 1 ndF2), .dat (.lst 1 1 fun _ _ => .val (.int .i64 1))]
theorem lst_one {s : Nat} {f g : Nat → Nat → D} {n : Nat} (hn : 1 = n) (h : ∀ j, j < s → Dle (f 0 j) (g 0 j)) : AVle (.dat (.lst s 1 f)) (.dat (.lst s n g)) := AVle.dat (Dle.lst hn fun i hi j hj => by
  obtain rfl : i = 0 := by omega
  exact h j hj)
theorem sm_valid : ACalls XX 62 [rcV] (iA 0) := by
  have h := yvalidate_t r0 (by decide) (by decide) (by decide)
  rw [show yrErr r0 = 0 from if_pos r0_ok] at h
  exact h.yargs ⟨AVle.agg ⟨AVle.refl _, lst_one rfl fun j hj => by rcases j with _|_|j <;> first|exact Dle.refl _|omega, lst_one rfl fun j hj => by rcases j with _|_|j <;> first|exact Dle.refl _|omega, lst_one rfl fun j hj => by rcases j with _|j <;> first|exact Dle.refl _|omega, trivial⟩, trivial⟩
abbrev ten : List Nd := [⟨c1, 10⟩]
theorem sm_explode : ACalls XX 40 [.dat rcL, sY c2, iA 3] (.tup [.dat (ndD ten), .dat twL, iA 0]) := by
  have s1 := c2_sz
  have s1' := c1_sz
  have k0 := sm_valid
  have k1 := yvalidCode_t c2
  rw [decide_eq_true c2_ok] at k1
  have k2 := sm_makers
  have k3 := sm_order
  have k4 := sm_run.argsLe (ls := [.dat rcL, .mp 5000, .dat (iD [0]), .agg [sY c2, iA 3]]) ⟨AVle.refl _, AVle.refl _, lst_one rfl fun j hj => by rcases j with _|j <;> first|exact Dle.refl _|omega, AVle.refl _, trivial⟩
  have n1 : ¬ hasM mkL c1 = true := by decide
  have n2 : ¬ hasM mkL c2 = false := by decide
  have hso := sm_sort ten rfl
  refine ACalls.of (n := Tryz.f40.ntmps) XX_ok Tryz.func40 rfl (by kernel_rfl) rfl rfl (Nat.le_of_ble_eq_true rfl) ?_
  (repeat' (first|((first|refine Zv 22 ?_|refine Zt dr40 ?_|refine Zn ?_|refine Zc ?_|refine Zu fun b hb=>?_|refine W.unroll (LoopW.mk1 ?_)|refine LoopW.mk1 ?_|refine Zy k0 ?_|refine Zz k0 ?_|refine Zy k1 ?_|refine Zz k1 ?_|refine ExCall.h [(10, 64)] rfl k2 rfl trivial ?_|refine ExCall.h [(5000, 64)] rfl k3 rfl ⟨rfl, trivial⟩ ?_|refine CallK.h [(5000, 64)] rfl k3 rfl rfl ⟨rfl, trivial⟩ rfl rfl ?_|refine ExCall.h [(5000, 64), (19, 81)] rfl k4 rfl ⟨rfl, trivial⟩ ?_);conv=>whnf)|(refine Zb ?_ ?_<;>(intro h;first|exact Zx|conv=>whnf))))
  all_goals first|(exfalso; omega)|skip
  refine W.openM 81 rfl fun es clock gm => ?_
  conv => whnf
  (repeat' (first|((first|refine Zg ?_|refine Zt dr40 ?_|refine Zn ?_|refine Zc ?_|refine Zu fun b hb=>?_);conv=>whnf)|(refine Zb ?_ ?_<;>(intro h;first|exact Zx|conv=>whnf))))
  refine (W.adopt 18 112 30 2 (rowF ndE []) rfl rfl rfl rfl ?_)
  conv => whnf
  (repeat' (first|((first|refine Zv 28 ?_|refine Zt dr40 ?_|refine Zn ?_|refine Zc ?_|refine Zu fun b hb=>?_|refine W.unroll (LoopW.mk1 ?_)|refine LoopW.mk1 ?_|refine next_two ?_ ?_|refine next_one ?_|refine next_nil ?_|refine Zc ?_ ⟨rfl, rfl, rfl, s1⟩|refine Zc ?_ ⟨rfl, rfl, rfl, s1'⟩);conv=>whnf)|(refine Zb ?_ ?_<;>(intro h;first|exact Zx|conv=>whnf))))
  all_goals first|(exfalso; omega)|skip
  all_goals refine (W.weak ⟨[(16, .dat twL), (18, .own 112 2 0 ten.length)], [(112, .row 30 2 ten.length (rowF ndE ten))]⟩ ?_ ?_ ?_)
  all_goals (try (repeat' (first|exact Yq|refine ⟨_, rfl, Yb ?_, rfl⟩|refine ⟨_, rfl, Yw (by first|rfl|omega) ?_, rfl⟩|refine And.intro ?_ ?_)))
  all_goals first
    | (intro i hi j hj
       obtain rfl : i = 0 := by first|omega|(simp at hi; omega)
       rcases j with _|_|j <;> first|exact Dle.refl _|omega)
    | skip
  all_goals (conv=>whnf)
  all_goals (repeat' (first|((first|refine Zg ?_|refine Zt dr40 ?_|refine Zn ?_|refine Zc ?_|refine Zu fun b hb=>?_|refine ExCall.h [(5000, 112)] rfl hso rfl ⟨rfl, trivial⟩ ?_|refine CallK.h [(5000, 112)] rfl hso rfl rfl ⟨rfl, trivial⟩ rfl rfl ?_);conv=>whnf)|(refine Zb ?_ ?_<;>(intro h;first|exact Zx|conv=>whnf))))
  all_goals (repeat' (first|exact Zrq|refine ResLe.agg ?_|refine And.intro ?_ ?_|((conv=>whnf); first|exact Zrq|refine ResLe.agg ?_|refine And.intro ?_ ?_)))
  all_goals refine RowIs.res (enc := ndE) (us := ten) rfl ⟨rfl, fun i hi j hj => ?_⟩ rfl
  all_goals (have h1 : ten.length = 1 := rfl)
  all_goals (have h2 := sortAt_lt sm_swo hi)
  all_goals (rw [show sortAt ten.length (fun _ _ => 0) i = i by omega])
  all_goals exact Dle.refl _
abbrev dI : D := .lst 2 1 fun _ j => match j with
  | 0 => .val (.int .i64 10)
  | _ => .val (.int .i64 5)
abbrev dE : D := .lst 2 2 fun i j => match i with
  | 0 => match j with
    | 0 => .val (.int .i64 8)
    | _ => .val (.int .i64 3)
  | _ => match j with
    | 0 => .val (.int .i64 12)
    | _ => .val (.int .i64 4)
theorem sm_dI : ACalls XX 80 [.dat dI] (iA 0) := by
  refine ACalls.of (n := Tryz.f80.ntmps) XX_ok Tryz.func80 rfl (by kernel_rfl) rfl rfl (Nat.le_of_ble_eq_true rfl) ?_
  (repeat' (first|((first|refine Zg ?_|refine Zt dr80 ?_|refine Zn ?_|refine Zc ?_|refine Zu fun b hb=>?_|refine W.unroll (LoopW.mk1 ?_)|refine LoopW.mk1 ?_);conv=>whnf)|(refine Zb ?_ ?_<;>(intro h;first|exact Zx|conv=>whnf))))
  all_goals first|exact Zrz|(exfalso; omega)
theorem sm_dE : ACalls XX 80 [.dat dE] (iA 0) := by
  refine ACalls.of (n := Tryz.f80.ntmps) XX_ok Tryz.func80 rfl (by kernel_rfl) rfl rfl (Nat.le_of_ble_eq_true rfl) ?_
  (repeat' (first|((first|refine Zg ?_|refine Zt dr80 ?_|refine Zn ?_|refine Zc ?_|refine Zu fun b hb=>?_|refine W.unroll (LoopW.mk1 ?_)|refine LoopW.mkK [0, 2, 5, 6, 7] [] ?_);conv=>whnf)|(refine Zb ?_ ?_<;>(intro h;first|exact Zx|conv=>whnf))))
  all_goals first|exact Zrz|(exfalso; omega)
def opS (i _ : Nat) : D := match i with
  | 0 => .val (.int .i64 3)
  | _ => .val (.int .i64 4)
def mtS (_ : Unit) (j : Nat) : D := match j with
  | 0 => .val (.int .i64 0)
  | 1 => .val (.int .i64 1)
  | _ => .val (.int .i64 4)
abbrev mtO : D := .lst 3 1 (rowF mtS [()])
theorem sm_settle : ACalls XX 41 [.dat dI, .dat dE, iA 2, iA 1] (.tup [.dat mtO, iA 0]) := by
  have k1 := sm_dI
  have k2 := sm_dE
  refine ACalls.of (n := Tryz.f41.ntmps) XX_ok Tryz.func41 rfl (by kernel_rfl) rfl rfl (Nat.le_of_ble_eq_true rfl) ?_
  (repeat' (first|((first|refine Zv 18 ?_|refine Zn ?_|refine Zc ?_|refine Zu fun b hb=>?_|refine Zy k1 ?_|refine Zy k2 ?_|refine W.unroll (LoopW.mk1 ?_)|refine LoopW.mkK [0, 1, 2, 3, 12, 57, 58, 59] [56] ?_);conv=>whnf)|(refine Zb ?_ ?_<;>(intro h;first|exact Zx|conv=>whnf))))
  all_goals first|(exfalso; omega)|skip
  all_goals (conv=>whnf)
  refine (W.adopt 15 126 92 3 (fun _ _ => .val undef) rfl rfl rfl rfl ?_)
  conv => whnf
  refine (W.weak ⟨[(0, .dat dI), (1, .dat dE), (2, iA 2), (3, iA 1), (12, .own 56 1 0 2), (15, .own 126 3 0 0)], [(126, .row 92 3 0 fun _ _ => .val undef), (56, .row 3 1 2 opS)]⟩ ?_ ?_ ?_)
  · exact Yz
  · (repeat' (first|exact Yq|refine ⟨_, rfl, Yb ?_, rfl⟩|refine ⟨_, rfl, Yw (by first|rfl|omega) ?_, rfl⟩|refine And.intro ?_ ?_))
    intro i hi j hj
    obtain rfl : j = 0 := by omega
    rcases i with _|_|i
    · exact Dle.refl _
    · exact Dle.refl _
    · omega
  conv => whnf
  (repeat' (first|((first|refine Zg ?_|refine Zn ?_|refine Zc ?_|refine Zu fun b hb=>?_|refine W.unroll (LoopW.mk1 ?_)|refine LoopW.mkK [0, 1, 2, 3, 12, 15, 16, 17, 18, 70, 71, 72, 79, 80, 81] [17, 56, 126] ?_);conv=>whnf)|(refine Zb ?_ ?_<;>(intro h;first|exact Zx|conv=>whnf))))
  all_goals first|(exfalso; omega)|skip
  (repeat' (first|exact Zrq|refine ResLe.agg ?_|refine And.intro ?_ ?_|((conv=>whnf); first|exact Zrq|refine ResLe.agg ?_|refine And.intro ?_ ?_)))
  refine RowIs.res (enc := mtS) (us := [()]) rfl ⟨rfl, fun i hi j hj => ?_⟩ rfl
  obtain rfl : i = 0 := by omega
  rcases j with _|_|_|j
  all_goals first|exact Dle.of_eq rfl|omega
abbrev fourL : D := .lst 2 1 fun _ j => match j with
  | 0 => .val (.string c1)
  | _ => .val (.int .i64 14)
theorem sm_asc : ACalls XX 81 [.dat fourL, iA 0, iA 1000000000000] (bA true) := by
  have h := yasc_t [⟨c1, 14⟩] 0 1000000000000 (by decide)
  rw [decide_eq_true (asc_one c1_ok (by decide) (by decide))] at h
  exact h.yargs ⟨lst_one rfl fun j hj => by rcases j with _|_|j <;> first|exact Dle.refl _|omega, AVle.refl _, AVle.refl _, trivial⟩
theorem sm_batches : ACalls XX 42 [rcV, .dat fourL] (iA 2) := by
  have s1 := c1_sz
  have s2 : ([] : ML).length < maxLen := Nat.lt_of_lt_of_le (show 0 < 1 by decide) (by decide)
  have s3 : -9223372036854775808 ≤ (14 : Int) ∧ (14 : Int) ≤ 9223372036854775807 := by decide
  have g1 : getM (putM [] c1 14) c1 = 14 := by decide
  have k0 := sm_valid
  have k1 := sm_asc
  refine ACalls.of (n := Tryz.f42.ntmps) XX_ok Tryz.func42 rfl (by kernel_rfl) rfl rfl (Nat.le_of_ble_eq_true rfl) ?_
  (repeat' (first|((first|refine Zg ?_|refine Zn ?_|refine Zc ?_|refine Zu fun b hb=>?_|refine Zy k0 ?_|refine Zy k1 ?_|refine W.unroll (LoopW.mk1 ?_)|refine LoopW.mk1 ?_|refine Zc ?_ ⟨rfl, rfl, rfl, s1⟩|refine Zc ?_ ⟨rfl, rfl, rfl, s1, s2, s3⟩);conv=>whnf)|(refine Zb ?_ ?_<;>(intro h;first|exact Zx|conv=>whnf))))
  all_goals first|(exfalso; omega)|skip
  rw [g1]
  (repeat' (first|exact Zrq|refine ResLe.agg ?_|refine And.intro ?_ ?_|((conv=>whnf); first|exact Zrq|refine ResLe.agg ?_|refine And.intro ?_ ?_)))
theorem Dle.one {s : Nat} {f g : Nat → Nat → D} (h : ∀ j, j < s → Dle (f 0 j) (g 0 j)) : Dle (.lst s 1 f) (.lst s 1 g) := Dle.lst rfl fun i hi j hj => by
  obtain rfl : i = 0 := by omega
  exact h j hj
theorem a_n1 : Dle (.lst 2 1 fun i j => pickF (tabB 1 2) [.val (.string c1), .val (.int .i64 5)] (i * 2 + j)) (.lst 2 1 ndF1) := Dle.one fun j hj => by rcases j with _|_|j <;> first|exact Dle.refl _|omega
theorem a_n2 : Dle (.lst 2 1 fun i j => pickF (tabB 1 2) [.val (.string c2), .val (.int .i64 2)] (i * 2 + j)) (.lst 2 1 ndF2) := Dle.one fun j hj => by rcases j with _|_|j <;> first|exact Dle.refl _|omega
theorem a_i1 : Dle (.lst 1 1 fun i j => pickF (tabB 1 1) [.val (.int .i64 1)] (i * 1 + j)) (.lst 1 1 fun _ _ => .val (.int .i64 1)) := Dle.one fun j hj => by rcases j with _|j <;> first|exact Dle.refl _|omega
theorem a_rc : AVle (.dat (.lst 4 1 fun i j => pickF (tabB 1 4) [.val (.int .i64 1), .lst 2 1 fun i j => pickF (tabB 1 2) [.val (.string c1), .val (.int .i64 5)] (i * 2 + j), .lst 2 1 fun i j => pickF (tabB 1 2) [.val (.string c2), .val (.int .i64 2)] (i * 2 + j), .lst 1 1 fun i j => pickF (tabB 1 1) [.val (.int .i64 1)] (i * 1 + j)] (i * 4 + j))) (.dat rcL) := AVle.dat (Dle.one fun j hj => by
  rcases j with _|_|_|_|j
  · exact Dle.refl _
  · exact a_n1
  · exact a_n2
  · exact a_i1
  · omega)
theorem a_rv : AVle (.agg [iA 1, .dat (.lst 2 1 fun i j => pickF (tabB 1 2) [.val (.string c1), .val (.int .i64 5)] (i * 2 + j)), .dat (.lst 2 1 fun i j => pickF (tabB 1 2) [.val (.string c2), .val (.int .i64 2)] (i * 2 + j)), .dat (.lst 1 1 fun i j => pickF (tabB 1 1) [.val (.int .i64 1)] (i * 1 + j))]) rcV := AVle.agg ⟨AVle.refl _, AVle.dat a_n1, AVle.dat a_n2, AVle.dat a_i1, trivial⟩
theorem a_dI : AVle (.dat (.lst 2 1 fun i j => pickF (tabB 1 2) [.val (.int .i64 10), .val (.int .i64 5)] (i * 2 + j))) (.dat dI) := AVle.dat (Dle.one fun j hj => by rcases j with _|_|j <;> first|exact Dle.refl _|omega)
theorem a_dE : AVle (.dat (.lst 2 2 fun i j => pickF (tabB 2 2) [.val (.int .i64 8), .val (.int .i64 3), .val (.int .i64 12), .val (.int .i64 4)] (i * 2 + j))) (.dat dE) := AVle.dat (Dle.lst rfl fun i hi j hj => by
  rcases i with _|_|i <;> rcases j with _|_|j <;> first|exact Dle.refl _|omega)
theorem a_fo : AVle (.dat (.lst 2 1 fun i j => pickF (tabB 1 2) [.val (.string c1), .val (.int .i64 14)] (i * 2 + j))) (.dat fourL) := AVle.dat (Dle.one fun j hj => by rcases j with _|_|j <;> first|exact Dle.refl _|omega)
theorem sm_awake : ACalls XX 14 [] (bA true) := by
  have p1 := sm_explode.yargs (cs := [_, _, _]) ⟨a_rc, AVle.refl _, AVle.refl _, trivial⟩
  have p2 := sm_settle.yargs (cs := [_, _, _, _]) ⟨a_dI, a_dE, AVle.refl _, AVle.refl _, trivial⟩
  have p3 := sm_batches.yargs (cs := [_, _]) ⟨a_rv, a_fo, trivial⟩
  have he : EqS Tryz.prog 92 3 := eqS_mk Tryz.eqGuardType92 Tryz.underlying92 Tryz.stoodInHeld92 (by kernel_rfl) rfl
  refine ACalls.of (n := Tryz.f14.ntmps) XX_ok Tryz.func14 rfl (by kernel_rfl) rfl rfl (Nat.le_of_ble_eq_true rfl) ?_
  refine W.pb [8, 10, 11, 15, 22, 25, 73] ?_
  (repeat' (first|((first|refine Zg ?_|refine Zn ?_|refine Zc ?_|refine Zu fun b hb=>?_|refine Zy (ACalls.at (p1)) ?_|refine Zy (ACalls.at (p2)) ?_|refine Zy (ACalls.at (p3)) ?_);conv=>whnf)|(refine Zb ?_ ?_<;>(intro h;first|exact Zx|conv=>whnf))))
  all_goals first|((repeat' (first|exact Zrq|exact Zi (by first|rfl|decide)|exact Zo (h := by first|rfl|decide)|refine ResLe.agg ?_|refine And.intro ?_ ?_|((conv=>whnf); first|exact Zrq|exact Zi (by first|rfl|decide)|exact Zo (h := by first|rfl|decide)|refine ResLe.agg ?_|refine And.intro ?_ ?_))); done)|(exfalso; exact h rfl)|(exfalso; exact h (by decide))|(exfalso; exact h trivial)
end Go.Proofs.YtacpjihbbmoolaaGreatDoor
