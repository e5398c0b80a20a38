/- Yields: the order of the recipes. -/
import Derived.Test.YtoeghejbgibioaaZ3
import Derived.Test.YtoeghejbgibioaaShelf
namespace Go.Proofs.Ytoeghejbgibioaa
open Go Go.RowKit Go.Lib Go.Sort
set_option linter.unusedVariables false
set_option linter.unusedSimpArgs false
set_option maxRecDepth 100000
set_option maxHeartbeats 4000000
attribute [local irreducible] ResLe AVle ArgLe ArgP EntLe Dle ResH ArgQ strEq strLt

theorem reverse_h (l : List Int) (hl : l.length ≤ 1000) : HC XX 54 [.own 5000 1 0 l.length] [(5000, .row 3 1 l.length (rowF iE l))] (.tup []) [(5000, .row 3 1 l.length (rowF iE l.reverse))] none := by
  refine ⟨⟨_, Try.func54, rfl, rfl⟩, fun M w ρ vs hgl hp hlen ha hH => ?_⟩
  obtain ⟨v0, rfl⟩ : ∃ v0, vs = [v0] := by
    match vs, hlen with
    | [a], _ => exact ⟨a, rfl⟩
  have h0 := own_of (ha 0 _ v0 rfl rfl)
  rw [partOf_zero, Nat.sub_zero] at h0
  subst h0
  obtain ⟨xs, hown, hx⟩ := hH.ents 5000 _ rfl
  have hden0 : ∀ M', DenA ρ M' (.tup []) (.tuple #[]) := fun M' => .tup [] [] rfl fun i c v h => by simp at h
  have hx1 : ∀ i, i < l.length → xs[i]? = some (.int .i64 (l.getD i 0)) := fun i hi => by
    obtain ⟨u, h1, h2, h3⟩ := hx i hi 0 (by omega)
    rw [Nat.mul_one, Nat.add_zero] at h1
    have h4 : u = .int .i64 (l.getD i default) := val_of (DenA.dat (ρ := ρ) h2)
    rw [h1, h4]
    rfl
  by_cases hn0 : l.length = 0
  · rw [hn0]
    refine (Try.slices_Reverse_int_empty (addrOf (ρ 5000).1) (ρ 5000).2 w).mono fun e w' ⟨he, hw⟩ => ⟨_, ρ, M, he, ?_⟩
    subst hw
    rw [hn0] at hown
    refine ⟨hden0 M, Mem.le_refl _, fun _ _ h => .inl h, hp, Chg.refl _ _, ⟨fun k' e hk => ?_, fun k' k'' e e' hk hk' _ _ hne => ?_, fun k' e g' p v hk ho => ?_⟩, fun k' e g' hk ho hg => ?_, fun _ _ => rfl, fun _ => Nat.le_refl _⟩
    · simp only [lk_cons] at hk
      split at hk
      · rename_i e0; cases hk; subst e0
        exact ⟨xs, hown, fun i hi => absurd hi (by omega)⟩
      · cases hk
    · simp only [lk_cons] at hk hk'
      split at hk <;> split at hk'
      · rename_i e0 e1; exact absurd (e0.symm.trans e1) hne
      · cases hk'
      · cases hk
      · cases hk
    · simp only [lk_cons] at hk
      split at hk
      · rename_i e0; subst e0; exact hH.sep 5000 _ g' p v rfl rfl
      · cases hk
    · simp only [lk_cons] at hk
      split at hk
      · rename_i e0; subst e0; exact .inr (blkOf_of (e := .row 3 1 0 (rowF iE l)) rfl rfl hg)
      · cases hk
  have hn1 : 0 < l.length := by omega
  obtain ⟨hl', ⟨e0, e1⟩ | ⟨gb, cap, cur, e0, _, hg, hnc, hcm, hcs, hct⟩⟩ := hown
  · exact absurd e1 hn0
  rw [Nat.mul_one] at hl' hct
  have hg1 : (ρ 5000).1 = some gb := by
    cases hq : (ρ 5000).1 with
    | none => rw [hq] at e0; simp [addrOf] at e0
    | some g1 => rw [hq] at e0; simp [addrOf] at e0; rw [e0.1]
  have hg2 : (ρ 5000).2 = cap := by injection e0
  rw [hg2, hg1]
  have hblk : gb < w.heap.size := by
    rcases Nat.lt_or_ge gb w.heap.size with h' | h'
    · exact h'
    · rw [Array.getElem?_eq_none h'] at hg; cases hg
  have hholds : Holds (Value.int .i64) w gb 0 l.toArray := fun t ht => by
    have ht' : t < l.length := by simpa using ht
    refine ⟨?_, by simp [World.frozen?, hg]⟩
    have h5 : xs[t]? = cur[t]? := by
      rw [← hct, List.getElem?_take, if_pos ht', Array.getElem?_toList]
    simp only [World.cell?, hg, Nat.zero_add, Option.isSome_none, Bool.false_eq_true, if_false, id]
    rw [← h5, hx1 t ht']
    have : l.toArray[t]! = l.getD t 0 := by simp [getElem!_pos, ht', List.getD_eq_getElem?_getD]
    rw [this]
  have hpub : ∀ m d, PubOk M (putRow (Value.int .i64) (Sort.ahead w m) gb 0 d) := fun m d p v hpv => by
    obtain ⟨c1, c2⟩ := hp p v hpv
    have hb : p.block < w.heap.size := cell_lt c1
    have hne : p.block ≠ gb := hH.sep 5000 _ gb p v rfl rfl hg1 hpv
    refine ⟨?_, c2⟩
    rw [← c1]
    unfold World.cell?
    have : (putRow (Value.int .i64) (Sort.ahead w m) gb 0 d).heap[p.block]? = w.heap[p.block]? := by
      simp [putRow, mapBlock, Sort.ahead, Array.getElem?_modify, Ne.symm hne]
    rw [this]
  refine (Try.slices_Reverse_int gb 0 cap l w hholds (by omega)).mono fun e w' ⟨he, m, hw⟩ => ⟨_, ρ, M, he, ?_⟩
  have hbn : blkOf ρ [(5000, Ent.row 3 1 l.length (rowF iE l))] 5000 = some gb := blkOf_of (e := .row 3 1 l.length (rowF iE l)) rfl rfl hg1
  refine ⟨hden0 M, Mem.le_refl _, fun _ _ h => .inl h, hw ▸ hpub m _, ?_, ⟨fun k' e hk => ?_, fun k' k'' e e' hk hk' _ _ hne => ?_, fun k' e g' p v hk ho => ?_⟩, fun k' e g' hk ho hg => ?_, fun _ _ => rfl, fun _ => ?_⟩
  · rw [hw]
    refine ⟨rfl, rfl, rfl, by simp [putRow, mapBlock, Sort.ahead], fun q hq hne => ?_⟩
    have : gb ≠ q := fun e => hne (e ▸ blkOf_mem hbn)
    simp [putRow, mapBlock, Sort.ahead, Array.getElem?_modify, this]
  · simp only [lk_cons] at hk
    split at hk
    · rename_i e0; cases hk; subst e0
      refine ⟨(l.reverse.map (Value.int .i64)), ⟨by simp, .inr ⟨gb, cap, putCells (Value.int .i64) 0 l.reverse.toArray cur, by rw [hg1, hg2]; rfl, Nat.zero_le _, ?_, hnc, hcm, by simpa [putCells] using hcs, ?_⟩⟩, fun i hi j hj => ?_⟩
      · rw [hw]
        simp [putRow, mapBlock, Sort.ahead, Array.getElem?_modify, hg, onCells]
      · rw [Nat.mul_one]
        apply List.ext_getElem?
        intro t
        rw [List.getElem?_take, Array.getElem?_toList]
        by_cases ht : t < l.length
        · rw [if_pos ht]
          simp only [putCells, Array.getElem?_mapIdx, Array.getElem?_eq_getElem (show t < cur.size by omega), Option.map_some]
          rw [if_pos (by simp; omega)]
          simp [getElem!_pos, ht]
        · rw [if_neg ht, List.getElem?_eq_none (by simp; omega)]
      · obtain rfl : j = 0 := by omega
        refine ⟨.int .i64 (l.reverse.getD i 0), ?_, ?_, rfl⟩
        · have : i < l.reverse.length := by simpa using hi
          simp only [Nat.mul_one, Nat.add_zero, List.getElem?_map, List.getD_eq_getElem?_getD]
          rw [List.getElem?_eq_getElem this]
          rfl
        · show DenD M (.val (.int .i64 (l.reverse.getD i 0))) _
          exact .val _
    · cases hk
  · simp only [lk_cons] at hk hk'
    split at hk <;> split at hk'
    · rename_i e0 e1; exact absurd (e0.symm.trans e1) hne
    · cases hk'
    · cases hk
    · cases hk
  · simp only [lk_cons] at hk
    split at hk
    · rename_i e0; subst e0; exact hH.sep 5000 _ g' p v rfl rfl
    · cases hk
  · simp only [lk_cons] at hk
    split at hk
    · rename_i e0; subst e0; exact .inr (blkOf_of (e := .row 3 1 l.length (rowF iE l)) rfl rfl hg)
    · cases hk
  · rw [hw]; exact Nat.le_add_right _ _
def ordR (rs : List Rc) (c : ByteArray) : Bool × VS := visF rs (rs.length + 1) c (List.replicate rs.length 0, [])
def ordL (rs : List Rc) (c : ByteArray) : List Int := if (ordR rs c).1 then (ordR rs c).2.2.reverse else []
theorem order_h (rs : List Rc) (h : rcsOk rs) (c : ByteArray) (hc : c.size ≤ 1000) : HC XX 37 [.dat (rcD rs), .mp 5000, sY c] [(5000, .mp XX.P 9 3 (mkT rs rs.length))] (.tup [.dat (iD (ordL rs c)), bA (ordR rs c).1]) [(5000, .mp XX.P 9 3 (mkT rs rs.length))] none := by
  have h32 := h.1
  have hg : VG rs.length (List.replicate rs.length (0 : Int), ([] : List Int)) := ⟨by simp, fun k => .inl (by simp [List.getD_eq_getElem?_getD, List.getElem?_replicate]; split <;> rfl)⟩
  have hf : fresh (List.replicate rs.length (0 : Int)) = rs.length := by unfold fresh; rw [List.countP_replicate]; simp
  have k1 := visit_h rs h (rs.length + 1) c (List.replicate rs.length 0) [] hg (by omega) hc (by rw [hf]; simp; omega)
  have hok := visF_ok rs (rs.length + 1) c (List.replicate rs.length 0, []) hg
  have eR : visF rs (rs.length + 1) c (List.replicate rs.length 0, []) = ordR rs c := rfl
  rw [eR] at k1 hok
  have eL : ordL rs c = if (ordR rs c).1 then (ordR rs c).2.2.reverse else [] := rfl
  rw [eL]
  have o3 := hok.ord
  simp only [hf, List.length_nil] at o3
  generalize ordR rs c = R at *
  obtain ⟨b, st, od⟩ := R
  simp only at o3
  have k2 := reverse_h od (by omega)
  refine HC.of (n := Try.f37.ntmps) XX_ok Try.func37 rfl (by kernel_rfl) rfl rfl (Nat.le_of_ble_eq_true rfl) rfl rfl ?_
  (repeat' (first | refine Zs ?_ | refine Zk ?_ | ((first | refine Zas 5 ?_ | refine Zr ?_ | refine Zp ?_ | refine Ze ?_ | refine Zd ?_ | refine Zn ?_ | refine Zc ?_ | refine UnK.mk (fun b hb => ?_)); conv => whnf) | (refine Zb (fun h => ?_) (fun h => ?_) <;> first | exact Zx | (conv => whnf))))
  all_goals (conv => whnf)
  refine (W.adoptB 9 0 18 3 1 (rowF iE []) rfl rfl rfl rfl rfl rfl ?_); conv => whnf
  refine (W.weak ⟨[(2, sY c), (9, .ptr 9 0), (10, .ptr 10 0)], [(4, .blk 68 [.mp 5000]), (5000, .mp XX.P 9 3 (mkT rs rs.length)), (8, .blk 22 [.own 13 1 0 rs.length]), (13, .row 3 1 rs.length (rowF iE (List.replicate rs.length 0))), (3, .blk 36 [.dat (rcD rs)]),
    (10, .blk 70 [.clo 53 [.ptr 4 0, .ptr 8 0, .ptr 3 0, .ptr 10 0, .ptr 9 0]]), (9, .blk 22 [.own 18 1 0 0]), (18, .row 3 1 0 (rowF iE []))]⟩ ?_ ?_ ?_)
  · exact Yz
  · (repeat' (first | exact trivial | exact Yr | exact Yi (by first | rfl | omega) | exact Yo (by first | rfl | omega) | exact Yd | exact Yn | exact Ye (by first | rfl | omega) | exact ⟨_, rfl, Yf, rfl⟩ | refine ⟨_, rfl, Yb ?_, rfl⟩ | refine ⟨_, rfl, Yw (by first | rfl | omega) ?_, rfl⟩ | refine And.intro ?_ ?_))
    intro i hi j hj
    obtain rfl : j = 0 := by omega
    refine Dle.of_eq ?_
    show D.val (Value.int .i64 0) = .val (.int .i64 ((List.replicate rs.length (0 : Int)).getD i default))
    rw [List.getD_eq_getElem?_getD, List.getElem?_replicate]
    split <;> rfl
  conv => whnf
  cases b with
  | true =>
    rw [if_pos rfl]
    have e : AV.dat (iD od.reverse) = .dat (.lst 1 od.length (rowF iE od.reverse)) := by
      show AV.dat (.lst 1 od.reverse.length _) = _
      rw [List.length_reverse]
    dsimp only
    rw [e]
    (repeat' (first | refine Zs ?_ | refine Zk ?_ | ((first | refine Za ?_ | refine Zr ?_ | refine Zp ?_ | refine Ze ?_ | refine Zd ?_ | refine Zn ?_ | refine Zc ?_ | refine UnK.mk (fun b hb => ?_) | refine ExCall.h [(5000, 4), (5005, 5000), (5001, 8), (5006, 13), (5002, 3), (5003, 10), (5004, 9), (1000000, 18)] rfl k1 rfl ⟨rfl, rfl, rfl, rfl, rfl, rfl, rfl, rfl, trivial⟩ ?_ | refine ExCall.h [(5000, 18)] rfl k2 rfl ⟨rfl, trivial⟩ ?_); conv => whnf) | (refine Zb (fun h => ?_) (fun h => ?_) <;> first | exact Zx | (conv => whnf))))
    all_goals first | (exfalso; omega) | skip
    (conv => whnf); (repeat' (first | exact trivial | exact AVle.refl _ | exact EntLe.refl _ | exact AVle.int (by first | rfl | omega) | exact ResH.same (AVle.refl _) | exact ResH.same (AVle.own (by first | rfl | omega)) | exact ResH.same (AVle.int (by first | rfl | omega)) | exact ResH.same (AVle.bool (by simp only [decide_eq_true_eq, decide_eq_false_iff_not, decide_eq_decide]; first | rfl | omega)) | exact ResH.same (AVle.tt_ (by simp only [decide_eq_true_eq, decide_eq_false_iff_not, decide_eq_decide]; first | rfl | omega)) | exact ResH.same (AVle.ff_ (by simp only [decide_eq_true_eq, decide_eq_false_iff_not, decide_eq_decide]; first | rfl | omega)) | exact ResH.same (AVle.tt_ rfl) | exact ResH.same (AVle.ff_ rfl) | refine ResH.agg ?_ | exact ⟨_, rfl, EntLe.refl _, rfl⟩ | refine ⟨_, rfl, EntLe.blk ?_, rfl⟩ | refine ⟨_, rfl, EntLe.row (by first | rfl | omega) ?_, rfl⟩ | refine And.intro ?_ ?_ | ((conv => whnf); first | exact ResH.same (AVle.refl _) | exact ResH.same (AVle.own (by first | rfl | omega)) | exact ResH.same (AVle.int (by first | rfl | omega)) | exact ResH.same (AVle.bool (by simp only [decide_eq_true_eq, decide_eq_false_iff_not, decide_eq_decide]; first | rfl | omega)) | exact ResH.same (AVle.tt_ (by simp only [decide_eq_true_eq, decide_eq_false_iff_not, decide_eq_decide]; first | rfl | omega)) | exact ResH.same (AVle.ff_ (by simp only [decide_eq_true_eq, decide_eq_false_iff_not, decide_eq_decide]; first | rfl | omega)) | exact ResH.same (AVle.tt_ rfl) | exact ResH.same (AVle.ff_ rfl) | refine ResH.agg ?_)))
    all_goals (conv => whnf)
    all_goals exact ResH.row0 rfl rfl rfl
  | false =>
    rw [if_neg (by simp)]
    dsimp only
    (repeat' (first | refine Zs ?_ | refine Zk ?_ | ((first | refine Za ?_ | refine Zr ?_ | refine Zp ?_ | refine Ze ?_ | refine Zd ?_ | refine Zn ?_ | refine Zc ?_ | refine UnK.mk (fun b hb => ?_) | refine ExCall.h [(5000, 4), (5005, 5000), (5001, 8), (5006, 13), (5002, 3), (5003, 10), (5004, 9), (1000000, 18)] rfl k1 rfl ⟨rfl, rfl, rfl, rfl, rfl, rfl, rfl, rfl, trivial⟩ ?_); conv => whnf) | (refine Zb (fun h => ?_) (fun h => ?_) <;> first | exact Zx | (conv => whnf))))
    all_goals first | (exfalso; omega) | skip
    (conv => whnf); (repeat' (first | exact trivial | exact AVle.refl _ | exact EntLe.refl _ | exact AVle.int (by first | rfl | omega) | exact ResH.same (AVle.refl _) | exact ResH.same (AVle.own (by first | rfl | omega)) | exact ResH.same (AVle.int (by first | rfl | omega)) | exact ResH.same (AVle.bool (by simp only [decide_eq_true_eq, decide_eq_false_iff_not, decide_eq_decide]; first | rfl | omega)) | exact ResH.same (AVle.tt_ (by simp only [decide_eq_true_eq, decide_eq_false_iff_not, decide_eq_decide]; first | rfl | omega)) | exact ResH.same (AVle.ff_ (by simp only [decide_eq_true_eq, decide_eq_false_iff_not, decide_eq_decide]; first | rfl | omega)) | exact ResH.same (AVle.tt_ rfl) | exact ResH.same (AVle.ff_ rfl) | refine ResH.agg ?_ | exact ⟨_, rfl, EntLe.refl _, rfl⟩ | refine ⟨_, rfl, EntLe.blk ?_, rfl⟩ | refine ⟨_, rfl, EntLe.row (by first | rfl | omega) ?_, rfl⟩ | refine And.intro ?_ ?_ | ((conv => whnf); first | exact ResH.same (AVle.refl _) | exact ResH.same (AVle.own (by first | rfl | omega)) | exact ResH.same (AVle.int (by first | rfl | omega)) | exact ResH.same (AVle.bool (by simp only [decide_eq_true_eq, decide_eq_false_iff_not, decide_eq_decide]; first | rfl | omega)) | exact ResH.same (AVle.tt_ (by simp only [decide_eq_true_eq, decide_eq_false_iff_not, decide_eq_decide]; first | rfl | omega)) | exact ResH.same (AVle.ff_ (by simp only [decide_eq_true_eq, decide_eq_false_iff_not, decide_eq_decide]; first | rfl | omega)) | exact ResH.same (AVle.tt_ rfl) | exact ResH.same (AVle.ff_ rfl) | refine ResH.agg ?_)))
    all_goals (conv => whnf)
    all_goals exact ResH.same Yn
end Go.Proofs.Ytoeghejbgibioaa
