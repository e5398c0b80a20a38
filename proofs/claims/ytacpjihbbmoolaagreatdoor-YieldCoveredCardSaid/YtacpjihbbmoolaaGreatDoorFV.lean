/- Sorting a slice of a named type: what slices.SortFunc's own helper does, for the walk by descriptions. yield's stock: sorted by ID, without some lots. -/
import Derived.Test.YtacpjihbbmoolaaGreatDoorVt
import Derived.Test.YtacpjihbbmoolaaGreatDoorLays
import Derived.Shelf.SlSortCmp.PdqK
import Derived.Test.YtacpjihbbmoolaaGreatDoorB5

namespace Go.Proofs.YtacpjihbbmoolaaGreatDoor
open Go Go.RowKit Go.Sort Go.Lib Go.Shelf
set_option linter.unusedVariables false
set_option linter.unusedSimpArgs false
set_option maxRecDepth 100000
set_option maxHeartbeats 4000000

theorem sort_p {X : Cx} {f g : FuncId} {E k n : Nat} {F : Nat → Nat → D} {cf : Nat → Nat → Int} {cc : List AV} (hcc : AV.pure.pureL cc = true) (hfn : FnOk X.P f)
    (hall : ∀ (enc : Nat → List Value) (cfx : Nat → Nat → Int) (cb : Array Value) (gb cap : Nat) (d : Array Nat) (w : World), (∀ x, (enc x).length = k) → (∀ x, ∀ v ∈ enc x, v.oneCell' = true) → SWO (ltOf cfx) → CmpLays X.P g cb enc k cfx gb 0 d.size w → HoldsK enc k w gb 0 d → gb < w.heap.size → d.size < 4611686018427387904 →
      Calls X.P f #[.slice (some ⟨gb, 0, none⟩) d.size cap, .func (.func g) #[] cb] w fun e w' => e = .returned (.tuple #[]) ∧ ∃ n os, w' = sortWorldK enc k w gb 0 n (pdq (ltOf cfx) d 0 d.size (Lib.bitLen d.size) true true) os)
    (hO : SWO (ltOf cf)) (hn1 : 0 < n) (hn : n < 4611686018427387904) (hk0 : 0 < k)
    (hcmp : ∀ i j, i < n → j < n → ACalls { X with dr := true } g ([elemF F k i, elemF F k j] ++ cc) (.dat (.val (.int .i64 (cf i j))))) :
    HC X f [.own 5000 k 0 n, .clo g cc] [(5000, .row E k n F)] (.tup []) [(5000, .row E k n fun i => F (sortAt n cf i))] none := by
  refine ⟨hfn, fun M w ρ vs hgl hp hlen ha hH => ?_⟩
  obtain ⟨v0, v1, rfl⟩ : ∃ v0 v1, vs = [v0, v1] := by
    match vs, hlen with
    | [a, b], _ => exact ⟨a, b, rfl⟩
  have h0 := own_of (ha 0 _ v0 rfl rfl)
  have h1 := ha 1 _ v1 rfl rfl
  rw [partOf_zero, Nat.sub_zero] at h0
  subst h0
  obtain ⟨cv, rfl, hcvl, hcd⟩ : ∃ cv : List Value, v1 = .func (.func g) #[] cv.toArray ∧ cc.length = cv.length ∧ ∀ (i : Nat) (c : AV) (v : Value), cc[i]? = some c → cv[i]? = some v → DenA ρ M c v := by
    cases h1 with
    | clo _ _ vs hl hh => exact ⟨vs, rfl, hl, hh⟩
  have hcp : ∀ (i : Nat) (c : AV) (v : Value), cc[i]? = some c → cv[i]? = some v → DenP M c v := fun i c v h1 h2 => AV.pure_den (hcd i c v h1 h2) (AV.pureL_at hcc i c h1)
  have hrow := hH.ents 5000 _ rfl
  obtain ⟨xs, hown, hx⟩ := hrow
  have hden0 : ∀ M', DenA ρ M' (.tup []) (.tuple #[]) := fun M' => .tup [] [] rfl fun i c v h => by simp at h
  have hn0 : n ≠ 0 := by omega
  obtain ⟨hl, ⟨e0, e1⟩|⟨gb, cap, cur, e0, _, hg, hnc, hcm, hcs, hct⟩⟩ := hown
  · exact absurd e1 hn0
  have hg1 : (ρ 5000).1 = some gb := by
    cases hq : (ρ 5000).1 with
    | none => rw [hq] at e0; simp [addrOf] at e0
    | some g1 => rw [hq] at e0; simp [addrOf] at e0; rw [e0.1]
  have hg2 : (ρ 5000).2 = cap := by injection e0
  rw [hg2, hg1]
  have hblk : gb < w.heap.size := by
    rcases Nat.lt_or_ge gb w.heap.size with h'|h'
    · exact h'
    · rw [Array.getElem?_eq_none h'] at hg; cases hg
  obtain ⟨enc, henc⟩ : ∃ enc : Nat → List Value, enc = fun i => (List.range k).map fun j => xs.getD (clampN n i * k + j) undef := ⟨_, rfl⟩
  have hek : ∀ x, (enc x).length = k := fun x => by rw [henc]; simp
  have hcl : ∀ i j, i < n → j < k → i * k + j < n * k := fun i j hi hj => by
    have := Nat.mul_le_mul_right k (show i + 1 ≤ n from hi)
    rw [Nat.add_mul, Nat.one_mul] at this; omega
  have hget : ∀ x j, j < k → (enc x)[j]? = xs[clampN n x * k + j]? := fun x j hj => by
    rw [henc]
    simp only [List.getElem?_map, List.getElem?_range hj, Option.map_some, List.getD_eq_getElem?_getD]
    rw [List.getElem?_eq_getElem (by rw [hl]; exact hcl _ _ (clampN_lt hn1) hj)]
    rfl
  have hone : ∀ x, ∀ v ∈ enc x, v.oneCell' = true := fun x v hv => by
    obtain ⟨j, hj⟩ := List.mem_iff_getElem?.1 hv
    have hj' : j < k := by rw [← hek x]; exact (List.getElem?_eq_some_iff.1 hj).1
    rw [hget x j hj'] at hj
    obtain ⟨u, hu, _, h3⟩ := hx _ (clampN_lt hn1 (i := x)) j hj'
    rw [hu] at hj; cases hj; exact h3
  have hholds : HoldsK enc k w gb 0 (Array.range n) := fun t ht => by
    rw [size_flatK, Array.size_range] at ht
    refine ⟨?_, by simp [World.frozen?, hg]⟩
    rw [get_flatK _ _ _ _ (by rw [Array.size_range]; exact ht)]
    have h1 : t / k < n := Nat.div_lt_of_lt_mul (by rw [Nat.mul_comm]; exact ht)
    have h2 : t % k < k := Nat.mod_lt _ hk0
    have h3 : (Array.range n)[t / k]! = t / k := by simp [getElem!_pos, h1]
    have h4 := hget (t / k) (t % k) h2
    rw [clampN_of h1, Nat.div_add_mod' t k] at h4
    have h5 : xs[t]? = cur[t]? := by
      rw [← hct, List.getElem?_take, if_pos ht, Array.getElem?_toList]
    have h6 : t < xs.length := by omega
    rw [h3]
    simp only [World.cell?, hg, Nat.zero_add, Option.isSome_none, Bool.false_eq_true, if_false, id]
    rw [← h5, ← h4, List.getElem!_eq_getElem?_getD]
    rw [h4, List.getElem?_eq_getElem h6]
    rfl
  have hpub : ∀ m os (dk : Array Nat), PubOk M (sortWorldK enc k w gb 0 m dk os) := fun m os dk p v hpv => by
    obtain ⟨c1, c2⟩ := hp p v hpv
    have hb : p.block < w.heap.size := cell_lt c1
    have hne : p.block ≠ gb := hH.sep 5000 _ gb p v rfl rfl hg1 hpv
    refine ⟨?_, c2⟩
    unfold sortWorldK
    rw [cell?_grow _ _ _ (by rw [size_putRowK]; exact hb), cell?_putRowK_other _ _ _ _ _ _ _ hne]
    exact c1
  have hcl' : CmpLays X.P g cv.toArray enc k (cfN n cf) gb 0 (Array.range n).size w := fun m os dk hs x y => by
    have hc := (hcmp (clampN n x) (clampN n y) (clampN_lt hn1) (clampN_lt hn1)).out M (sortWorldK enc k w gb 0 m dk os) ([Value.agg (enc x).toArray, Value.agg (enc y).toArray] ++ cv) hgl (hpub m os dk) (by simp [hcvl]) (fun i c v hc hv => ?_)
    · have hca : ([Value.agg (enc x).toArray, Value.agg (enc y).toArray] ++ cv).toArray = #[Value.agg (enc x).toArray, Value.agg (enc y).toArray] ++ cv.toArray := by simp
      rw [hca] at hc
      refine hc.mono fun e w' ⟨v, M', he, hd, _, _, _, hb, hdr⟩ => ?_
      obtain rfl := val_of (hd fun _ => (none, 0))
      exact ⟨he, grow_of hb (hdr rfl)⟩
    · have hel : ∀ x, DenP M (elemF F k (clampN n x)) (.agg (enc x).toArray) := fun x ρ' => by
        refine .agg _ _ (by rw [hek]; simp) fun j c v hc hv => ?_
        have hj : j < k := by rw [← hek x]; exact (List.getElem?_eq_some_iff.1 hv).1
        rw [List.getElem?_map, List.getElem?_range hj] at hc
        cases hc
        rw [hget x j hj] at hv
        obtain ⟨u, hu, h2, _⟩ := hx _ (clampN_lt hn1 (i := x)) j hj
        rw [hu] at hv; cases hv
        exact .dat h2
      match i, hc, hv with
      | 0, hc, hv => cases hc; cases hv; exact hel x
      | 1, hc, hv => cases hc; cases hv; exact hel y
      | i + 2, hc, hv => exact hcp i c v (by simpa using hc) (by simpa using hv)
  have hcon := hall enc (cfN n cf) cv.toArray gb cap (Array.range n) w hek hone (cfN_swo hO) hcl' hholds hblk (by rw [Array.size_range]; exact hn)
  rw [Array.size_range] at hcon
  refine hcon.mono fun e w' ⟨he, m, os, hw⟩ => ⟨_, ρ, M, he, ?_⟩
  have hw : w' = sortWorldK enc k w gb 0 m (sortIx n cf) os := hw
  have hbn : blkOf ρ [(5000, Ent.row E k n F)] 5000 = some gb := blkOf_of (e := .row E k n F) rfl rfl hg1
  refine ⟨hden0 M, Mem.le_refl _, fun _ _ h => .inl h, hw ▸ hpub m os _, ?_, ⟨fun k' e hk => ?_, fun k' k'' e e' hk hk' _ _ hne => ?_, fun k' e g' p v hk ho => ?_⟩, fun k' e g' hk ho hg => ?_, fun _ _ => rfl, fun _ => ?_⟩
  · rw [hw]
    refine ⟨rfl, rfl, rfl, size_sortWorldK_c enc k w gb 0 m _ os, fun q hq hne => ?_⟩
    unfold sortWorldK
    rw [heap_grow_old _ _ (by rw [size_putRowK]; exact hq)]
    have : gb ≠ q := fun e => hne (e ▸ blkOf_mem hbn)
    simp [putRowK, putRow, mapBlock, Sort.ahead, Array.getElem?_modify, this]
  · simp only [lk_cons] at hk
    split at hk
    · rename_i e0; cases hk; subst e0
      refine ⟨(flatK enc k (sortIx n cf)).toList, ⟨by simp [sortIx_size hO], .inr ⟨gb, cap, putCells id 0 (flatK enc k (sortIx n cf)) cur, by rw [hg1, hg2]; rfl, Nat.zero_le _, ?_, hnc, hcm, by simpa [putCells] using hcs, ?_⟩⟩, fun i hi j hj => ?_⟩
      · rw [hw]
        unfold sortWorldK
        rw [heap_grow_old _ _ (by rw [size_putRowK]; exact hblk)]
        simp [putRowK, putRow, mapBlock, Sort.ahead, Array.getElem?_modify, hg, onCells]
      · have hnk : n * k ≤ cap * k := Nat.mul_le_mul_right k hnc
        apply List.ext_getElem?
        intro t
        rw [List.getElem?_take, Array.getElem?_toList, Array.getElem?_toList]
        by_cases ht : t < n * k
        · rw [if_pos ht]
          simp only [putCells, Array.getElem?_mapIdx, Array.getElem?_eq_getElem (show t < cur.size by omega), Option.map_some]
          rw [if_pos (by simp [sortIx_size hO]; omega), Array.getElem?_eq_getElem (by simp [sortIx_size hO]; omega)]
          simp [getElem!_pos, sortIx_size hO, ht]
        · rw [if_neg ht, Array.getElem?_eq_none (by simp [sortIx_size hO]; omega)]
      · have hs := sortAt_lt hO hi
        obtain ⟨u, hu, h2, h3⟩ := hx _ hs j hj
        refine ⟨u, ?_, h2, h3⟩
        have hlt := hcl i j hi hj
        rw [Array.getElem?_toList, Array.getElem?_eq_getElem (by simp [sortIx_size hO]; exact hlt)]
        have h5 := get_flatK enc k (sortIx n cf) (i * k + j) (by rw [sortIx_size hO]; exact hlt)
        rw [getElem!_pos _ _ (by simp [sortIx_size hO]; exact hlt)] at h5
        rw [h5, (blk_iff k i _ hk0).1 ⟨by omega, by omega⟩, show (i * k + j) % k = j by rw [Nat.mul_comm, Nat.mul_add_mod, Nat.mod_eq_of_lt hj]]
        have h6 := hget (sortAt n cf i) j hj
        rw [clampN_of hs, hu] at h6
        show some ((enc (sortAt n cf i))[j]!) = some u
        rw [List.getElem!_eq_getElem?_getD, h6]; rfl
    · cases hk
  · simp only [lk_cons] at hk hk'
    split at hk <;> split at hk'
    · rename_i e0 e1; exact absurd (e0.symm.trans e1) hne
    · cases hk'
    · cases hk
    · cases hk
  · simp only [lk_cons] at hk
    split at hk
    · rename_i e0; subst e0; exact hH.sep 5000 _ g' p v rfl rfl
    · cases hk
  · simp only [lk_cons] at hk
    split at hk
    · rename_i e0; subst e0; exact .inr (blkOf_of (e := .row E k n F) rfl rfl hg)
    · cases hk
  · rw [hw]; exact Nat.le_add_right _ _

theorem stk_all (k g : Nat) (hk : ∀ w, (Go.sizeOf 45).run Tryz.prog w = .ok k w) (hg : ∀ args w, (callFunc g args).run Tryz.prog w = .ok (.enter g args) w) (enc : Nat → List Value) (cfx : Nat → Nat → Int) (cb : Array Value) (gb cap : Nat) (d : Array Nat) (w : World) (hek : ∀ x, (enc x).length = k) (h1 : ∀ x, ∀ v ∈ enc x, v.oneCell' = true) (hO : SWO (ltOf cfx)) (hcmp : CmpLays Tryz.prog g cb enc k cfx gb 0 d.size w) (hH : HoldsK enc k w gb 0 d) (hblk : gb < w.heap.size) (hsz : d.size < 4611686018427387904) :
    Calls Tryz.prog 68 #[.slice (some ⟨gb, 0, none⟩) d.size cap, .func (.func g) #[] cb] w fun e w' => e = .returned (.tuple #[]) ∧ ∃ n os, w' = sortWorldK enc k w gb 0 n (pdq (ltOf cfx) d 0 d.size (Lib.bitLen d.size) true true) os := by
  have hlim : Lib.bitLen d.size < 4611686018427387904 := Nat.lt_of_le_of_lt (Lib.bitLen_le d.size 62 (by omega) (by omega)) (by omega)
  have hp := AnyQ.pdqsortCmpFunc_all Tryz.pdq103 k Tryz.isAgg45 hk enc cfx g cb hO gb 0 cap d w hg hcmp ⟨hek, h1, hH, hblk⟩ (d.size + 1) 0 d.size (Lib.bitLen d.size) d w (by omega) rfl (SWK.start hH) (Nat.zero_le _) (Nat.le_refl _) hsz hlim (Or.inl rfl)
  have hl : Calls Tryz.prog 104 #[.int .u64 (d.size : Int)] w fun e w' => e = .returned (.int .i64 (Lib.bitLen d.size : Nat)) ∧ w' = w := by
    have h := Any.bits_Len (SlLaysF0.n15.bits Tryz.len104) (d.size : Int) w (by omega) (by omega)
    rwa [Int.toNat_natCast] at h
  have wr : IntKind.u64.wrap (d.size : Int) = d.size := by simp [IntKind.wrap, IntKind.bits, IntKind.signed]; omega
  clear hH hcmp h1
  go_enter Tryz.func68, Tryz.ntmps68
  go_wp2_with (first|(go_at_call 104; refine hl.mono ?_; rintro e w' ⟨rfl, rfl⟩)|(go_at_call 103; refine hp.mono ?_; rintro e w' ⟨rfl, n, os, rfl⟩))
  go_end0
  exact ⟨rfl, n, os, rfl⟩
end Go.Proofs.YtacpjihbbmoolaaGreatDoor

namespace Go.Proofs.YtacpjihbbmoolaaGreatDoor
open Go Go.RowKit
set_option linter.unusedVariables false
set_option linter.unusedSimpArgs false
set_option maxRecDepth 100000
set_option maxHeartbeats 4000000
attribute [local irreducible] ResLe AVle ArgLe ArgP EntLe Dle ResH ArgQ

theorem ysort1_d (x y : Lt) : ACalls XD 69 [ltA x, ltA y] (iA (cmpI x.id y.id)) := by
  refine ACalls.of (n := Tryz.f69.ntmps) XD_ok Tryz.func69 rfl (by kernel_rfl) rfl rfl (Nat.le_of_ble_eq_true rfl) ?_
  (repeat' (first|((first|refine Zg ?_|refine Zn ?_|refine Zc ?_|refine Zu fun b hb=>?_|refine Zy (cmp_d _ _) ?_);conv=>whnf)|(refine Zb ?_ ?_<;>(intro h;first|exact Zx|conv=>whnf))))
  all_goals exact Zrz
theorem ysortI_h (us : List Lt) (hn1 : 0 < us.length) (hn : us.length ≤ 100000) :
    HC XX 68 [.own 5000 5 0 us.length, .dat (.val (.func (.func 69) #[] #[]))] [(5000, .row 45 5 us.length (rowF ltE us))] (.tup []) [(5000, .row 45 5 us.length fun i j => rowF ltE us (sortAt us.length (cfI us) i) j)] none :=
  (sort_p (X := XX) (cf := cfI us) (F := rowF ltE us) (cc := []) rfl ⟨_, Tryz.func68, rfl, rfl⟩
      (fun enc cfx cb gb cap d w hek h1 hO hc hh hb hs => stk_all 5 _ Tryz.sizeOf45 (enters_of Tryz.func69 (by kernel_rfl) rfl) enc cfx cb gb cap d w hek h1 hO hc hh hb hs)
      (cfI_swo us) (by omega) (by omega) (by omega) (fun i j hi hj => ysort1_d (us.getD i default) (us.getD j default))).argsLe ⟨AVle.refl _, AVle.clo0 _, trivial⟩
theorem sortLt_at (us : List Lt) {i : Nat} (hi : i < us.length) : (sortLt us).getD i default = us.getD (sortAt us.length (cfI us) i) default := by
  unfold sortLt
  rw [List.getD_eq_getElem?_getD, List.getElem?_map, List.getElem?_range hi]
  rfl
theorem sorted_h (us : List Lt) (hn1 : 0 < us.length) (hn : us.length ≤ 100000) :
    HC XX 33 [.own 5000 5 0 us.length] [(5000, .row 45 5 us.length (rowF ltE us))] (.own 5000 5 0 us.length) [(5000, .row 45 5 us.length (rowF ltE (sortLt us)))] none := by
  have hs := ysortI_h us hn1 hn
  refine HC.of (n := Tryz.f33.ntmps) XX_ok Tryz.func33 rfl (by kernel_rfl) rfl rfl (Nat.le_of_ble_eq_true rfl) rfl rfl ?_
  (repeat' (first|((first|refine Zg ?_|refine Zn ?_|refine Zc ?_|refine Zu fun b hb=>?_|refine ExCall.h [(5000, 5000)] rfl hs rfl ⟨rfl, trivial⟩ ?_);conv=>whnf)|(refine Zb ?_ ?_<;>(intro h;first|exact Zx|conv=>whnf))))
  all_goals (conv=>whnf); (repeat' (first|exact Zhq|refine ResH.agg ?_|refine ⟨_, rfl, EntLe.blk ?_, rfl⟩|refine ⟨_, rfl, EntLe.row (by first|rfl|omega) ?_, rfl⟩|refine And.intro ?_ ?_|((conv=>whnf); first|exact Zhq|refine ResH.agg ?_)))
  all_goals refine fun i hi j hj => ?_
  all_goals have e := sortLt_at us hi
  all_goals unfold rowF
  all_goals rw [e]
  all_goals exact Dle.refl _
theorem without_h (ss : List Lt) (ids : List Int) (hS : ss.length ≤ 1000) (hI : ids.length ≤ 1000000) (hU : ∀ x ∈ ss, x.us.length ≤ 1000000) :
    HC XX 32 [.dat (ltD ss), .dat (iD ids)] [] (.own 27 5 0 (keepI ss ids).length) [(27, .row 45 5 (keepI ss ids).length (rowF ltE (keepI ss ids)))] (some 27) := by
  have hk0 : keepI (ss.take 0) ids = [] := rfl
  refine HC.of (n := Tryz.f32.ntmps) XX_ok Tryz.func32 rfl (by kernel_rfl) rfl rfl (Nat.le_of_ble_eq_true rfl) rfl rfl ?_
  (repeat' (first|((first|refine Zg ?_|refine Zn ?_|refine Zc ?_|refine Zu fun b hb=>?_);conv=>whnf)|(refine Zb ?_ ?_<;>(intro h;first|exact Zx|conv=>whnf))))
  refine (W.adopt 5 27 45 5 (rowF ltE []) rfl rfl rfl rfl ?_)
  conv => whnf
  refine (W.loopK (ι := Nat) [1, 8, 9] [] (fun k => [(10, iA k), (5, .own 27 5 0 (keepI (ss.take k) ids).length)]) (fun k => [(27, .row 45 5 (keepI (ss.take k) ids).length (rowF ltE (keepI (ss.take k) ids)))]) (fun k => k ≤ ss.length) (fun k => ss.length - k) 0 (Nat.zero_le _) ?_ ?_ ?_)
  · exact Yz
  · exact Yz
  conv => whnf
  intro k hk
  have hb := keep_len (ss.take k) ids
  have hb2 : (ss.take k).length ≤ ss.length := List.length_take_le' ..
  by_cases hk' : k < ss.length
  · have hs := keep_snoc ss ids k hk'
    have hc := contains_t ids (ss.getD k default).id hI
    have hd := clone_t (ss.getD k default).us (hU _ (getD_in hk'))
    (repeat' (first|((first|refine Zg ?_|refine Zn ?_|refine Zc ?_|refine Zu fun b hb=>?_);conv=>whnf)|(refine Zb ?_ ?_<;>(intro h;first|exact Zx|conv=>whnf))))
    all_goals (try dsimp only [Int.toNat_natCast] at *)
    (repeat' (first|((first|refine Zg ?_|refine Zn ?_|refine Zc ?_|refine Zu fun b hb=>?_|refine Zy hc ?_|refine Zy hd ?_);conv=>whnf)|(refine Zb ?_ ?_<;>(intro h;first|exact Zx|conv=>whnf))))
    · have hp : (ss.getD k default).id ∉ ids := by simp_all
      rw [if_neg hp] at hs
      refine ⟨k + 1, by omega, by omega, ?_, ?_, ?_, ?_⟩
      all_goals (repeat' (first|exact Yq|exact Yi (by first|rfl|(rw [hs]; simp; done)|omega)|exact Yo (by first|rfl|(rw [hs]; simp; done)|omega)|exact Ye (by first|rfl|(rw [hs]; simp; done)|omega)|refine ⟨_, rfl, Yb ?_, rfl⟩|refine ⟨_, rfl, Yw (by first|rfl|(rw [hs]; simp; done)|omega) ?_, rfl⟩|refine And.intro ?_ ?_))
      rw [hs]
      refine rowF_snoc rfl fun j hj => ?_
      rcases j with _|_|_|_|_|j
      all_goals first|exact Dle.refl _|omega
    · have hp : (ss.getD k default).id ∈ ids := by simp_all
      rw [if_pos hp] at hs
      refine ⟨k + 1, by omega, by omega, ?_, ?_, ?_, ?_⟩
      all_goals (repeat' (first|exact Yq|exact Yi (by first|rfl|(rw [hs]; done)|omega)|exact Yo (by first|rfl|(rw [hs]; done)|omega)|exact Ye (by first|rfl|(rw [hs]; done)|omega)|refine ⟨_, rfl, Yb ?_, rfl⟩|refine ⟨_, rfl, Yw (by first|rfl|(rw [hs]; done)|omega) ?_, rfl⟩|refine And.intro ?_ ?_))
      rw [hs]
      exact fun _ _ _ _ => Dle.refl _
  · obtain rfl : k = ss.length := by omega
    rw [List.take_length] at *
    (repeat' (first|((first|refine Zg ?_|refine Zn ?_|refine Zc ?_|refine Zu fun b hb=>?_);conv=>whnf)|(refine Zb ?_ ?_<;>(intro h;first|exact Zx|conv=>whnf))))
    all_goals (conv=>whnf); (repeat' (first|exact Zhq|refine ResH.agg ?_|refine ⟨_, rfl, EntLe.blk ?_, rfl⟩|refine ⟨_, rfl, EntLe.row (by first|rfl|omega) ?_, rfl⟩|refine And.intro ?_ ?_|((conv=>whnf); first|exact Zhq|refine ResH.agg ?_)))
end Go.Proofs.YtacpjihbbmoolaaGreatDoor
