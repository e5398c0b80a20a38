/- The law of Validate: raw tables, and a made table with one element replaced. -/
import Derived.Test.YtjlfllhokhekbaaLaw05a
namespace Go.Proofs.Ytjlfllhokhekbaa
open Go.RowKit Go.Sort
set_option linter.unusedVariables false

attribute [local go_sem ↓] Go.wp_at_zero Go.wp_at_succ

set_option maxRecDepth 100000 in
set_option maxHeartbeats 2000000 in
theorem lawValidate (w : World) (A : Option Addr) (c : Nat) (raw : List Ex) (A1 : Option Addr) (c1 : Nat) (xs : List Int) (at_ : Int) (by_ : Ex) (hR : Tab w w.heap.size A raw) (hn : raw.length ≤ c) (hc : c ≤ maxLen) (hx : ∀ x ∈ raw, x.c.size ≤ maxLen)
    (hA : Ints w w.heap.size A1 xs) (hn1 : xs.length ≤ c1) (hc1 : c1 ≤ maxLen) (hb : by_.c.size ≤ maxLen) :
    Calls Try.prog 3 #[.slice A raw.length c, .slice A1 xs.length c1, .int .i64 at_, by_.val] w fun e w' => e = .returned (.bool true) ∧ Below w.heap.size w w' := by
  have cut : ∃ (rs : List Ex), Tab w w.heap.size A rs ∧ (∀ x ∈ rs, x.c.size ≤ maxLen) ∧ rs.length ≤ maxLen ∧ ((1100 < raw.length ∧ rs.length = 1100) ∨ (raw.length ≤ 1100 ∧ rs.length = raw.length)) := by
    by_cases h : 1100 < raw.length
    · refine ⟨raw.take 1100, ?_, fun x h => hx x (List.mem_of_mem_take h), by simp; omega, .inl ⟨h, by simp; omega⟩⟩
      unfold Tab; rw [List.map_take]; exact RowsW.take hR 1100
    · exact ⟨raw, hR, hx, by omega, .inr ⟨by omega, rfl⟩⟩
  obtain ⟨rs, hT0, hrs, hrl, hcut⟩ := cut
  have R1 := Lib.hid fun W (h : Tab W W.heap.size A rs) cap => curValidate_any W A cap rs h hrl hrs
  have R2 := Lib.hid fun W (h : Tab W W.heap.size A rs) cap => rTable_any W A cap rs h hrl hrs
  have HT := Lib.hid fun W (h : Ints W W.heap.size A1 xs) => madeTab W A1 c1 xs h hn1 hc1
  have HA := Lib.hid (RowsW.ext hA (below_alloc_refl w (Obj.cells #[.string by_.c, .int .i64 by_.f, .int .i64 by_.p] 25)))
  have hk0 := Blk.new w 25 #[.string by_.c, .int .i64 by_.f, .int .i64 by_.p]
  have hT1 : Tab _ _ A rs := RowsW.ext hT0 (below_alloc_refl w (Obj.cells #[.string by_.c, .int .i64 by_.f, .int .i64 by_.p] 25))
  have h4 : raw.length ≤ c := hn
  have HK := Lib.hid hk0
  have HT1 := Lib.hid hT1
  unfold maxLen at hc
  have walk1 : ∃ n : Nat, rs.length = n ∧ ((1100 < raw.length ∧ n = 1100) ∨ (raw.length ≤ 1100 ∧ n = raw.length)) := ⟨_, rfl, hcut⟩
  obtain ⟨n, hn', hcut'⟩ := walk1
  rw [hn'] at R1 R2
  clear hR hx hA hT0 hcut hn hk0 hT1 hn'
  unfold Ex.val
  rcases hcut' with ⟨h1, rfl⟩ | ⟨h1, rfl⟩
  · have h2 : (1100 : Int) < raw.length := by omega
    have h3 : (1100 : Int) ≤ c := by omega
    clear h1
    go_enter Try.func3, Try.ntmps3
    go_wp2_with fail
    refine (HT.out _ HA.out).mono ?_
    rintro e w1 ⟨⟨A', c', t, rfl, hT, hl, hE, hown⟩, hb1⟩
    have hbW : Below w.heap.size w w1 := (by repeat (first | exact Below.refl _ _ | assumption | refine ext_alloc ?_ _ | refine Below.drew ?_ | refine drewN_below ?_ _ | refine ext_trans ?_ (by assumption) | refine Below.alloc ?_ ?_ _ | refine Below.setCell ?_ ?_ _ | omega | (simp <;> omega)))
    have HK1 := Lib.hid (HK.out.ext hb1)
    have HR1 := Lib.hid (RowsW.ext HT1.out hb1)
    have hml : t.length ≤ maxLen := by unfold maxLen; omega
    have hz := tab_zero t hE hl
    have V1 := Lib.hid fun W (h : Tab W W.heap.size A' t) => curValidate_any W A' c' t h hml (tab_len t hE)
    have V2 := Lib.hid fun W (h : Tab W W.heap.size A' t) => rTable_any W A' c' t h hml (tab_len t hE)
    have HL := Lib.hid (tab_len t hE)
    rw [hz] at V1 V2
    have ee : (tabE rs != tabE rs) = false := by simp
    clear hE hz
    go_wp2_with fail
    refine (R1.out _ HR1.out _).mono ?_
    rintro e w2 ⟨rfl, hb2⟩
    go_wp2_with fail
    refine (R2.out _ (RowsW.ext HR1.out hb2) _).mono ?_
    rintro e w3 ⟨rfl, hb3⟩
    have hT3 := RowsW.ext (RowsW.ext hT hb2) hb3
    go_wp2_with fail
    refine (V1.out _ hT3).mono ?_
    rintro e w4 ⟨rfl, hb4⟩
    have hT4 := RowsW.ext hT3 hb4
    have HK4 := Lib.hid (((HK1.out.ext hb2).ext hb3).ext hb4)
    have HO4 := Lib.hid (((OwnR.ext hown hb2).ext hb3).ext hb4)
    have hbW4 : Below w.heap.size w w4 := (by repeat (first | exact Below.refl _ _ | assumption | refine ext_alloc ?_ _ | refine Below.drew ?_ | refine drewN_below ?_ _ | refine ext_trans ?_ (by assumption) | refine Below.alloc ?_ ?_ _ | refine Below.setCell ?_ ?_ _ | omega | (simp <;> omega)))
    clear hown hb1 hb2 hb3 hb4 hbW HK1 HR1 HK HT1 HT HA R1 R2 hT hT3 ee
    by_cases h0 : t.length = 0
    · have e0 : ¬ (0 : Int) < t.length := by omega
      clear h0
      go_wp2_with fail
      refine (V1.out _ hT4).mono ?_
      rintro e w5 ⟨rfl, hb5⟩
      go_wp2_with fail
      refine (V2.out _ (RowsW.ext hT4 hb5)).mono ?_
      rintro e w6 ⟨rfl, hb6⟩
      go_wp2_with fail
      refine (awake5 _).mono ?_
      rintro e w7 ⟨rfl, hb7⟩
      go_wp2_with fail
      go_ret
      exact ⟨rfl, (by repeat (first | exact Below.refl _ _ | assumption | refine ext_alloc ?_ _ | refine Below.drew ?_ | refine drewN_below ?_ _ | refine ext_trans ?_ (by assumption) | refine Below.alloc ?_ ?_ _ | refine Below.setCell ?_ ?_ _ | omega | (simp <;> omega)))⟩
    · obtain ⟨g, rfl, hgB, hgl, hgf⟩ := OwnR.place HO4.out (by simp; omega)
      have hpos : (0 : Int) < (t.length : Int) := by omega
      have i0 := Int.emod_nonneg at_ (show (t.length : Int) ≠ 0 by omega)
      have i1 := Int.emod_lt_of_pos at_ hpos
      obtain ⟨i, hi⟩ : ∃ i : Nat, at_ % (t.length : Int) = i := ⟨(at_ % (t.length : Int)).toNat, by omega⟩
      rw [hi] at i0 i1
      have hi2 : i < t.length := by omega
      have HI := Lib.hid hi
      clear hi
      obtain ⟨ad, had, _, c0, c1_, c2⟩ := Tab.at_ hT4 hi2
      obtain rfl := Option.some.inj had
      rw [addr_plain] at c0 c1_ c2
      have y0 := HK4.out.cell 0
      have y1 := HK4.out.cell 1
      have y2 := HK4.out.cell 2
      simp only [List.getElem?_toArray, List.getElem?_cons_zero, List.getElem?_cons_succ] at y0 y1 y2
      have hne : w.heap.size ≠ g := by simp at hgB; omega
      have hlt9 : (t.length : Int) ≤ 4611686018427387904 := by omega
      have far : ∀ (W : World) (o o' : Nat) (u : Value), (W.setCell ⟨g, o, none⟩ u).cell? ⟨w.heap.size, o', none⟩ = W.cell? ⟨w.heap.size, o', none⟩ := fun W o o' u => World.cell?_setCell_far W _ _ u (fun e => hne e.symm)
      clear h0 had
      go_wp2_with fail
      go_region_held3 (fun w' => w'.cell? ⟨w.heap.size, 0, none⟩ = some (.string by_.c) ∧ w'.cell? ⟨w.heap.size, 1, none⟩ = some (.int .i64 by_.f) ∧ w'.cell? ⟨w.heap.size, 2, none⟩ = some (.int .i64 by_.p)) (go_keep) (first | (go_at_call 13; refine (within_same _ _ hpos hlt9 _).mono ?_; rintro e w9 ⟨rfl, rfl⟩; rw [HI.out]))
      go_wp2_with fail
      have hset : ∀ W : World, W.heap = (w4.setCells g (i * 3) by_.cells).heap → Tab W W.heap.size (some ⟨g, 0, none⟩) (t.set i by_) := by
        intro W hW
        have h5 : RowsW (w4.setCells g (i * 3) by_.cells) w4.heap.size (some ⟨g, 0, none⟩) 3 ((t.map Ex.cells).set i by_.cells) := RowsW.set_ hT4 (by simp [Ex.cells]) (by simpa using hi2) rfl
        rw [← List.map_set] at h5
        have h6 : RowsW W w4.heap.size (some ⟨g, 0, none⟩) 3 ((t.set i by_).map Ex.cells) := h5.keep (fun p _ => by simp [World.cell?, hW])
        refine h6.more ?_
        rw [hW]
        simp [World.setCells, Ex.cells, World.setCell]
      refine calls_name (fun W => Tab W W.heap.size (some ⟨g, 0, none⟩) (t.set i by_) ∧ Below w.heap.size w W) ⟨hset _ (by rfl), ?_⟩ ?_
      · have := hgB
        simp at this
        exact Below.drew ((((hbW4.setCell (by show _ ≤ g; omega) _).setCell (by show _ ≤ g; omega) _).setCell (by show _ ≤ g; omega) _))
      rintro W7 ⟨hT7, hbW7⟩
      have hyl : ∀ x ∈ t.set i by_, x.c.size ≤ maxLen := by
        intro x hx
        rcases List.mem_or_eq_of_mem_set hx with h | h
        · exact HL.out x h
        · rw [h]; exact hb
      have hye : (t.set i by_).length = t.length := by simp
      have U1 := Lib.hid fun W (h : Tab W W.heap.size (some ⟨g, 0, none⟩) (t.set i by_)) => curValidate_any W (some ⟨g, 0, none⟩) c' (t.set i by_) h (by rw [hye]; exact hml) hyl
      have U2 := Lib.hid fun W (h : Tab W W.heap.size (some ⟨g, 0, none⟩) (t.set i by_)) => rTable_any W (some ⟨g, 0, none⟩) c' (t.set i by_) h (by rw [hye]; exact hml) hyl
      rw [hye] at U1 U2
      clear hset hyl hye c0 c1_ c2 y0 y1 y2 far hgf hT4
      generalize t.set i by_ = ys at *
      have ee : (tabE ys == tabE ys) = true := by simp
      refine (U1.out _ hT7).mono ?_
      rintro e w8 ⟨rfl, hb8⟩
      go_wp2_with fail
      refine (U2.out _ (RowsW.ext hT7 hb8)).mono ?_
      rintro e w9 ⟨rfl, hb9⟩
      go_wp2_with fail
      refine (awake5 _).mono ?_
      rintro e w10 ⟨rfl, hb10⟩
      go_wp2_with fail
      go_ret
      exact ⟨rfl, (by repeat (first | exact Below.refl _ _ | assumption | refine ext_alloc ?_ _ | refine Below.drew ?_ | refine drewN_below ?_ _ | refine ext_trans ?_ (by assumption) | refine Below.alloc ?_ ?_ _ | refine Below.setCell ?_ ?_ _ | omega | (simp <;> omega)))⟩
  · have h2 : ¬ (1100 : Int) < raw.length := by omega
    clear h1
    go_enter Try.func3, Try.ntmps3
    go_wp2_with fail
    refine (HT.out _ HA.out).mono ?_
    rintro e w1 ⟨⟨A', c', t, rfl, hT, hl, hE, hown⟩, hb1⟩
    have hbW : Below w.heap.size w w1 := (by repeat (first | exact Below.refl _ _ | assumption | refine ext_alloc ?_ _ | refine Below.drew ?_ | refine drewN_below ?_ _ | refine ext_trans ?_ (by assumption) | refine Below.alloc ?_ ?_ _ | refine Below.setCell ?_ ?_ _ | omega | (simp <;> omega)))
    have HK1 := Lib.hid (HK.out.ext hb1)
    have HR1 := Lib.hid (RowsW.ext HT1.out hb1)
    have hml : t.length ≤ maxLen := by unfold maxLen; omega
    have hz := tab_zero t hE hl
    have V1 := Lib.hid fun W (h : Tab W W.heap.size A' t) => curValidate_any W A' c' t h hml (tab_len t hE)
    have V2 := Lib.hid fun W (h : Tab W W.heap.size A' t) => rTable_any W A' c' t h hml (tab_len t hE)
    have HL := Lib.hid (tab_len t hE)
    rw [hz] at V1 V2
    have ee : (tabE rs != tabE rs) = false := by simp
    clear hE hz
    go_wp2_with fail
    refine (R1.out _ HR1.out _).mono ?_
    rintro e w2 ⟨rfl, hb2⟩
    go_wp2_with fail
    refine (R2.out _ (RowsW.ext HR1.out hb2) _).mono ?_
    rintro e w3 ⟨rfl, hb3⟩
    have hT3 := RowsW.ext (RowsW.ext hT hb2) hb3
    go_wp2_with fail
    refine (V1.out _ hT3).mono ?_
    rintro e w4 ⟨rfl, hb4⟩
    have hT4 := RowsW.ext hT3 hb4
    have HK4 := Lib.hid (((HK1.out.ext hb2).ext hb3).ext hb4)
    have HO4 := Lib.hid (((OwnR.ext hown hb2).ext hb3).ext hb4)
    have hbW4 : Below w.heap.size w w4 := (by repeat (first | exact Below.refl _ _ | assumption | refine ext_alloc ?_ _ | refine Below.drew ?_ | refine drewN_below ?_ _ | refine ext_trans ?_ (by assumption) | refine Below.alloc ?_ ?_ _ | refine Below.setCell ?_ ?_ _ | omega | (simp <;> omega)))
    clear hown hb1 hb2 hb3 hb4 hbW HK1 HR1 HK HT1 HT HA R1 R2 hT hT3 ee
    by_cases h0 : t.length = 0
    · have e0 : ¬ (0 : Int) < t.length := by omega
      clear h0
      go_wp2_with fail
      refine (V1.out _ hT4).mono ?_
      rintro e w5 ⟨rfl, hb5⟩
      go_wp2_with fail
      refine (V2.out _ (RowsW.ext hT4 hb5)).mono ?_
      rintro e w6 ⟨rfl, hb6⟩
      go_wp2_with fail
      refine (awake5 _).mono ?_
      rintro e w7 ⟨rfl, hb7⟩
      go_wp2_with fail
      go_ret
      exact ⟨rfl, (by repeat (first | exact Below.refl _ _ | assumption | refine ext_alloc ?_ _ | refine Below.drew ?_ | refine drewN_below ?_ _ | refine ext_trans ?_ (by assumption) | refine Below.alloc ?_ ?_ _ | refine Below.setCell ?_ ?_ _ | omega | (simp <;> omega)))⟩
    · obtain ⟨g, rfl, hgB, hgl, hgf⟩ := OwnR.place HO4.out (by simp; omega)
      have hpos : (0 : Int) < (t.length : Int) := by omega
      have i0 := Int.emod_nonneg at_ (show (t.length : Int) ≠ 0 by omega)
      have i1 := Int.emod_lt_of_pos at_ hpos
      obtain ⟨i, hi⟩ : ∃ i : Nat, at_ % (t.length : Int) = i := ⟨(at_ % (t.length : Int)).toNat, by omega⟩
      rw [hi] at i0 i1
      have hi2 : i < t.length := by omega
      have HI := Lib.hid hi
      clear hi
      obtain ⟨ad, had, _, c0, c1_, c2⟩ := Tab.at_ hT4 hi2
      obtain rfl := Option.some.inj had
      rw [addr_plain] at c0 c1_ c2
      have y0 := HK4.out.cell 0
      have y1 := HK4.out.cell 1
      have y2 := HK4.out.cell 2
      simp only [List.getElem?_toArray, List.getElem?_cons_zero, List.getElem?_cons_succ] at y0 y1 y2
      have hne : w.heap.size ≠ g := by simp at hgB; omega
      have hlt9 : (t.length : Int) ≤ 4611686018427387904 := by omega
      have far : ∀ (W : World) (o o' : Nat) (u : Value), (W.setCell ⟨g, o, none⟩ u).cell? ⟨w.heap.size, o', none⟩ = W.cell? ⟨w.heap.size, o', none⟩ := fun W o o' u => World.cell?_setCell_far W _ _ u (fun e => hne e.symm)
      clear h0 had
      go_wp2_with fail
      go_region_held3 (fun w' => w'.cell? ⟨w.heap.size, 0, none⟩ = some (.string by_.c) ∧ w'.cell? ⟨w.heap.size, 1, none⟩ = some (.int .i64 by_.f) ∧ w'.cell? ⟨w.heap.size, 2, none⟩ = some (.int .i64 by_.p)) (go_keep) (first | (go_at_call 13; refine (within_same _ _ hpos hlt9 _).mono ?_; rintro e w9 ⟨rfl, rfl⟩; rw [HI.out]))
      go_wp2_with fail
      have hset : ∀ W : World, W.heap = (w4.setCells g (i * 3) by_.cells).heap → Tab W W.heap.size (some ⟨g, 0, none⟩) (t.set i by_) := by
        intro W hW
        have h5 : RowsW (w4.setCells g (i * 3) by_.cells) w4.heap.size (some ⟨g, 0, none⟩) 3 ((t.map Ex.cells).set i by_.cells) := RowsW.set_ hT4 (by simp [Ex.cells]) (by simpa using hi2) rfl
        rw [← List.map_set] at h5
        have h6 : RowsW W w4.heap.size (some ⟨g, 0, none⟩) 3 ((t.set i by_).map Ex.cells) := h5.keep (fun p _ => by simp [World.cell?, hW])
        refine h6.more ?_
        rw [hW]
        simp [World.setCells, Ex.cells, World.setCell]
      refine calls_name (fun W => Tab W W.heap.size (some ⟨g, 0, none⟩) (t.set i by_) ∧ Below w.heap.size w W) ⟨hset _ (by rfl), ?_⟩ ?_
      · have := hgB
        simp at this
        exact Below.drew ((((hbW4.setCell (by show _ ≤ g; omega) _).setCell (by show _ ≤ g; omega) _).setCell (by show _ ≤ g; omega) _))
      rintro W7 ⟨hT7, hbW7⟩
      have hyl : ∀ x ∈ t.set i by_, x.c.size ≤ maxLen := by
        intro x hx
        rcases List.mem_or_eq_of_mem_set hx with h | h
        · exact HL.out x h
        · rw [h]; exact hb
      have hye : (t.set i by_).length = t.length := by simp
      have U1 := Lib.hid fun W (h : Tab W W.heap.size (some ⟨g, 0, none⟩) (t.set i by_)) => curValidate_any W (some ⟨g, 0, none⟩) c' (t.set i by_) h (by rw [hye]; exact hml) hyl
      have U2 := Lib.hid fun W (h : Tab W W.heap.size (some ⟨g, 0, none⟩) (t.set i by_)) => rTable_any W (some ⟨g, 0, none⟩) c' (t.set i by_) h (by rw [hye]; exact hml) hyl
      rw [hye] at U1 U2
      clear hset hyl hye c0 c1_ c2 y0 y1 y2 far hgf hT4
      generalize t.set i by_ = ys at *
      have ee : (tabE ys == tabE ys) = true := by simp
      refine (U1.out _ hT7).mono ?_
      rintro e w8 ⟨rfl, hb8⟩
      go_wp2_with fail
      refine (U2.out _ (RowsW.ext hT7 hb8)).mono ?_
      rintro e w9 ⟨rfl, hb9⟩
      go_wp2_with fail
      refine (awake5 _).mono ?_
      rintro e w10 ⟨rfl, hb10⟩
      go_wp2_with fail
      go_ret
      exact ⟨rfl, (by repeat (first | exact Below.refl _ _ | assumption | refine ext_alloc ?_ _ | refine Below.drew ?_ | refine drewN_below ?_ _ | refine ext_trans ?_ (by assumption) | refine Below.alloc ?_ ?_ _ | refine Below.setCell ?_ ?_ _ | omega | (simp <;> omega)))⟩

end Go.Proofs.Ytjlfllhokhekbaa
