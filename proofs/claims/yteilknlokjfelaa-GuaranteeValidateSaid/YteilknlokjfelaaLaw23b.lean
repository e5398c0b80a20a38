/- The law of the sanity check of a guarantee. -/
import Derived.Test.YteilknlokjfelaaLaw23
import Derived.Test.YteilknlokjfelaaGMade
namespace Go.Proofs.Yteilknlokjfelaa
open Go.RowKit Go.Sort
set_option linter.unusedVariables false
set_option linter.unusedSimpArgs false

set_option maxRecDepth 100000 in
set_option maxHeartbeats 2000000 in
theorem lawGValidate (w : World) (B : Option Addr) (cb : Nat) (xs : List Int) (hB : Ints w w.heap.size B xs) (hn : xs.length ≤ cb) (hcb : cb ≤ maxLen) (id rf lv : Int) (A : Option Addr) (c : Nat) (us : List Rv) (hG : GuIn w A c us) (hul : us.length ≤ maxLen) (raw : Bool) :
    Calls Try.prog 3 #[.slice B xs.length cb, gv id rf lv A us.length c, .bool raw] w fun e w' => e = .returned (.bool true) ∧ Below w.heap.size w w' := by
  have HG := Lib.hid hG
  have HB := Lib.hid hB
  clear hG hB
  cases raw
  · have HM := Lib.hid fun W (hW : Below w.heap.size w W) => madeGua W B cb xs (RowsW.ext HB.out hW) hn hcb
    unfold gv at *
    go_enter Try.func3, Try.ntmps3
    go_wp2_with fail
    have hb0 : Below w.heap.size w ((w.alloc (Obj.cells #[.int .i64 id, .int .i64 rf, .int .i64 lv, .slice A us.length c] 25)).alloc (Obj.cells #[.int .i64 id, .int .i64 rf, .int .i64 lv, .slice A us.length c] 25)) := (by repeat (first | exact Below.refl _ _ | assumption | refine ext_alloc ?_ _ | refine Below.drew ?_ | refine drewN_below ?_ _ | refine ext_trans ?_ (by assumption) | refine Below.alloc ?_ ?_ _ | refine Below.setCell ?_ ?_ _ | omega | (simp <;> omega)))
    refine (HM.out _ hb0).mono ?_
    clear HG
    rintro e w1 ⟨⟨id', rf', lv', A', c', l, rfl, ho, hl⟩, hb1⟩
    have hk1 := Blk.ext (Blk.newAt (w := w.alloc (Obj.cells #[.int .i64 id, .int .i64 rf, .int .i64 lv, .slice A us.length c] 25)) (g := w.heap.size + 1) (t := 25) (cs := #[.int .i64 id, .int .i64 rf, .int .i64 lv, .slice A us.length c]) (by simp)) hb1
    have hbw := ext_trans hb0 hb1
    have x0 := hk1.cell 0
    have x1 := hk1.cell 1
    have x2 := hk1.cell 2
    have x3 := hk1.cell 3
    simp only [List.getElem?_toArray, List.getElem?_cons_zero, List.getElem?_cons_succ] at x0 x1 x2 x3
    have xf : ∀ j, w1.frozen? ⟨w.heap.size + 1, j, none⟩ = false := fun j => hk1.frozen j
    have xlt := hk1.lt
    have hk2 := (((hk1.set_ 0 (.int .i64 id')).set_ 1 (.int .i64 rf')).set_ 2 (.int .i64 lv')).set_ 3 (.slice A' l.length c')
    have ho2 := OwnR.kept ho (only_setCell (g := w.heap.size + 1) (only_setCell (g := w.heap.size + 1) (only_setCell (g := w.heap.size + 1) (only_setCell (g := w.heap.size + 1) (only_refl w1 _) (p := ⟨w.heap.size + 1, 0, none⟩) (.inl rfl) (.int .i64 id')) (p := ⟨w.heap.size + 1, 1, none⟩) (.inl rfl) (.int .i64 rf')) (p := ⟨w.heap.size + 1, 2, none⟩) (.inl rfl) (.int .i64 lv')) (p := ⟨w.heap.size + 1, 3, none⟩) (.inl rfl) (.slice A' l.length c')) (.inr (OwnR.ne ho hk1 (by decide)))
    have hg2 : GuIn ((((w1.setCell ⟨w.heap.size + 1, 0, none⟩ (.int .i64 id')).setCell ⟨w.heap.size + 1, 1, none⟩ (.int .i64 rf')).setCell ⟨w.heap.size + 1, 2, none⟩ (.int .i64 lv')).setCell ⟨w.heap.size + 1, 3, none⟩ (.slice A' l.length c')) A' c' l := by
      obtain ⟨A2, c2, hv, hg⟩ := OwnR.gua ho2
      injection hv with e1 e2 e3
      subst e1 e3
      exact hg
    have hbs : Below w.heap.size w ((((w1.setCell ⟨w.heap.size + 1, 0, none⟩ (.int .i64 id')).setCell ⟨w.heap.size + 1, 1, none⟩ (.int .i64 rf')).setCell ⟨w.heap.size + 1, 2, none⟩ (.int .i64 lv')).setCell ⟨w.heap.size + 1, 3, none⟩ (.slice A' l.length c')) := (by repeat (first | exact Below.refl _ _ | assumption | refine ext_alloc ?_ _ | refine Below.drew ?_ | refine drewN_below ?_ _ | refine ext_trans ?_ (by assumption) | refine Below.alloc ?_ ?_ _ | refine Below.setCell ?_ ?_ _ | omega | (simp <;> omega)))
    have K := Lib.hid (And.intro hk2 (And.intro hbs hg2))
    clear hk2 ho2 hg2 hbs hb1 ho hk1 hbw
    have hul2 : l.length ≤ maxLen := by unfold maxLen; omega
    go_wp2_with fail
    refine wp_name (fun W => Blk W (w.heap.size + 1) 25 #[.int .i64 id', .int .i64 rf', .int .i64 lv', .slice A' l.length c'] ∧ Below w.heap.size w W ∧ GuIn W A' c' l) K.out ?_
    clear K x0 x1 x2 x3 xf xlt
    rintro W ⟨hk, hb, hg⟩
    have x0 := hk.cell 0
    have x1 := hk.cell 1
    have x2 := hk.cell 2
    have x3 := hk.cell 3
    simp only [List.getElem?_toArray, List.getElem?_cons_zero, List.getElem?_cons_succ] at x0 x1 x2 x3
    have z0 := cell_regrown x0
    have z1 := cell_regrown x1
    have z2 := cell_regrown x2
    have z3 := cell_regrown x3
    have H1 := Lib.hid fun d os => Calls.regrown_of (guValidate_any (grow (redrawn W d) os) id' rf' lv' A' c' l (RowsW.ext hg.rd (below_regrown W d os)) hul2)
    have H2 := Lib.hid fun d os => Calls.regrown_of (rValidG_any (grow (redrawn W d) os) id' rf' lv' A' c' l (RowsW.ext hg.rd (below_regrown W d os)) hul2)
    have H3 := Lib.hid fun d os => Calls.regrown_of (guTotal_any (grow (redrawn W d) os) id' rf' lv' A' c' l (RowsW.ext hg.rd (below_regrown W d os)) hul2)
    have H4 := Lib.hid fun d os => Calls.regrown_of (rTotal_any (grow (redrawn W d) os) id' rf' lv' A' c' l (RowsW.ext hg.rd (below_regrown W d os)) hul2)
    have H5 := Lib.hid fun d os => Calls.regrown_of (awake23 (grow (redrawn W d) os))
    unfold gv at H1 H2 H3 H4
    clear x0 x1 x2 x3 hk hg
    (refine wp_region_quiet_below (by kernel_rfl) (by kernel_rfl) ?_; (repeat (first | go_big_quiet_step ((first | exact H1.out _ _ | exact H2.out _ _ | exact H3.out _ _ | exact H4.out _ _ | exact H5.out _ _)) | quiet_step ((first | exact H1.out _ _ | exact H2.out _ _ | exact H3.out _ _ | exact H4.out _ _ | exact H5.out _ _)))); refine wpQuiet_nil ?_; intro _ hwq; obtain ⟨⟨dq, osq⟩, hwq'⟩ := hwq; subst hwq')
    have hq := below_regrown W dq osq
    generalize grow (redrawn W dq) osq = W5 at *
    go_wp2_with fail
    go_ret
    exact ⟨rfl, (by repeat (first | exact Below.refl _ _ | assumption | refine ext_alloc ?_ _ | refine Below.drew ?_ | refine drewN_below ?_ _ | refine ext_trans ?_ (by assumption) | refine Below.alloc ?_ ?_ _ | refine Below.setCell ?_ ?_ _ | omega | (simp <;> omega)))⟩
  · unfold gv at *
    go_enter Try.func3, Try.ntmps3
    go_wp2_with fail
    refine wp_name (fun W => Blk W (w.heap.size + 1) 25 #[.int .i64 id, .int .i64 rf, .int .i64 lv, .slice A us.length c] ∧ Below w.heap.size w W ∧ GuIn W A c us) ⟨Blk.newAt (by simp), (by repeat (first | exact Below.refl _ _ | assumption | refine ext_alloc ?_ _ | refine Below.drew ?_ | refine drewN_below ?_ _ | refine ext_trans ?_ (by assumption) | refine Below.alloc ?_ ?_ _ | refine Below.setCell ?_ ?_ _ | omega | (simp <;> omega))), HG.out.ext (by repeat (first | exact Below.refl _ _ | assumption | refine ext_alloc ?_ _ | refine Below.drew ?_ | refine drewN_below ?_ _ | refine ext_trans ?_ (by assumption) | refine Below.alloc ?_ ?_ _ | refine Below.setCell ?_ ?_ _ | omega | (simp <;> omega)))⟩ ?_
    rintro W ⟨hk, hb, hg⟩
    have x0 := hk.cell 0
    have x1 := hk.cell 1
    have x2 := hk.cell 2
    have x3 := hk.cell 3
    simp only [List.getElem?_toArray, List.getElem?_cons_zero, List.getElem?_cons_succ] at x0 x1 x2 x3
    have z0 := cell_regrown x0
    have z1 := cell_regrown x1
    have z2 := cell_regrown x2
    have z3 := cell_regrown x3
    have H1 := Lib.hid fun d os => Calls.regrown_of (guValidate_any (grow (redrawn W d) os) id rf lv A c us (RowsW.ext hg.rd (below_regrown W d os)) hul)
    have H2 := Lib.hid fun d os => Calls.regrown_of (rValidG_any (grow (redrawn W d) os) id rf lv A c us (RowsW.ext hg.rd (below_regrown W d os)) hul)
    have H3 := Lib.hid fun d os => Calls.regrown_of (guTotal_any (grow (redrawn W d) os) id rf lv A c us (RowsW.ext hg.rd (below_regrown W d os)) hul)
    have H4 := Lib.hid fun d os => Calls.regrown_of (rTotal_any (grow (redrawn W d) os) id rf lv A c us (RowsW.ext hg.rd (below_regrown W d os)) hul)
    have H5 := Lib.hid fun d os => Calls.regrown_of (awake23 (grow (redrawn W d) os))
    unfold gv at H1 H2 H3 H4
    clear x0 x1 x2 x3 hk hg
    (refine wp_region_quiet_below (by kernel_rfl) (by kernel_rfl) ?_; (repeat (first | go_big_quiet_step ((first | exact H1.out _ _ | exact H2.out _ _ | exact H3.out _ _ | exact H4.out _ _ | exact H5.out _ _)) | quiet_step ((first | exact H1.out _ _ | exact H2.out _ _ | exact H3.out _ _ | exact H4.out _ _ | exact H5.out _ _)))); refine wpQuiet_nil ?_; intro _ hwq; obtain ⟨⟨dq, osq⟩, hwq'⟩ := hwq; subst hwq')
    have hq := below_regrown W dq osq
    generalize grow (redrawn W dq) osq = W5 at *
    go_wp2_with fail
    go_ret
    exact ⟨rfl, (by repeat (first | exact Below.refl _ _ | assumption | refine ext_alloc ?_ _ | refine Below.drew ?_ | refine drewN_below ?_ _ | refine ext_trans ?_ (by assumption) | refine Below.alloc ?_ ?_ _ | refine Below.setCell ?_ ?_ _ | omega | (simp <;> omega)))⟩

end Go.Proofs.Yteilknlokjfelaa
