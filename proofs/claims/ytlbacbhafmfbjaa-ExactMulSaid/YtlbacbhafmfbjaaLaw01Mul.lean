/- The law of the product. -/
import Derived.Test.YtlbacbhafmfbjaaLaw01
import Derived.Test.YtlbacbhafmfbjaaRegion
import Derived.Lib.QuietBelow
namespace Go.Proofs.Ytlbacbhafmfbjaa
open Go.RowKit Go.Sort
set_option linter.unusedVariables false

theorem addV_ok (a b c : Nat) (ha : a < 18446744073709551616) (hbc : b + c < 18446744073709551616) :
    addV ((a * b / 18446744073709551616 : Nat) : Int) ((a * b % 18446744073709551616 : Nat) : Int) ((a * c / 18446744073709551616 : Nat) : Int) ((a * c % 18446744073709551616 : Nat) : Int) =
      .tuple #[.agg #[.int .u64 ((a * (b + c) / 18446744073709551616 : Nat) : Int), .int .u64 ((a * (b + c) % 18446744073709551616 : Nat) : Int)], .int .i64 0] := by
  have h : a * (b + c) / 18446744073709551616 < 18446744073709551616 := mul_lt_128 a (b + c) ha hbc
  have e := Nat.mul_add a b c
  generalize a * (b + c) = z at *
  generalize a * b = x at *
  generalize a * c = y at *
  unfold addV
  rw [if_pos (by omega)]
  rw [show ((x / 18446744073709551616 : Nat) : Int) + ((y / 18446744073709551616 : Nat) : Int) + (((x % 18446744073709551616 : Nat) : Int) + ((y % 18446744073709551616 : Nat) : Int)) / 18446744073709551616 = ((z / 18446744073709551616 : Nat) : Int) by omega,
    show (((x % 18446744073709551616 : Nat) : Int) + ((y % 18446744073709551616 : Nat) : Int)) % 18446744073709551616 = ((z % 18446744073709551616 : Nat) : Int) by omega]

set_option maxHeartbeats 1000000 in
theorem lawMul (a b c : Nat) (ha : a < 18446744073709551616) (hb : b < 18446744073709551616) (hc : c < 18446744073709551616) (w : World) :
    Calls Try.prog 6 #[.int .u64 a, .int .u64 b, .int .u64 c] w fun e w' => e = .returned (.bool true) ∧ Below w.heap.size w w' := by
  have h1 := exMul_any a b ha hb
  have h2 := rMul_any a b ha hb
  have h3 := exMul_any b a hb ha
  rw [Nat.mul_comm b a] at h3
  have hsum : b + c < 18446744073709551616 → ∃ H2 L2 H3 L3 : Nat,
      (∀ w, Calls Try.prog 16 #[.int .u64 a, .int .u64 c] w fun e w' => e = .returned (.agg #[.int .u64 (H2 : Nat), .int .u64 (L2 : Nat)]) ∧ Below w.heap.size w w') ∧
      (∀ w, Calls Try.prog 19 #[.agg #[.int .u64 ((a * b / 18446744073709551616 : Nat) : Int), .int .u64 ((a * b % 18446744073709551616 : Nat) : Int)], .agg #[.int .u64 (H2 : Nat), .int .u64 (L2 : Nat)]] w fun e w' =>
        e = .returned (.tuple #[.agg #[.int .u64 (H3 : Nat), .int .u64 (L3 : Nat)], .int .i64 0]) ∧ Below w.heap.size w w') ∧
      (∀ w, Calls Try.prog 16 #[.int .u64 a, .int .u64 ((b : Int) + c)] w fun e w' => e = .returned (.agg #[.int .u64 (H3 : Nat), .int .u64 (L3 : Nat)]) ∧ Below w.heap.size w w') := by
    intro hbc
    refine ⟨a * c / 18446744073709551616, a * c % 18446744073709551616, a * (b + c) / 18446744073709551616, a * (b + c) % 18446744073709551616, exMul_any a c ha hc, ?_, ?_⟩
    · intro w
      have := mul_lt_128 a b ha hb
      have := mul_lt_128 a c ha hc
      have h4 := exAdd_any ((a * b / 18446744073709551616 : Nat) : Int) ((a * b % 18446744073709551616 : Nat) : Int) ((a * c / 18446744073709551616 : Nat) : Int) ((a * c % 18446744073709551616 : Nat) : Int) (by omega) (by omega) (by omega) (by omega) (by omega) (by omega) (by omega) (by omega) w
      rw [addV_ok a b c ha hbc] at h4
      exact h4
    · have h5 := exMul_any a (b + c) ha hbc
      rw [Int.natCast_add] at h5
      exact h5
  generalize a * b / 18446744073709551616 = H at *
  generalize a * b % 18446744073709551616 = L at *
  have H1 := Lib.hid h1
  have HS := Lib.hid hsum
  clear h1 hsum
  go_enter Try.func6, Try.ntmps6
  go_wp2_with fail
  refine (H1.out _).mono ?_
  rintro e w1 ⟨rfl, hb1⟩
  go_wp2_with fail
  have k0 := Blk.new w1 27 #[Value.int .u64 H, Value.int .u64 L]
  obtain ⟨W, hW⟩ : ∃ W, w1.alloc (Obj.cells #[Value.int .u64 H, Value.int .u64 L] 27) = W := ⟨_, rfl⟩
  have hbW : Below w.heap.size w W := by rw [← hW]; exact (by repeat (first | exact Below.refl _ _ | assumption | refine ext_alloc ?_ _ | refine Below.drew ?_ | refine drewN_below ?_ _ | refine ext_trans ?_ (by assumption) | refine Below.alloc ?_ ?_ _ | refine Below.setCell ?_ ?_ _ | omega | (simp <;> omega)))
  rw [hW] at k0 ⊢
  clear hW hb1
  have y0 := k0.cell 0
  have y1 := k0.cell 1
  simp only [List.getElem?_toArray, List.getElem?_cons_zero, List.getElem?_cons_succ] at y0 y1
  have z0 := cell_regrown y0
  have z1 := cell_regrown y1
  have C2 := Lib.hid fun d os => Calls.regrown_of (h2 (grow (redrawn W d) os))
  have C3 := Lib.hid fun d os => Calls.regrown_of (h3 (grow (redrawn W d) os))
  have C4 := Lib.hid fun d os => Calls.regrown_of (same_any H L H L (grow (redrawn W d) os) rfl rfl)
  clear h2 h3 y0 y1
  (refine wp_region_quiet_below (by kernel_rfl) (by kernel_rfl) ?_; (repeat (first | go_big_quiet_step ((first | exact C2.out _ _ | exact C3.out _ _ | exact C4.out _ _)) | quiet_step ((first | exact C2.out _ _ | exact C3.out _ _ | exact C4.out _ _)))); refine wpQuiet_nil ?_; intro _ hwq; obtain ⟨⟨dq, osq⟩, hwq'⟩ := hwq; subst hwq')
  have hq := below_regrown W dq osq
  generalize grow (redrawn W dq) osq = W2 at *
  have k1 := k0.ext hq
  have hbW2 := ext_trans hbW hq
  clear z0 z1 C2 C3 C4 hq k0 hbW
  by_cases hbc : b + c < 18446744073709551616
  · obtain ⟨H2, L2, H3, L3, g1, g2, g3⟩ := HS.out hbc
    have G1 := Lib.hid g1
    have G2 := Lib.hid g2
    have G3 := Lib.hid g3
    clear g1 g2 g3
    have n1 : ¬ (b : Int) + c < b := by omega
    have y0 := k1.cell 0
    have y1 := k1.cell 1
    simp only [List.getElem?_toArray, List.getElem?_cons_zero, List.getElem?_cons_succ] at y0 y1
    go_wp2_with fail
    have hst : ∀ p ∈ ([IsV (.agg #[.int .u64 H, .int .u64 L]), IsV (.int .u64 a), IsV (.int .u64 c), IsV (.agg #[.int .u64 H2, .int .u64 L2]),
      IsV (.tuple #[.agg #[.int .u64 H3, .int .u64 L3], .int .i64 0]), IsV (.tuple #[.agg #[.int .u64 H3, .int .u64 L3], .int .i64 0]), IsV (.agg #[.int .u64 H3, .int .u64 L3]), IsV (.int .i64 0),
      NewB W2.heap.size 27 (fun f => if f 9 then #[.int .u64 H3, .int .u64 L3] else #[.int .u64 0, .int .u64 0])] : List Spec), Stab p := by simp [stab_isV, stab_newB]
    have hbl : ∀ i, i ≠ 9 → ∀ p ∈ ([IsV (.agg #[.int .u64 H, .int .u64 L]), IsV (.int .u64 a), IsV (.int .u64 c), IsV (.agg #[.int .u64 H2, .int .u64 L2]),
      IsV (.tuple #[.agg #[.int .u64 H3, .int .u64 L3], .int .i64 0]), IsV (.tuple #[.agg #[.int .u64 H3, .int .u64 L3], .int .i64 0]), IsV (.agg #[.int .u64 H3, .int .u64 L3]), IsV (.int .i64 0),
      NewB W2.heap.size 27 (fun f => if f 9 then #[.int .u64 H3, .int .u64 L3] else #[.int .u64 0, .int .u64 0])] : List Spec), Blind p i := by
      intro i hi
      simp only [List.mem_cons, List.not_mem_nil, or_false, forall_eq_or_imp, forall_eq, blind_isV, true_and]
      exact blind_newB _ _ _ _ (fun f g h => by rw [h 9 (Ne.symm hi)])
    revert hst hbl
    generalize hsp : ([IsV (.agg #[.int .u64 H, .int .u64 L]), IsV (.int .u64 a), IsV (.int .u64 c), IsV (.agg #[.int .u64 H2, .int .u64 L2]),
      IsV (.tuple #[.agg #[.int .u64 H3, .int .u64 L3], .int .i64 0]), IsV (.tuple #[.agg #[.int .u64 H3, .int .u64 L3], .int .i64 0]), IsV (.agg #[.int .u64 H3, .int .u64 L3]), IsV (.int .i64 0),
      NewB W2.heap.size 27 (fun f => if f 9 then #[.int .u64 H3, .int .u64 L3] else #[.int .u64 0, .int .u64 0])] : List Spec) = specs
    intro hst hbl
    refine wp_region_mix 10 (by kernel_rfl) (by kernel_rfl) (specV specs) (bound_of (by kernel_rfl)) ?_ ?_
    · intro i o hi ho
      match i, hi, ho with
      | 0, hi, ho =>
        obtain rfl := Option.some.inj ho
        refine runs_below hst (hbl _ (by decide)) hi (by decide) ?_
        intro f b w1 vs hb1 hdf hoth hun hcl hdep
        subst hsp
        have f7 := hoth 7 (noDst (by kernel_rfl))
        have q0 := (k1.ext hb1).cell 0
        have q1 := (k1.ext hb1).cell 1
        simp at q0 q1
        simp at f7
        clear HS ho hoth hdep hcl
        simp [Region.wanted, go_sem, IsV, Oper.upon, f7, Below.refl, q0, q1]
      | 1, hi, ho =>
        obtain rfl := Option.some.inj ho
        refine runs_below hst (hbl _ (by decide)) hi (by decide) ?_
        intro f b w1 vs hb1 hdf hoth hun hcl hdep
        subst hsp
        have f0 := hoth 0 (noDst (by kernel_rfl))
        simp at f0
        clear HS ho hoth hdep hcl
        simp [Region.wanted, go_sem, IsV, Oper.upon, f0, Below.refl]
      | 2, hi, ho =>
        obtain rfl := Option.some.inj ho
        refine runs_below hst (hbl _ (by decide)) hi (by decide) ?_
        intro f b w1 vs hb1 hdf hoth hun hcl hdep
        subst hsp
        have f2 := hoth 2 (noDst (by kernel_rfl))
        simp at f2
        clear HS ho hoth hdep hcl
        simp [Region.wanted, go_sem, IsV, Oper.upon, f2, Below.refl]
      | 3, hi, ho =>
        obtain rfl := Option.some.inj ho
        refine runs_below hst (hbl _ (by decide)) hi (by decide) ?_
        intro f b w1 vs hb1 hdf hoth hun hcl hdep
        subst hsp
        have d34 : b.tmps.getD 34 undef = .int .u64 a := have z := hdep 1 _ 34 (by decide) rfl rfl (waits_of (by kernel_rfl)); z.1.trans z.2
        have d35 : b.tmps.getD 35 undef = .int .u64 c := have z := hdep 2 _ 35 (by decide) rfl rfl (waits_of (by kernel_rfl)); z.1.trans z.2
        simp at d34 d35
        clear HS ho hoth hdep hcl
        simp [Region.wanted, go_sem, IsV, Oper.upon, d34, d35]
        refine (G1.out _).mono ?_
        rintro e w2 ⟨rfl, hb2⟩
        exact ⟨rfl, hb2⟩
      | 4, hi, ho =>
        obtain rfl := Option.some.inj ho
        refine runs_below hst (hbl _ (by decide)) hi (by decide) ?_
        intro f b w1 vs hb1 hdf hoth hun hcl hdep
        subst hsp
        have d33 : b.tmps.getD 33 undef = .agg #[.int .u64 H, .int .u64 L] := have z := hdep 0 _ 33 (by decide) rfl rfl (waits_of (by kernel_rfl)); z.1.trans z.2
        have d36 : b.tmps.getD 36 undef = .agg #[.int .u64 H2, .int .u64 L2] := have z := hdep 3 _ 36 (by decide) rfl rfl (waits_of (by kernel_rfl)); z.1.trans z.2
        simp at d33 d36
        clear HS ho hoth hdep hcl
        simp [Region.wanted, go_sem, IsV, Oper.upon, d33, d36]
        refine (G2.out _).mono ?_
        rintro e w2 ⟨rfl, hb2⟩
        exact ⟨rfl, hb2⟩
      | 5, hi, ho =>
        obtain rfl := Option.some.inj ho
        refine runs_below hst (hbl _ (by decide)) hi (by decide) ?_
        intro f b w1 vs hb1 hdf hoth hun hcl hdep
        subst hsp
        have d37 : b.tmps.getD 37 undef = .tuple #[.agg #[.int .u64 H3, .int .u64 L3], .int .i64 0] := have z := hdep 4 _ 37 (by decide) rfl rfl (waits_of (by kernel_rfl)); z.1.trans z.2
        simp at d37
        clear HS ho hoth hdep hcl
        simp [Region.wanted, go_sem, IsV, Oper.upon, d37, Below.refl]
      | 6, hi, ho =>
        obtain rfl := Option.some.inj ho
        refine runs_below hst (hbl _ (by decide)) hi (by decide) ?_
        intro f b w1 vs hb1 hdf hoth hun hcl hdep
        subst hsp
        have d32 : b.tmps.getD 32 undef = .tuple #[.agg #[.int .u64 H3, .int .u64 L3], .int .i64 0] := have z := hdep 5 _ 32 (by decide) rfl rfl (waits_of (by kernel_rfl)); z.1.trans z.2
        simp at d32
        clear HS ho hoth hdep hcl
        simp [Region.wanted, go_sem, IsV, Oper.upon, d32, Below.refl]
      | 7, hi, ho =>
        obtain rfl := Option.some.inj ho
        refine runs_below hst (hbl _ (by decide)) hi (by decide) ?_
        intro f b w1 vs hb1 hdf hoth hun hcl hdep
        subst hsp
        have d32 : b.tmps.getD 32 undef = .tuple #[.agg #[.int .u64 H3, .int .u64 L3], .int .i64 0] := have z := hdep 5 _ 32 (by decide) rfl rfl (waits_of (by kernel_rfl)); z.1.trans z.2
        simp at d32
        clear HS ho hoth hdep hcl
        simp [Region.wanted, go_sem, IsV, Oper.upon, d32, Below.refl]
      | 8, hi, ho =>
        obtain rfl := Option.some.inj ho
        refine runs_below hst (hbl _ (by decide)) hi (by decide) ?_
        intro f b w1 vs hb1 hdf hoth hun hcl hdep
        subst hsp
        have h9 : f 9 = false := Bool.eq_false_iff.2 fun h => by have := hcl 9 _ 8 rfl h (waits_of (by kernel_rfl)); rw [hun] at this; cases this
        simp [Region.wanted, go_sem, Oper.upon]
        exact ⟨_, rfl, below_alloc_refl _ _, w1.heap.size, rfl, hb1.size, by show Blk _ _ _ (if f 9 = true then _ else _); rw [h9]; exact Blk.new _ _ _⟩
      | 9, hi, ho =>
        obtain rfl := Option.some.inj ho
        intro listed b w1 vs hb1 hdf hsz hun hoth hw hcl hslots hvs
        subst hsp
        have l6 := hw 6 (waits_of (by kernel_rfl))
        have l8 := hw 8 (waits_of (by kernel_rfl))
        have d8 : b.tmps.getD 8 undef = vs 8 := hslots 8 _ 8 (by decide) rfl rfl l8
        have d38 : b.tmps.getD 38 undef = .agg #[.int .u64 H3, .int .u64 L3] := (hslots 6 _ 38 (by decide) rfl rfl l6).trans (hvs 6 (by decide) l6)
        obtain ⟨g, hg, hgB, hgk⟩ := hvs 8 (by decide) l8
        rw [hg] at d8
        simp only [hun] at hgk
        have q0 := hgk.cell 0
        have q1 := hgk.cell 1
        simp at q0 q1 d8 d38
        have q2 := hgk.frozen 0
        have q3 := hgk.frozen 1
        clear HS ho
        simp [Region.wanted, go_sem, Oper.upon, d8, d38, q0, q1, q2, q3]
        refine ⟨(hb1.setCell hgB _).setCell hgB _, ⟨undef, trivial⟩, ?_⟩
        intro j hj hj9 hlj
        have hlj' : listed.getD j false = true := by simpa using hlj
        have hv := hvs j hj hlj'
        match j, hj, hj9, hv with
        | 0, _, _, hv => exact hv
        | 1, _, _, hv => exact hv
        | 2, _, _, hv => exact hv
        | 3, _, _, hv => exact hv
        | 4, _, _, hv => exact hv
        | 5, _, _, hv => exact hv
        | 6, _, _, hv => exact hv
        | 7, _, _, hv => exact hv
        | 8, _, _, _ =>
          refine ⟨g, hg, hgB, ?_⟩
          have h9 : (listed.setIfInBounds 9 true).getD 9 false = true := by have : 9 < listed.size := by rw [hsz]; decide
                                                                            simp [this]
          show Blk _ _ _ (if (listed.setIfInBounds 9 true).getD 9 false = true then _ else _)
          rw [h9]
          exact (hgk.set_ 0 _).set_ 1 _
        | n + 10, h, _, _ => exact absurd h (by omega)
      | n + 10, hi, _ => exact absurd hi (by omega)
    · intro vs w3 hb3 hvs
      subst hsp
      have e0 : vs 0 = _ := hvs 0 (by decide)
      have e1 : vs 1 = _ := hvs 1 (by decide)
      have e2 : vs 2 = _ := hvs 2 (by decide)
      have e3 : vs 3 = _ := hvs 3 (by decide)
      have e4 : vs 4 = _ := hvs 4 (by decide)
      have e5 : vs 5 = _ := hvs 5 (by decide)
      have e6 : vs 6 = _ := hvs 6 (by decide)
      have e7 : vs 7 = _ := hvs 7 (by decide)
      obtain ⟨g, e8, hgB, hgk⟩ := hvs 8 (by decide)
      have hgk' : Blk w3 g 27 #[.int .u64 H3, .int .u64 L3] := by
        change Blk _ _ _ (if (headL 10 _).getD 9 false = true then _ else _) at hgk
        rw [headL_lt (by decide) (by decide)] at hgk
        exact hgk
      clear hvs hgk HS
      simp [putAll, wpList, go_sem, Act.put, e0, e1, e2, e3, e4, e5, e6, e7, e8]
      refine .inl (‹∀ (a : Act) (w : World), Code.wp _ _ _ a w → _› _ _ ?_)
      have hb4 := ext_trans hbW2 hb3
      have y0 := hgk'.cell 0
      have y1 := hgk'.cell 1
      simp only [List.getElem?_toArray, List.getElem?_cons_zero, List.getElem?_cons_succ] at y0 y1
      have z0 := cell_regrown y0
      have z1 := cell_regrown y1
      have C2 := Lib.hid fun d os => Calls.regrown_of (G3.out (grow (redrawn w3 d) os))
      have C4 := Lib.hid fun d os => Calls.regrown_of (awake_any (grow (redrawn w3 d) os))
      clear y0 y1
      go_wp2_with fail
      (refine wp_region_quiet_below (by kernel_rfl) (by kernel_rfl) ?_; (repeat (first | go_big_quiet_step ((first | exact C2.out _ _ | exact C4.out _ _)) | quiet_step ((first | exact C2.out _ _ | exact C4.out _ _)))); refine wpQuiet_nil ?_; intro _ hwq; obtain ⟨⟨dq, osq⟩, hwq'⟩ := hwq; subst hwq')
      have hq := below_regrown w3 dq osq
      go_wp2_with fail
      go_ret
      exact ⟨rfl, (by repeat (first | exact Below.refl _ _ | assumption | refine ext_alloc ?_ _ | refine Below.drew ?_ | refine drewN_below ?_ _ | refine ext_trans ?_ (by assumption) | refine Below.alloc ?_ ?_ _ | refine Below.setCell ?_ ?_ _ | omega | (simp <;> omega)))⟩
  · have e1 : IntKind.u64.wrap ((b : Int) + (c : Int)) = ((b + c - 18446744073709551616 : Nat) : Int) := by rw [IntKind.wrap_u64]; omega
    have n1 : ((b + c - 18446744073709551616 : Nat) : Int) < (b : Int) := by omega
    generalize b + c - 18446744073709551616 = s at *
    go_wp2_with fail
    refine (awake_any _).mono ?_
    rintro e w3 ⟨rfl, hb3⟩
    go_wp2_with fail
    go_ret
    exact ⟨rfl, (by repeat (first | exact Below.refl _ _ | assumption | refine ext_alloc ?_ _ | refine Below.drew ?_ | refine drewN_below ?_ _ | refine ext_trans ?_ (by assumption) | refine Below.alloc ?_ ?_ _ | refine Below.setCell ?_ ?_ _ | omega | (simp <;> omega)))⟩

end Go.Proofs.Ytlbacbhafmfbjaa
