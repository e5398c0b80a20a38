/- The reference's table. -/
import Derived.Test.YtjlfllhokhekbaaCur1
namespace Go.Proofs.Ytjlfllhokhekbaa
open Go.RowKit Go.Sort
set_option linter.unusedVariables false

theorem less_irr : ∀ a : List UInt8, Op.bytesLess a a = false
  | [] => rfl
  | c :: l => by simp [Op.bytesLess, less_irr l, UInt8.lt_irrefl]
theorem less_tri : ∀ a b : List UInt8, a ≠ b → Op.bytesLess a b = !Op.bytesLess b a
  | [], [], h => absurd rfl h
  | [], _ :: _, _ => rfl
  | _ :: _, [], _ => rfl
  | x :: l, y :: m, h => by
    simp only [Op.bytesLess]
    by_cases e : x = y
    · subst e
      have h' : l ≠ m := fun e => h (by rw [e])
      simp [UInt8.lt_irrefl, less_tri l m h']
    · have e' : (x == y) = false := by simpa using e
      have e'' : (y == x) = false := by simpa using fun h => e h.symm
      simp only [e', e'', Bool.false_and, Bool.or_false]
      have : x < y ↔ ¬ y < x := by
        rw [UInt8.lt_iff_toNat_lt, UInt8.lt_iff_toNat_lt]
        have hne : x.toNat ≠ y.toNat := fun h => e (UInt8.toNat_inj.1 h)
        omega
      by_cases h1 : x < y <;> simp [h1] <;> simp [this] at h1 <;> simpa using h1

theorem bef_eq (x y : Ex) (h : x.c.toList = y.c.toList) : befB y x = !decide (x.f ≤ y.f) := by
  unfold befB; rw [if_pos h.symm]
  by_cases h1 : y.f < x.f
  · simp [h1]
  · simp [h1]; omega
theorem bef_ne (x y : Ex) (h : ¬ x.c.toList = y.c.toList) : befB y x = !Op.bytesLess x.c.toList y.c.toList := by
  unfold befB; rw [if_neg (fun e => h e.symm)]
  exact less_tri _ _ (fun e => h e.symm)

set_option maxHeartbeats 400000 in
theorem rDay_any (n : Int) (w : World) : Calls Try.prog 28 #[.int .i64 n] w fun e w' => e = .returned (.bool (decide (0 ≤ n) && decide (n ≤ 36524))) ∧ w = w' := by
  by_cases h : 0 ≤ n
  · have HV : Hid ((decide (0 ≤ n) && decide (n ≤ 36524)) = decide (n ≤ 36524)) := by show (_ && _) = _; simp [h]
    rw [HV.out]
    go_enter Try.func28, Try.ntmps28
    go_wp2
    go_ret
    exact ⟨rfl, rfl⟩
  · have HV : Hid ((decide (0 ≤ n) && decide (n ≤ 36524)) = false) := by show (_ && _) = false; simp [h]
    rw [HV.out]
    go_enter Try.func28, Try.ntmps28
    go_wp2
    go_ret
    exact ⟨rfl, rfl⟩

set_option maxHeartbeats 1000000 in
theorem rTable_any (w : World) (A : Option Addr) (cap : Nat) (xs : List Ex) (hA : Tab w w.heap.size A xs) (hn : xs.length ≤ maxLen) (hs : ∀ x ∈ xs, x.c.size ≤ maxLen) :
    Calls Try.prog 12 #[.slice A xs.length cap] w fun e w' => e = .returned (.int .i64 (tabE xs)) ∧ Below w.heap.size w w' := by
  unfold maxLen at hn
  by_cases h1 : 1000 < xs.length
  · have HV : Hid (tabE xs = 8) := if_pos h1
    go_enter Try.func12, Try.ntmps12
    go_wp2
    go_ret
    exact ⟨by rw [HV.out]; rfl, (by repeat (first | exact Below.refl _ _ | assumption | refine ext_alloc ?_ _ | refine Below.drew ?_ | refine drewN_below ?_ _ | refine ext_trans ?_ (by assumption) | refine Below.alloc ?_ ?_ _ | refine Below.setCell ?_ ?_ _ | omega | (simp <;> omega)))⟩
  · have HV : Hid (tabE xs = firstE (exErr xs) 0 xs.length) := if_neg h1
    rw [HV.out]
    have hd : decide ((1000 : Int) < xs.length) = false := by simp; omega
    go_enter Try.func12, Try.ntmps12
    go_wp2
    go_loopw [2, 3, 4] (fun r k p wr => ∃ j : Nat, j ≤ xs.length ∧ k = .int .i64 j ∧ Hid (∀ q, q < j → exErr xs q = 0) ∧ Below w.heap.size w wr) (fun _ k _ _ => xs.length - (intOf k).toNat)
    case atStart => exact ⟨0, by omega, rfl, Lib.hid (fun _ h => absurd h (by omega)), Below.refl _ _⟩
    case round =>
      obtain ⟨j, hj, rfl, HL, hbl⟩ := hrel
      by_cases hlt : j < xs.length
      · obtain ⟨ad, hA', hB, c0, c1, c2⟩ := Tab.at_ (RowsW.below hA hbl) hlt
        have hsz := hs xs[j] (List.getElem_mem _)
        have hx : Hid (xs[j]? = some xs[j]) := Lib.hid (by simp [hlt])
        have hsw := hbl.size
        have hprev : 0 < j → ∃ y : Ex, xs[j - 1]? = some y ∧ (ad.add ((j - 1) * 3)).block < w.heap.size ∧ wr.cell? (ad.add ((j - 1) * 3)) = some (.string y.c) ∧ wr.cell? ⟨(ad.add ((j - 1) * 3)).block, (ad.add ((j - 1) * 3)).off + 1, none⟩ = some (.int .i64 y.f) ∧
            wr.cell? ⟨(ad.add ((j - 1) * 3)).block, (ad.add ((j - 1) * 3)).off + 2, none⟩ = some (.int .i64 y.p) := by
          intro h0
          obtain ⟨ad', hA2, r1, r2, r3, r4⟩ := Tab.at_ (RowsW.below hA hbl) (k := j - 1) (by omega)
          rw [hA'] at hA2
          obtain rfl := Option.some.inj hA2
          exact ⟨xs[j - 1], by rw [List.getElem?_eq_getElem], r1, r2, r3, r4⟩
        have HP := Lib.hid hprev
        clear hprev
        subst hA'
        generalize xs[j] = x at *
        cases hc : tabB x.c
        · have HN2 := Lib.hid (exErr_0 xs x j hx.out hc)
          have HN := Lib.hid (firstE_at (exErr xs) _ j hlt HL.out (by rw [HN2.out]; decide))
          go_wp2_with fail
          refine (rCurrency_any _ hsz _).mono ?_
          rintro e w1 ⟨rfl, rfl⟩
          go_wp2_with fail
          go_ret
          exact ⟨by rw [HN.out, HN2.out]; rfl, (by repeat (first | exact Below.refl _ _ | assumption | refine ext_alloc ?_ _ | refine Below.drew ?_ | refine drewN_below ?_ _ | refine ext_trans ?_ (by assumption) | refine Below.alloc ?_ ?_ _ | refine Below.setCell ?_ ?_ _ | omega | (simp <;> omega)))⟩
        · by_cases hr : x.f < 0 ∨ 36524 < x.f ∨ x.p < 1 ∨ 1000000000 < x.p
          · have HN2 := Lib.hid (exErr_1 xs x j hx.out hc hr)
            have HN := Lib.hid (firstE_at (exErr xs) _ j hlt HL.out (by rw [HN2.out]; decide))
            go_wp2_with fail
            refine (rCurrency_any _ hsz _).mono ?_
            rintro e w1 ⟨rfl, rfl⟩
            go_wp2_with fail
            refine (rDay_any _ _).mono ?_
            rintro e w1 ⟨rfl, rfl⟩
            go_wp2_with fail
            all_goals
              go_ret
              exact ⟨by rw [HN.out, HN2.out]; rfl, (by repeat (first | exact Below.refl _ _ | assumption | refine ext_alloc ?_ _ | refine Below.drew ?_ | refine drewN_below ?_ _ | refine ext_trans ?_ (by assumption) | refine Below.alloc ?_ ?_ _ | refine Below.setCell ?_ ?_ _ | omega | (simp <;> omega)))⟩
          · obtain ⟨r1, r2, r3, r4⟩ : 0 ≤ x.f ∧ x.f ≤ 36524 ∧ 1 ≤ x.p ∧ x.p ≤ 1000000000 := by omega
            by_cases h0 : j = 0
            · subst h0
              have HN2 := Lib.hid (exErr_2 xs x hx.out hc hr)
              rw [Nat.zero_mul, addr_add_zero] at c0 c1 c2 hB
              clear hr
              go_wp2_with fail
              refine (rCurrency_any _ hsz _).mono ?_
              rintro e w1 ⟨rfl, rfl⟩
              go_wp2_with fail
              refine (rDay_any _ _).mono ?_
              rintro e w1 ⟨rfl, rfl⟩
              go_wp2_with fail
              go_quiet (fail)
              go_wp2_with fail
              go_roundw
              case rel => exact ⟨1, by omega, by go_num, Lib.hid (fun q hq => by obtain rfl : q = 0 := by omega
                                                                                 exact HN2.out), drewN_below (by repeat (first | exact Below.refl _ _ | assumption | refine ext_alloc ?_ _ | refine Below.drew ?_ | refine drewN_below ?_ _ | refine ext_trans ?_ (by assumption) | refine Below.alloc ?_ ?_ _ | refine Below.setCell ?_ ?_ _ | omega | (simp <;> omega))) _⟩
              case measure => simp [intOf]; omega
            · obtain ⟨i, rfl⟩ : ∃ i, j = i + 1 := ⟨j - 1, by omega⟩
              obtain ⟨y, hy, s0, s1, s2, s3⟩ := HP.out (by omega)
              rw [Nat.add_sub_cancel] at hy s0 s1 s2 s3
              have hy' := Lib.hid hy
              have hj0 : (0 : Int) < (i : Int) + 1 := by omega
              have HN2 := Lib.hid (exErr_3 xs x y i hx.out hy'.out hc hr)
              clear hy hr
              have fact : ∀ b : Bool, befB y x = b → (b = true → Hid (exErr xs (i + 1) = 0)) ∧ (b = false → Hid (firstE (exErr xs) 0 xs.length = 9)) := by
                rintro b rfl
                refine ⟨fun h => Lib.hid (by rw [HN2.out, h]; rfl), fun h => Lib.hid ?_⟩
                have h9 : exErr xs (i + 1) = 9 := by rw [HN2.out, h]; rfl
                rw [firstE_at (exErr xs) _ (i + 1) hlt HL.out (by rw [h9]; decide), h9]
              by_cases he : x.c.toList = y.c.toList
              · have hl : Op.bytesLess x.c.toList y.c.toList = false := by rw [he]; exact less_irr _
                have hq : (x.c.toList == y.c.toList) = true := by simpa using he
                by_cases hf : x.f ≤ y.f
                · have hbf : befB y x = false := by rw [bef_eq x y he]; simpa using hf
                  clear he
                  have F := (fact _ hbf).2 rfl
                  clear fact HN2 HP
                  go_wp2_with fail
                  refine (rCurrency_any _ hsz _).mono ?_
                  rintro e w1 ⟨rfl, rfl⟩
                  go_wp2_with fail
                  refine (rDay_any _ _).mono ?_
                  rintro e w1 ⟨rfl, rfl⟩
                  go_wp2_with fail
                  refine wp_name (fun W => Below w.heap.size w W ∧ W.cell? ⟨wr.heap.size, 0, none⟩ = some (.string x.c) ∧ W.cell? ⟨wr.heap.size, 1, none⟩ = some (.int .i64 x.f) ∧ W.cell? ⟨wr.heap.size, 2, none⟩ = some (.int .i64 x.p) ∧
                    W.cell? (ad.add (i * 3)) = some (.string y.c) ∧ W.cell? ⟨(ad.add (i * 3)).block, (ad.add (i * 3)).off + 1, none⟩ = some (.int .i64 y.f)) ⟨(by repeat (first | exact Below.refl _ _ | assumption | refine ext_alloc ?_ _ | refine Below.drew ?_ | refine drewN_below ?_ _ | refine ext_trans ?_ (by assumption) | refine Below.alloc ?_ ?_ _ | refine Below.setCell ?_ ?_ _ | omega | (simp <;> omega))), by go_simp, by go_simp, by go_simp, (by first | exact (World.cell?_alloc_lt _ _ _ (by show _ < _; (try simp); omega)).trans (by assumption) | assumption | go_simp), (by first | exact (World.cell?_alloc_lt _ _ _ (by show _ < _; (try simp); omega)).trans (by assumption) | assumption | go_simp)⟩ ?_
                  rintro W ⟨hbW, y0, y1, y2, y3, y4⟩
                  go_quiet (fail)
                  go_wp2_with fail
                  go_ret
                  exact ⟨by rw [F.out]; rfl, drewN_below (by repeat (first | exact Below.refl _ _ | assumption | refine ext_alloc ?_ _ | refine Below.drew ?_ | refine drewN_below ?_ _ | refine ext_trans ?_ (by assumption) | refine Below.alloc ?_ ?_ _ | refine Below.setCell ?_ ?_ _ | omega | (simp <;> omega))) _⟩
                · have hbf : befB y x = true := by rw [bef_eq x y he]; simpa using hf
                  clear he
                  have F := (fact _ hbf).1 rfl
                  clear fact HN2 HP
                  go_wp2_with fail
                  refine (rCurrency_any _ hsz _).mono ?_
                  rintro e w1 ⟨rfl, rfl⟩
                  go_wp2_with fail
                  refine (rDay_any _ _).mono ?_
                  rintro e w1 ⟨rfl, rfl⟩
                  go_wp2_with fail
                  refine wp_name (fun W => Below w.heap.size w W ∧ W.cell? ⟨wr.heap.size, 0, none⟩ = some (.string x.c) ∧ W.cell? ⟨wr.heap.size, 1, none⟩ = some (.int .i64 x.f) ∧ W.cell? ⟨wr.heap.size, 2, none⟩ = some (.int .i64 x.p) ∧
                    W.cell? (ad.add (i * 3)) = some (.string y.c) ∧ W.cell? ⟨(ad.add (i * 3)).block, (ad.add (i * 3)).off + 1, none⟩ = some (.int .i64 y.f)) ⟨(by repeat (first | exact Below.refl _ _ | assumption | refine ext_alloc ?_ _ | refine Below.drew ?_ | refine drewN_below ?_ _ | refine ext_trans ?_ (by assumption) | refine Below.alloc ?_ ?_ _ | refine Below.setCell ?_ ?_ _ | omega | (simp <;> omega))), by go_simp, by go_simp, by go_simp, (by first | exact (World.cell?_alloc_lt _ _ _ (by show _ < _; (try simp); omega)).trans (by assumption) | assumption | go_simp), (by first | exact (World.cell?_alloc_lt _ _ _ (by show _ < _; (try simp); omega)).trans (by assumption) | assumption | go_simp)⟩ ?_
                  rintro W ⟨hbW, y0, y1, y2, y3, y4⟩
                  go_quiet (fail)
                  go_wp2_with fail
                  go_roundw
                  case rel =>
                    refine ⟨i + 2, by omega, by go_num, Lib.hid (fun q hq => ?_), drewN_below (by repeat (first | exact Below.refl _ _ | assumption | refine ext_alloc ?_ _ | refine Below.drew ?_ | refine drewN_below ?_ _ | refine ext_trans ?_ (by assumption) | refine Below.alloc ?_ ?_ _ | refine Below.setCell ?_ ?_ _ | omega | (simp <;> omega))) _⟩
                    by_cases hqi : q < i + 1
                    · exact HL.out q hqi
                    · obtain rfl : q = i + 1 := by omega
                      exact F.out
                  case measure => simp [intOf]; omega
              · have hq : (x.c.toList == y.c.toList) = false := by simpa using he
                cases hl : Op.bytesLess x.c.toList y.c.toList
                · have hbf : befB y x = true := by rw [bef_ne x y he, hl]; rfl
                  clear he
                  have F := (fact _ hbf).1 rfl
                  clear fact HN2 HP
                  go_wp2_with fail
                  refine (rCurrency_any _ hsz _).mono ?_
                  rintro e w1 ⟨rfl, rfl⟩
                  go_wp2_with fail
                  refine (rDay_any _ _).mono ?_
                  rintro e w1 ⟨rfl, rfl⟩
                  go_wp2_with fail
                  refine wp_name (fun W => Below w.heap.size w W ∧ W.cell? ⟨wr.heap.size, 0, none⟩ = some (.string x.c) ∧ W.cell? ⟨wr.heap.size, 1, none⟩ = some (.int .i64 x.f) ∧ W.cell? ⟨wr.heap.size, 2, none⟩ = some (.int .i64 x.p) ∧
                    W.cell? (ad.add (i * 3)) = some (.string y.c) ∧ W.cell? ⟨(ad.add (i * 3)).block, (ad.add (i * 3)).off + 1, none⟩ = some (.int .i64 y.f)) ⟨(by repeat (first | exact Below.refl _ _ | assumption | refine ext_alloc ?_ _ | refine Below.drew ?_ | refine drewN_below ?_ _ | refine ext_trans ?_ (by assumption) | refine Below.alloc ?_ ?_ _ | refine Below.setCell ?_ ?_ _ | omega | (simp <;> omega))), by go_simp, by go_simp, by go_simp, (by first | exact (World.cell?_alloc_lt _ _ _ (by show _ < _; (try simp); omega)).trans (by assumption) | assumption | go_simp), (by first | exact (World.cell?_alloc_lt _ _ _ (by show _ < _; (try simp); omega)).trans (by assumption) | assumption | go_simp)⟩ ?_
                  rintro W ⟨hbW, y0, y1, y2, y3, y4⟩
                  go_quiet (fail)
                  go_wp2_with fail
                  go_roundw
                  case rel =>
                    refine ⟨i + 2, by omega, by go_num, Lib.hid (fun q hq => ?_), drewN_below (by repeat (first | exact Below.refl _ _ | assumption | refine ext_alloc ?_ _ | refine Below.drew ?_ | refine drewN_below ?_ _ | refine ext_trans ?_ (by assumption) | refine Below.alloc ?_ ?_ _ | refine Below.setCell ?_ ?_ _ | omega | (simp <;> omega))) _⟩
                    by_cases hqi : q < i + 1
                    · exact HL.out q hqi
                    · obtain rfl : q = i + 1 := by omega
                      exact F.out
                  case measure => simp [intOf]; omega
                · have hbf : befB y x = false := by rw [bef_ne x y he, hl]; rfl
                  clear he
                  have F := (fact _ hbf).2 rfl
                  clear fact HN2 HP
                  go_wp2_with fail
                  refine (rCurrency_any _ hsz _).mono ?_
                  rintro e w1 ⟨rfl, rfl⟩
                  go_wp2_with fail
                  refine (rDay_any _ _).mono ?_
                  rintro e w1 ⟨rfl, rfl⟩
                  go_wp2_with fail
                  refine wp_name (fun W => Below w.heap.size w W ∧ W.cell? ⟨wr.heap.size, 0, none⟩ = some (.string x.c) ∧ W.cell? ⟨wr.heap.size, 1, none⟩ = some (.int .i64 x.f) ∧ W.cell? ⟨wr.heap.size, 2, none⟩ = some (.int .i64 x.p) ∧
                    W.cell? (ad.add (i * 3)) = some (.string y.c) ∧ W.cell? ⟨(ad.add (i * 3)).block, (ad.add (i * 3)).off + 1, none⟩ = some (.int .i64 y.f)) ⟨(by repeat (first | exact Below.refl _ _ | assumption | refine ext_alloc ?_ _ | refine Below.drew ?_ | refine drewN_below ?_ _ | refine ext_trans ?_ (by assumption) | refine Below.alloc ?_ ?_ _ | refine Below.setCell ?_ ?_ _ | omega | (simp <;> omega))), by go_simp, by go_simp, by go_simp, (by first | exact (World.cell?_alloc_lt _ _ _ (by show _ < _; (try simp); omega)).trans (by assumption) | assumption | go_simp), (by first | exact (World.cell?_alloc_lt _ _ _ (by show _ < _; (try simp); omega)).trans (by assumption) | assumption | go_simp)⟩ ?_
                  rintro W ⟨hbW, y0, y1, y2, y3, y4⟩
                  go_quiet (fail)
                  go_wp2_with fail
                  go_ret
                  exact ⟨by rw [F.out]; rfl, drewN_below (by repeat (first | exact Below.refl _ _ | assumption | refine ext_alloc ?_ _ | refine Below.drew ?_ | refine drewN_below ?_ _ | refine ext_trans ?_ (by assumption) | refine Below.alloc ?_ ?_ _ | refine Below.setCell ?_ ?_ _ | omega | (simp <;> omega))) _⟩
      · have HN := Lib.hid (firstE_ok (exErr xs) xs.length (fun q hq => HL.out q (by omega)))
        go_wp2_with fail
        go_ret
        exact ⟨by rw [HN.out]; rfl, (by repeat (first | exact Below.refl _ _ | assumption | refine ext_alloc ?_ _ | refine Below.drew ?_ | refine drewN_below ?_ _ | refine ext_trans ?_ (by assumption) | refine Below.alloc ?_ ?_ _ | refine Below.setCell ?_ ?_ _ | omega | (simp <;> omega)))⟩

end Go.Proofs.Ytjlfllhokhekbaa
