/- Contracts of package currency and its reference: what looks at one row. -/
import Derived.Test.YtjlfllhokhekbaaRowsX
namespace Go.Proofs.Ytjlfllhokhekbaa
open Go.RowKit Go.Sort
set_option linter.unusedVariables false

/-- All letters A to Z. -/
def lettersB (s : ByteArray) : Bool := s.data.toList.all fun c => 65 ≤ c.toNat && c.toNat ≤ 90
/-- Three letters A to Z. -/
def curB (s : ByteArray) : Bool := decide (s.size = 3) && lettersB s

theorem letters_no (s : ByteArray) (k : Nat) (h : k < s.size) (hc : (s[k].toNat : Int) < 65 ∨ 90 < (s[k].toNat : Int)) : lettersB s = false := by
  rw [← Bool.not_eq_true, lettersB, List.all_eq_true]
  intro ha
  have := ha s[k] (by rw [ByteArray.getElem_eq_getElem_data]; exact Array.getElem_mem_toList _)
  simp at this
  omega
theorem letters_yes (s : ByteArray) (h : ∀ k (h : k < s.size), 65 ≤ (s[k].toNat : Int) ∧ (s[k].toNat : Int) ≤ 90) : lettersB s = true := by
  rw [lettersB, List.all_eq_true]
  intro c hc
  obtain ⟨k, hk, rfl⟩ := List.getElem_of_mem hc
  have := h k (by simpa using hk)
  rw [ByteArray.getElem_eq_getElem_data] at this
  simp
  omega

set_option maxHeartbeats 400000 in
theorem isCurrency_any (s : ByteArray) (hs : s.size ≤ maxLen) (w : World) : Calls Try.prog 25 #[.string s] w fun e w' => e = .returned (.bool (curB s)) ∧ w = w' := by
  unfold maxLen at hs
  by_cases h3 : s.size = 3
  · have HV : Hid (curB s = lettersB s) := by show curB s = lettersB s; simp [curB, h3]
    have h3' : 3 ≤ s.size := by omega
    have h3'' : s.size ≤ 3 := by omega
    rw [HV.out]
    go_enter Try.func25, Try.ntmps25
    go_wp2
    go_loop [3, 9] (fun t i => ∃ k : Nat, k ≤ 3 ∧ i = .int .i64 k ∧ Hid (∀ j (h : j < s.size), j < k → 65 ≤ (s[j].toNat : Int) ∧ (s[j].toNat : Int) ≤ 90)) (fun _ i => 3 - (intOf i).toNat)
    case atStart => exact ⟨0, by omega, rfl, Lib.hid (fun j _ h => absurd h (by omega))⟩
    case round =>
      obtain ⟨k, hk, rfl, HL⟩ := hrel
      clear HV h3
      by_cases hlt : k < 3
      · have hks : k < s.size := by omega
        by_cases c1 : (s[k].toNat : Int) < 65
        · have HN := Lib.hid (letters_no s k hks (.inl c1))
          go_wp2
          go_ret
          exact ⟨by rw [HN.out]; rfl, rfl⟩
        · by_cases c2 : 90 < (s[k].toNat : Int)
          · have HN := Lib.hid (letters_no s k hks (.inr c2))
            go_wp2
            go_ret
            exact ⟨by rw [HN.out]; rfl, rfl⟩
          · go_wp2
            go_round
            case rel =>
              refine ⟨k + 1, by omega, by go_num, Lib.hid (fun j h hj => ?_)⟩
              by_cases hjk : j < k
              · exact HL.out j h hjk
              · obtain rfl : j = k := by omega
                omega
            case measure => simp [intOf]; omega
      · obtain rfl : k = 3 := by omega
        go_wp2
        go_ret
        exact ⟨by rw [letters_yes s (fun j h => HL.out j h (by omega))]; rfl, rfl⟩
  · have HV : Hid (curB s = false) := by show curB s = false; simp [curB, h3]
    have h3b : ((s.size : Int) != 3) = true := by simp; omega
    go_enter Try.func25, Try.ntmps25
    go_wp2
    go_ret
    exact ⟨by rw [HV.out]; rfl, rfl⟩

/-- A currency that a table may have. -/
def tabB (s : ByteArray) : Bool := curB s && !(s.toList == [69, 85, 82])

set_option maxHeartbeats 400000 in
theorem rCurrency_any (s : ByteArray) (hs : s.size ≤ maxLen) (w : World) : Calls Try.prog 27 #[.string s] w fun e w' => e = .returned (.bool (tabB s)) ∧ w = w' := by
  unfold maxLen at hs
  go_enter Try.func27, Try.ntmps27
  go_wp2
  go_loop [3] (fun i => ∃ k : Nat, k ≤ s.size ∧ i = .int .i64 k ∧ Hid (∀ j (h : j < s.size), j < k → 65 ≤ (s[j].toNat : Int) ∧ (s[j].toNat : Int) ≤ 90)) (fun i => s.size - (intOf i).toNat)
  case atStart => exact ⟨0, by omega, rfl, Lib.hid (fun j _ h => absurd h (by omega))⟩
  case round =>
    obtain ⟨k, hk, rfl, HL⟩ := hrel
    by_cases hlt : k < s.size
    · by_cases c1 : (s[k].toNat : Int) < 65
      · have HN : Hid (tabB s = false) := by show tabB s = false; rw [tabB, curB, letters_no s k hlt (.inl c1)]; simp
        go_wp2
        go_ret
        exact ⟨by rw [HN.out]; rfl, rfl⟩
      · by_cases c2 : 90 < (s[k].toNat : Int)
        · have HN : Hid (tabB s = false) := by show tabB s = false; rw [tabB, curB, letters_no s k hlt (.inr c2)]; simp
          go_wp2
          go_ret
          exact ⟨by rw [HN.out]; rfl, rfl⟩
        · go_wp2
          go_round
          case rel =>
            refine ⟨k + 1, by omega, by go_num, Lib.hid (fun j h hj => ?_)⟩
            by_cases hjk : j < k
            · exact HL.out j h hjk
            · obtain rfl : j = k := by omega
              omega
          case measure => simp [intOf]; omega
    · obtain rfl : k = s.size := by omega
      have hyes := letters_yes s (fun j h => HL.out j h h)
      have HT : Hid (tabB s = (decide (s.size = 3) && !(s.toList == [69, 85, 82]))) := by show tabB s = _; rw [tabB, curB, hyes]; simp
      clear hyes
      by_cases h3 : s.size = 3
      · have h3b : ((s.size : Int) == 3) = true := by simp; omega
        have HV : Hid (tabB s = !(s.toList == [69, 85, 82])) := by show tabB s = _; rw [HT.out]; simp [h3]
        clear h3
        go_wp2
        go_ret
        refine ⟨?_, rfl⟩
        rw [HV.out]; rfl
      · have h3b : ((s.size : Int) == 3) = false := by simp; omega
        have HV : Hid (tabB s = false) := by show tabB s = _; rw [HT.out]; simp [h3]
        clear h3
        go_wp2
        go_ret
        exact ⟨by rw [HV.out]; rfl, rfl⟩

structure Ex where
  c : ByteArray
  f : Int
  p : Int
def Ex.cells (x : Ex) : List Value := [.string x.c, .int .i64 x.f, .int .i64 x.p]
def Ex.val (x : Ex) : Value := .agg #[.string x.c, .int .i64 x.f, .int .i64 x.p]
/-- One row comes before another. -/
def befB (x y : Ex) : Bool := if x.c.toList = y.c.toList then decide (x.f < y.f) else Op.bytesLess x.c.toList y.c.toList

set_option maxHeartbeats 400000 in
theorem before_any (x y : Ex) (w : World) : Calls Try.prog 26 #[x.val, y.val] w fun e w' => e = .returned (.bool (befB x y)) ∧ Below w.heap.size w w' := by
  unfold Ex.val
  by_cases h : x.c.toList = y.c.toList
  · have hb : (x.c.toList == y.c.toList) = true := by simpa using h
    have HV : Hid (befB x y = decide (x.f < y.f)) := if_pos h
    clear h
    go_enter Try.func26, Try.ntmps26
    go_wp2
    go_ret
    exact ⟨by rw [HV.out]; rfl, (by repeat (first | exact Below.refl _ _ | assumption | refine ext_alloc ?_ _ | refine Below.drew ?_ | refine drewN_below ?_ _ | refine ext_trans ?_ (by assumption) | refine Below.alloc ?_ ?_ _ | refine Below.setCell ?_ ?_ _ | omega | (simp <;> omega)))⟩
  · have hb : (x.c.toList == y.c.toList) = false := by simpa using h
    have HV : Hid (befB x y = Op.bytesLess x.c.toList y.c.toList) := if_neg h
    clear h
    go_enter Try.func26, Try.ntmps26
    go_wp2
    go_ret
    refine ⟨?_, (by repeat (first | exact Below.refl _ _ | assumption | refine ext_alloc ?_ _ | refine Below.drew ?_ | refine drewN_below ?_ _ | refine ext_trans ?_ (by assumption) | refine Below.alloc ?_ ?_ _ | refine Below.setCell ?_ ?_ _ | omega | (simp <;> omega)))⟩
    rw [HV.out]; rfl

/-- The error of row i. -/
def exErr (xs : List Ex) (i : Nat) : Int :=
  match xs[i]? with
  | none => 0
  | some x => if tabB x.c = false then 1 else if x.f < 0 ∨ 36524 < x.f ∨ x.p < 1 ∨ 1000000000 < x.p then 2 else
    match i with
    | 0 => 0
    | k + 1 => match xs[k]? with
      | none => 0
      | some y => if befB y x then 0 else 9
/-- The error of a table. -/
def tabE (xs : List Ex) : Int := if 1000 < xs.length then 8 else firstE (exErr xs) 0 xs.length

def Tab (w : World) (B : Nat) (A : Option Addr) (xs : List Ex) : Prop := RowsW w B A 3 (xs.map Ex.cells)
theorem Tab.at_ {w : World} {B : Nat} {A : Option Addr} {xs : List Ex} (h : Tab w B A xs) {k : Nat} (hk : k < xs.length) :
    ∃ (ad : Addr), A = some ad ∧ (ad.add (k * 3)).block < B ∧ w.cell? (ad.add (k * 3)) = some (.string xs[k].c) ∧ w.cell? ⟨(ad.add (k * 3)).block, (ad.add (k * 3)).off + 1, none⟩ = some (.int .i64 xs[k].f) ∧
      w.cell? ⟨(ad.add (k * 3)).block, (ad.add (k * 3)).off + 2, none⟩ = some (.int .i64 xs[k].p) := by
  obtain ⟨ad, e, hb, h0, h1⟩ := RowsW.row h (k := k) (r := xs[k].cells) (by simp [hk])
  exact ⟨ad, e, hb, h0 _ rfl, h1 0 _ rfl, h1 1 _ rfl⟩

theorem exErr_0 (xs : List Ex) (x : Ex) (i : Nat) (h : xs[i]? = some x) (hb : tabB x.c = false) : exErr xs i = 1 := by unfold exErr; rw [h]; simp [hb]
theorem exErr_1 (xs : List Ex) (x : Ex) (i : Nat) (h : xs[i]? = some x) (hb : tabB x.c = true) (hr : x.f < 0 ∨ 36524 < x.f ∨ x.p < 1 ∨ 1000000000 < x.p) : exErr xs i = 2 := by unfold exErr; rw [h]; simp only [hb]; rw [if_neg (by simp), if_pos hr]
theorem exErr_2 (xs : List Ex) (x : Ex) (h : xs[0]? = some x) (hb : tabB x.c = true) (hr : ¬ (x.f < 0 ∨ 36524 < x.f ∨ x.p < 1 ∨ 1000000000 < x.p)) : exErr xs 0 = 0 := by unfold exErr; rw [h]; simp only [hb]; rw [if_neg (by simp), if_neg hr]
theorem exErr_3 (xs : List Ex) (x y : Ex) (k : Nat) (h : xs[k + 1]? = some x) (h' : xs[k]? = some y) (hb : tabB x.c = true) (hr : ¬ (x.f < 0 ∨ 36524 < x.f ∨ x.p < 1 ∨ 1000000000 < x.p)) : exErr xs (k + 1) = if befB y x then 0 else 9 := by
  unfold exErr; rw [h]; simp only [hb]; rw [if_neg (by simp), if_neg hr, h']

set_option maxHeartbeats 1000000 in
theorem curValidate_any (w : World) (A : Option Addr) (cap : Nat) (xs : List Ex) (hA : Tab w w.heap.size A xs) (hn : xs.length ≤ maxLen) (hs : ∀ x ∈ xs, x.c.size ≤ maxLen) :
    Calls Try.prog 11 #[.slice A xs.length cap] w fun e w' => e = .returned (.int .i64 (tabE xs)) ∧ Below w.heap.size w w' := by
  unfold maxLen at hn
  by_cases h1 : 1000 < xs.length
  · have HV : Hid (tabE xs = 8) := if_pos h1
    go_enter Try.func11, Try.ntmps11
    go_wp2
    go_ret
    exact ⟨by rw [HV.out]; rfl, (by repeat (first | exact Below.refl _ _ | assumption | refine ext_alloc ?_ _ | refine Below.drew ?_ | refine drewN_below ?_ _ | refine ext_trans ?_ (by assumption) | refine Below.alloc ?_ ?_ _ | refine Below.setCell ?_ ?_ _ | omega | (simp <;> omega)))⟩
  · have HV : Hid (tabE xs = firstE (exErr xs) 0 xs.length) := if_neg h1
    rw [HV.out]
    have hd : decide ((1000 : Int) < xs.length) = false := by simp; omega
    go_enter Try.func11, Try.ntmps11
    go_wp2
    go_loopw [2, 3, 4, 10] (fun r i p k wr => ∃ j : Nat, j ≤ xs.length ∧ k = .int .i64 j ∧ Hid (∀ q, q < j → exErr xs q = 0) ∧ Below w.heap.size w wr) (fun _ _ _ k _ => xs.length - (intOf k).toNat)
    case atStart => exact ⟨0, by omega, rfl, Lib.hid (fun _ h => absurd h (by omega)), Below.refl _ _⟩
    case round =>
      obtain ⟨j, hj, rfl, HL, hbl⟩ := hrel
      by_cases hlt : j < xs.length
      · obtain ⟨ad, hA', hB, c0, c1, c2⟩ := Tab.at_ (RowsW.below hA hbl) hlt
        have hsz := hs xs[j] (List.getElem_mem _)
        have hx : Hid (xs[j]? = some xs[j]) := Lib.hid (by simp [hlt])
        have hsw := hbl.size
        have hprev : 0 < j → ∃ y : Ex, xs[j - 1]? = some y ∧ (ad.add ((j - 1) * 3)).block < w.heap.size ∧ wr.cell? (ad.add ((j - 1) * 3)) = some (.string y.c) ∧ wr.cell? ⟨(ad.add ((j - 1) * 3)).block, (ad.add ((j - 1) * 3)).off + 1, none⟩ = some (.int .i64 y.f) ∧
            wr.cell? ⟨(ad.add ((j - 1) * 3)).block, (ad.add ((j - 1) * 3)).off + 2, none⟩ = some (.int .i64 y.p) := by
          intro h0
          obtain ⟨ad', hA2, r1, r2, r3, r4⟩ := Tab.at_ (RowsW.below hA hbl) (k := j - 1) (by omega)
          rw [hA'] at hA2
          obtain rfl := Option.some.inj hA2
          exact ⟨xs[j - 1], by rw [List.getElem?_eq_getElem], r1, r2, r3, r4⟩
        have HP := Lib.hid hprev
        clear hprev
        subst hA'
        generalize xs[j] = x at *
        cases hc : curB x.c
        · have HN := Lib.hid (firstE_at (exErr xs) _ j hlt HL.out (by rw [exErr_0 xs x j hx.out (by simp [tabB, hc])]; decide))
          have HN2 := Lib.hid (exErr_0 xs x j hx.out (by simp [tabB, hc]))
          go_wp2_with fail
          refine (isCurrency_any _ hsz _).mono ?_
          rintro e w1 ⟨rfl, rfl⟩
          go_wp2_with fail
          go_ret
          exact ⟨by rw [HN.out, HN2.out]; rfl, (by repeat (first | exact Below.refl _ _ | assumption | refine ext_alloc ?_ _ | refine Below.drew ?_ | refine drewN_below ?_ _ | refine ext_trans ?_ (by assumption) | refine Below.alloc ?_ ?_ _ | refine Below.setCell ?_ ?_ _ | omega | (simp <;> omega)))⟩
        · cases ho : x.c.toList == [69, 85, 82]
          · have htab : tabB x.c = true := by simp [tabB, hc, ho]
            by_cases hr : x.f < 0 ∨ 36524 < x.f ∨ x.p < 1 ∨ 1000000000 < x.p
            · have HN2 := Lib.hid (exErr_1 xs x j hx.out htab hr)
              have HN := Lib.hid (firstE_at (exErr xs) _ j hlt HL.out (by rw [HN2.out]; decide))
              go_wp2_with fail
              refine (isCurrency_any _ hsz _).mono ?_
              rintro e w1 ⟨rfl, rfl⟩
              go_wp2_with fail
              all_goals
                go_ret
                exact ⟨by rw [HN.out, HN2.out]; rfl, (by repeat (first | exact Below.refl _ _ | assumption | refine ext_alloc ?_ _ | refine Below.drew ?_ | refine drewN_below ?_ _ | refine ext_trans ?_ (by assumption) | refine Below.alloc ?_ ?_ _ | refine Below.setCell ?_ ?_ _ | omega | (simp <;> omega)))⟩
            · obtain ⟨r1, r2, r3, r4⟩ : 0 ≤ x.f ∧ x.f ≤ 36524 ∧ 1 ≤ x.p ∧ x.p ≤ 1000000000 := by omega
              by_cases h0 : j = 0
              · subst h0
                have HN2 := Lib.hid (exErr_2 xs x hx.out htab hr)
                rw [Nat.zero_mul, addr_add_zero] at c0 c1 c2 hB
                clear hr
                go_wp2_with fail
                refine (isCurrency_any _ hsz _).mono ?_
                rintro e w1 ⟨rfl, rfl⟩
                go_wp2_with fail
                go_quiet (fail)
                go_wp2_with fail
                go_roundw
                case rel => exact ⟨1, by omega, by go_num, Lib.hid (fun q hq => by obtain rfl : q = 0 := by omega
                                                                                   exact HN2.out), (by repeat (first | exact Below.refl _ _ | assumption | refine ext_alloc ?_ _ | refine Below.drew ?_ | refine drewN_below ?_ _ | refine ext_trans ?_ (by assumption) | refine Below.alloc ?_ ?_ _ | refine Below.setCell ?_ ?_ _ | omega | (simp <;> omega)))⟩
                case measure => simp [intOf]; omega
              · obtain ⟨i, rfl⟩ : ∃ i, j = i + 1 := ⟨j - 1, by omega⟩
                obtain ⟨y, hy, s0, s1, s2, s3⟩ := HP.out (by omega)
                rw [Nat.add_sub_cancel] at hy s0 s1 s2 s3
                have hy' := Lib.hid hy
                clear hy
                have hj0 : (0 : Int) < (i : Int) + 1 := by omega
                go_wp2_with fail
                refine (isCurrency_any _ hsz _).mono ?_
                rintro e w1 ⟨rfl, rfl⟩
                go_wp2_with fail
                refine wp_name (fun W => Below w.heap.size w W ∧ W.cell? ⟨wr.heap.size, 0, none⟩ = some (.string x.c) ∧ W.cell? ⟨wr.heap.size, 1, none⟩ = some (.int .i64 x.f) ∧ W.cell? ⟨wr.heap.size, 2, none⟩ = some (.int .i64 x.p) ∧
                  W.cell? (ad.add (i * 3)) = some (.string y.c) ∧ W.cell? ⟨(ad.add (i * 3)).block, (ad.add (i * 3)).off + 1, none⟩ = some (.int .i64 y.f) ∧
                  W.cell? ⟨(ad.add (i * 3)).block, (ad.add (i * 3)).off + 2, none⟩ = some (.int .i64 y.p)) ⟨(by repeat (first | exact Below.refl _ _ | assumption | refine ext_alloc ?_ _ | refine Below.drew ?_ | refine drewN_below ?_ _ | refine ext_trans ?_ (by assumption) | refine Below.alloc ?_ ?_ _ | refine Below.setCell ?_ ?_ _ | omega | (simp <;> omega))), by go_simp, by go_simp, by go_simp, (by first | exact (World.cell?_alloc_lt _ _ _ (by show _ < _; (try simp); omega)).trans (by assumption) | assumption | go_simp), (by first | exact (World.cell?_alloc_lt _ _ _ (by show _ < _; (try simp); omega)).trans (by assumption) | assumption | go_simp), (by first | exact (World.cell?_alloc_lt _ _ _ (by show _ < _; (try simp); omega)).trans (by assumption) | assumption | go_simp)⟩ ?_
                rintro W ⟨hbW, y0, y1, y2, y3, y4, y5⟩
                clear c0 c1 c2 s1 s2 s3 r1 r2 r3 r4
                replace y0 := cell_regrown y0
                replace y1 := cell_regrown y1
                replace y2 := cell_regrown y2
                replace y3 := cell_regrown y3
                replace y4 := cell_regrown y4
                replace y5 := cell_regrown y5
                have C2 := Lib.hid fun d os => Calls.regrown_of (before_any y x (grow (redrawn W d) os))
                have HN2 := Lib.hid (exErr_3 xs x y i hx.out hy'.out htab hr)
                clear hr
                (refine wp_region_quiet_below (by kernel_rfl) (by kernel_rfl) ?_; (repeat (first | go_big_quiet_step ((exact C2.out _ _)) | quiet_step ((exact C2.out _ _)))); refine wpQuiet_nil ?_; intro _ hwq; obtain ⟨⟨dq, osq⟩, hwq'⟩ := hwq; subst hwq')
                have hq := below_regrown W dq osq
                generalize grow (redrawn W dq) osq = W2 at *
                cases hbf : befB y x
                · rw [hbf] at HN2
                  have HN := Lib.hid (firstE_at (exErr xs) _ (i + 1) hlt HL.out (by rw [HN2.out]; decide))
                  go_wp2_with fail
                  go_ret
                  refine ⟨?_, (by repeat (first | exact Below.refl _ _ | assumption | refine ext_alloc ?_ _ | refine Below.drew ?_ | refine drewN_below ?_ _ | refine ext_trans ?_ (by assumption) | refine Below.alloc ?_ ?_ _ | refine Below.setCell ?_ ?_ _ | omega | (simp <;> omega)))⟩
                  rw [HN.out, HN2.out]; rfl
                · rw [hbf] at HN2
                  go_wp2_with fail
                  go_roundw
                  case rel =>
                    refine ⟨i + 2, by omega, by go_num, Lib.hid (fun q hq => ?_), (by repeat (first | exact Below.refl _ _ | assumption | refine ext_alloc ?_ _ | refine Below.drew ?_ | refine drewN_below ?_ _ | refine ext_trans ?_ (by assumption) | refine Below.alloc ?_ ?_ _ | refine Below.setCell ?_ ?_ _ | omega | (simp <;> omega)))⟩
                    by_cases hqi : q < i + 1
                    · exact HL.out q hqi
                    · obtain rfl : q = i + 1 := by omega
                      exact HN2.out
                  case measure => simp [intOf]; omega
          · have HN2 := Lib.hid (exErr_0 xs x j hx.out (by simp [tabB, hc, ho]))
            have HN := Lib.hid (firstE_at (exErr xs) _ j hlt HL.out (by rw [HN2.out]; decide))
            go_wp2_with fail
            refine (isCurrency_any _ hsz _).mono ?_
            rintro e w1 ⟨rfl, rfl⟩
            go_wp2_with fail
            go_ret
            exact ⟨by rw [HN.out, HN2.out]; rfl, (by repeat (first | exact Below.refl _ _ | assumption | refine ext_alloc ?_ _ | refine Below.drew ?_ | refine drewN_below ?_ _ | refine ext_trans ?_ (by assumption) | refine Below.alloc ?_ ?_ _ | refine Below.setCell ?_ ?_ _ | omega | (simp <;> omega)))⟩
      · have HN := Lib.hid (firstE_ok (exErr xs) xs.length (fun q hq => HL.out q (by omega)))
        go_wp2_with fail
        go_ret
        exact ⟨by rw [HN.out]; rfl, (by repeat (first | exact Below.refl _ _ | assumption | refine ext_alloc ?_ _ | refine Below.drew ?_ | refine drewN_below ?_ _ | refine ext_trans ?_ (by assumption) | refine Below.alloc ?_ ?_ _ | refine Below.setCell ?_ ?_ _ | omega | (simp <;> omega)))⟩

end Go.Proofs.Ytjlfllhokhekbaa