/- A made table of rates is valid. -/
import Derived.Test.YtjlfllhokhekbaaCur1
import Derived.Test.YtjlfllhokhekbaaMade1
import Derived.Test.YtjlfllhokhekbaaAppend
import Derived.IntWalk
namespace Go.Proofs.Ytjlfllhokhekbaa
open Go.RowKit Go.Sort
set_option linter.unusedVariables false

attribute [local go_sem ↓] Go.wp_at_zero Go.wp_at_succ

theorem infoEx : (Try.prog.info? 25).map (fun i => (i.zero, i.size, i.bytes)) = some (some (.agg #[.string ⟨#[]⟩, .int .i64 0, .int .i64 0]), 3, 32) := by kernel_rfl

def curs3 : Array Value := #[.string ⟨#[67, 72, 70]⟩, .string ⟨#[71, 66, 80]⟩, .string ⟨#[85, 83, 68]⟩]
def curAt (i : Nat) : ByteArray := if i = 0 then ⟨#[67, 72, 70]⟩ else if i = 1 then ⟨#[71, 66, 80]⟩ else ⟨#[85, 83, 68]⟩

set_option maxHeartbeats 400000 in
theorem curs_any (w : World) : Calls Try.prog 23 #[] w fun e w' => e = .returned (.slice (some ⟨w.heap.size, 0, none⟩) 3 3) ∧ w.alloc (.cells curs3 9) = w' := by
  go_enter Try.func23, Try.ntmps23
  go_wp2
  go_ret
  exact ⟨rfl, rfl⟩

/-- The rows so far are valid, and a row of currency i on this day may follow. -/
def TabP (t : List Ex) (i : Nat) (day : Int) : Prop :=
  (∀ k, exErr t k = 0) ∧ ∀ y, t.getLast? = some y → Op.bytesLess y.c.toList (curAt i).toList = true ∨ (y.c.toList = (curAt i).toList ∧ y.f < day)
theorem TabP.nil (i : Nat) (day : Int) : TabP [] i day := ⟨fun k => by simp [exErr], fun y h => by simp at h⟩
theorem TabP.later {t : List Ex} {i : Nat} {day day' : Int} (h : TabP t i day) (hd : day ≤ day') : TabP t i day' :=
  ⟨h.1, fun y hy => (h.2 y hy).imp id (fun ⟨a, b⟩ => ⟨a, by omega⟩)⟩
theorem less_trans : ∀ a b c : List UInt8, Op.bytesLess a b = true → Op.bytesLess b c = true → Op.bytesLess a c = true
  | _, [], _, h, _ => by cases h' : ‹List UInt8› <;> simp_all [Op.bytesLess]
  | _, _ :: _, [], _, h => by simp [Op.bytesLess] at h
  | [], _ :: _, _ :: _, _, _ => rfl
  | x :: l, y :: m, z :: n, h, h' => by
    simp only [Op.bytesLess, Bool.or_eq_true, Bool.and_eq_true, decide_eq_true_eq, beq_iff_eq] at h h' ⊢
    simp only [UInt8.lt_iff_toNat_lt] at h h' ⊢
    rcases h with h | ⟨rfl, h⟩
    · rcases h' with h' | ⟨rfl, h'⟩
      · left; omega
      · left; exact h
    · rcases h' with h' | ⟨rfl, h'⟩
      · left; exact h'
      · right; exact ⟨rfl, less_trans l m n h h'⟩
theorem TabP.next {t : List Ex} {i : Nat} {day day' : Int} (hi : i < 2) (h : TabP t i day) : TabP t (i + 1) day' := by
  refine ⟨h.1, fun y hy => .inl ?_⟩
  have hl : Op.bytesLess (curAt i).toList (curAt (i + 1)).toList = true := by
    match i, hi with
    | 0, _ => decide +kernel
    | 1, _ => decide +kernel
  rcases h.2 y hy with h1 | ⟨h1, _⟩
  · exact less_trans _ _ _ h1 hl
  · rw [h1]; exact hl
theorem tab_cur (i : Nat) (hi : i < 3) : tabB (curAt i) = true := by
  match i, hi with
  | 0, _ => decide +kernel
  | 1, _ => decide +kernel
  | 2, _ => decide +kernel
theorem exErr_app (t : List Ex) (x : Ex) (k : Nat) (hk : k < t.length) : exErr (t ++ [x]) k = exErr t k := by
  cases k with
  | zero => unfold exErr; rw [List.getElem?_append_left hk]
  | succ k => unfold exErr; rw [List.getElem?_append_left hk]; simp only []; rw [List.getElem?_append_left (by omega)]
theorem TabP.snoc {t : List Ex} {i : Nat} {day day' p : Int} (hi : i < 3) (h : TabP t i day) (h0 : 0 ≤ day) (h1 : day ≤ 36524) (p1 : 1 ≤ p) (p2 : p ≤ 1000000000) (hd : day < day') : TabP (t ++ [⟨curAt i, day, p⟩]) i day' := by
  have htab := tab_cur i hi
  refine ⟨fun k => ?_, fun y hy => .inr ?_⟩
  · rcases Nat.lt_trichotomy k t.length with hk | hk | hk
    · rw [exErr_app _ _ _ hk]; exact h.1 k
    · subst hk
      have hx : (t ++ [(⟨curAt i, day, p⟩ : Ex)])[t.length]? = some ⟨curAt i, day, p⟩ := by simp
      have hr : ¬ (day < 0 ∨ 36524 < day ∨ p < 1 ∨ 1000000000 < p) := by omega
      cases t with
      | nil => exact exErr_2 _ ⟨curAt i, day, p⟩ hx htab hr
      | cons a t =>
        obtain ⟨y, hy⟩ : ∃ y, (a :: t)[t.length]? = some y := ⟨_, List.getElem?_eq_getElem (by simp)⟩
        have hlast : (a :: t).getLast? = some y := by rw [List.getLast?_eq_getElem?]; exact hy
        have hy2 : ((a :: t) ++ [(⟨curAt i, day, p⟩ : Ex)])[t.length]? = some y := by rw [List.getElem?_append_left (by simp)]; exact hy
        have := exErr_3 ((a :: t) ++ [(⟨curAt i, day, p⟩ : Ex)]) ⟨curAt i, day, p⟩ y t.length hx hy2 htab hr
        rw [show (a :: t).length = t.length + 1 from rfl, this, if_pos]
        unfold befB
        rcases h.2 y hlast with h3 | ⟨h3, h4⟩
        · rw [if_neg]
          · exact h3
          · intro e; rw [e] at h3
            have irr : ∀ a : List UInt8, Op.bytesLess a a = false := by
              intro a; induction a with
              | nil => rfl
              | cons c l ih => simp [Op.bytesLess, ih, UInt8.lt_irrefl]
            rw [irr] at h3; cases h3
        · rw [if_pos h3]; simpa using h4
    · unfold exErr; rw [List.getElem?_eq_none (by simp; omega)]
  · rw [List.getLast?_append] at hy
    simp at hy
    subst hy
    exact ⟨rfl, hd⟩

/-- The state of the loops of Table. -/
structure TSt (w wr : World) (g gs : Nat) (A : Option Addr) (xs : List Int) (c : Nat) (v : Value) (t : List Ex) : Prop where
  below : Below w.heap.size w wr
  hg : w.heap.size ≤ g
  hgs : w.heap.size ≤ gs
  src : ∃ I : Nat, Blk wr g 49 #[.slice A xs.length c, .int .i64 I]
  str : Blk wr gs 9 curs3
  own : OwnR wr w.heap.size 25 3 v (t.map Ex.cells)

theorem TSt.next {w wr w2 : World} {g gs : Nat} {A : Option Addr} {xs : List Int} {c : Nat} {v : Value} {t : List Ex} (h : TSt w wr g gs A xs c v t) (hw : wr.grownBy w2 (some g)) {I : Nat} (hb : Blk w2 g 49 #[.slice A xs.length c, .int .i64 I]) : TSt w w2 g gs A xs c v t := by
  obtain ⟨J, hs⟩ := h.src
  exact ⟨below_only h.below hw h.hg h.below.size, h.hg, h.hgs, ⟨I, hb⟩, h.str.only hw (h.str.ne_ hs (by decide)), h.own.kept hw (.inr (h.own.ne hs (by decide)))⟩
theorem TSt.drewN {w wr : World} {g gs : Nat} {A : Option Addr} {xs : List Int} {c : Nat} {v : Value} {t : List Ex} (h : TSt w wr g gs A xs c v t) (n : Nat) : TSt w (wr.drewN n) g gs A xs c v t :=
  ⟨drewN_below h.below n, h.hg, h.hgs, h.src, h.str, h.own⟩

theorem TSt.app {w w5 w6 : World} {g gs : Nat} {A : Option Addr} {xs : List Int} {c : Nat} {v v' : Value} {t : List Ex} {x : Ex} {o : Obj} {n : Nat} (h : TSt w w5 g gs A xs c v t) (hw : (w5.alloc o).grownBy w6 v.ownBlock)
    (ho : w6.ownsRow w.heap.size 25 3 v' n ((t.map Ex.cells).flatten ++ x.cells)) (hn : n = (t.map Ex.cells).length + 1) : TSt w w6 g gs A xs c v' (t ++ [x]) := by
  obtain ⟨J, hs⟩ := h.src
  refine ⟨below_row (h.below.alloc h.below.size o) hw (fun g hg => (World.ownsRow.lt h.own g hg).1) (by have := h.below.size; simp; omega), h.hg, h.hgs, ⟨J, (hs.alloc o).row hw (h.own.ne hs (by decide))⟩, (h.str.alloc o).row hw (h.own.ne h.str (by decide)), ?_⟩
  have := OwnR.snoc hn ho
  simpa using this

set_option maxRecDepth 100000 in
set_option maxHeartbeats 2000000 in
theorem table_any (w : World) (A : Option Addr) (xs : List Int) (n c : Nat) (hA : Ints w w.heap.size A xs) (hn : n = xs.length) (hnc : n ≤ c) (hc : c ≤ maxLen) :
    Calls Try.prog 10 #[.slice A n c] w fun e w' => (∃ (v : Value) (t : List Ex), e = .returned v ∧ t.length ≤ 9 ∧ (∀ k, exErr t k = 0) ∧ OwnR w' w.heap.size 25 3 v (t.map Ex.cells)) ∧ Below w.heap.size w w' := by
  obtain ⟨i0, hi0, hz0, hz1, hz2⟩ := info_parts infoEx
  have hmin : ((xs.take 40).length : Nat) = min n 40 := by simp [hn]; omega
  have hA' : Ints w w.heap.size A (xs.take 40) := by
    unfold Ints; rw [List.map_take]; exact RowsW.take hA 40
  have hlen : (xs.take 40).length ≤ 40 := by simp; omega
  generalize xs.take 40 = ys at *
  have HC := Lib.hid (cut_any w A n c 40 hnc hc (by simp [maxLen]))
  rw [← hmin] at HC
  have hml : ys.length ≤ maxLen := by unfold maxLen; omega
  clear hmin hA hn
  go_enter Try.func10, Try.ntmps10
  go_wp2_with fail
  refine HC.out.mono ?_
  rintro e w1 ⟨⟨c', rfl⟩, rfl⟩
  go_wp2_with fail
  refine (curs_any _).mono ?_
  rintro e w1 ⟨rfl, rfl⟩
  go_wp2_with fail
  have st0 : TSt w ((w.alloc (Obj.cells #[Value.slice A ys.length c', Value.int IntKind.i64 0] 49)).alloc (Obj.cells curs3 9)) w.heap.size (w.heap.size + 1) A ys c' (.slice none 0 0) [] :=
    ⟨(by repeat (first | exact Below.refl _ _ | assumption | refine ext_alloc ?_ _ | refine Below.drew ?_ | refine drewN_below ?_ _ | refine ext_trans ?_ (by assumption) | refine Below.alloc ?_ ?_ _ | refine Below.setCell ?_ ?_ _ | omega | (simp <;> omega))), Nat.le_refl _, by omega, ⟨0, (Blk.new w _ _).alloc _⟩, Blk.newAt (by simp), OwnR.nil _ _ _ _⟩
  obtain ⟨g, hg⟩ : ∃ g, w.heap.size = g := ⟨_, rfl⟩
  obtain ⟨gs, hgs⟩ : ∃ gs, w.heap.size + 1 = gs := ⟨_, rfl⟩
  rw [hgs] at st0 ⊢
  have HA := Lib.hid hA'
  replace st0 : TSt w ((w.alloc (Obj.cells #[Value.slice A ys.length c', Value.int IntKind.i64 0] 49)).alloc (Obj.cells curs3 9)) g gs A ys c' (.slice none 0 0) [] := hg ▸ st0
  revert st0
  rw [show (⟨w.heap.size, 0, none⟩ : Addr) = ⟨g, 0, none⟩ by rw [hg]]
  intro st0
  have hgB : w.heap.size ≤ g := by omega
  clear hgs hA'
  go_loopw [4, 6, 7, 8] (fun v i d q wr => ∃ (j : Nat) (t : List Ex), j ≤ 3 ∧ i = .int .i64 j ∧ t.length ≤ 3 * j ∧ Hid (∀ k, exErr t k = 0) ∧ Hid (j < 3 → ∀ d, TabP t j d) ∧ TSt w wr g gs A ys c' v t) (fun _ i _ _ _ => 3 - (intOf i).toNat)
  case atStart => exact ⟨0, [], by omega, rfl, by simp, Lib.hid (TabP.nil 0 0).1, Lib.hid (fun _ d => TabP.nil _ d), st0⟩
  case round =>
    obtain ⟨j, t, hj, rfl, ht, hE, hP, st⟩ := hrel
    clear st0
    by_cases hlt : j < 3
    · obtain ⟨I, hsrc⟩ := st.src
      have HN := Lib.hid (next_any wr g w.heap.size A ys c' I 20 (RowsW.below HA.out st.below) hgB hml hsrc (by omega) (by omega))
      have HST := Lib.hid st
      clear st hsrc
      go_wp2_with fail
      refine HN.out.mono ?_
      rintro e w2 ⟨rfl, hw2, hs2⟩
      have st2 := HST.out.next hw2 hs2
      clear HN hs2 hw2 HST
      have d0 := Int.emod_nonneg (ys.getD I 0) (show (20 : Int) ≠ 0 by omega)
      have d1 := Int.emod_lt_of_pos (ys.getD I 0) (show (0 : Int) < 20 by omega)
      generalize ys.getD I 0 % 20 = day0 at *
      obtain ⟨I2, hsrc2⟩ := st2.src
      have HN := Lib.hid (next_any w2 g w.heap.size A ys c' I2 4 (RowsW.below HA.out st2.below) hgB hml hsrc2 (by omega) (by omega))
      have HST := Lib.hid st2
      clear st2 hsrc2
      go_wp2_with fail
      refine HN.out.mono ?_
      rintro e w3 ⟨rfl, hw3, hs3⟩
      have st3 := HST.out.next hw3 hs3
      clear HN hs3 hw3 HST
      have n0 := Int.emod_nonneg (ys.getD I2 0) (show (4 : Int) ≠ 0 by omega)
      have n1 := Int.emod_lt_of_pos (ys.getD I2 0) (show (0 : Int) < 4 by omega)
      generalize ys.getD I2 0 % 4 = cnt at *
      go_wp2_with fail
      have hPd := hP.out hlt day0
      obtain ⟨wo, rfl⟩ : ∃ wo : World, wo = w3 := ⟨_, rfl⟩
      go_loopw [4, 7, 8] (fun v d q wr => ∃ (t : List Ex) (day q' : Int), 0 ≤ q' ∧ q' ≤ 3 ∧ q = .int .i64 q' ∧ (t.length : Int) + q' ≤ 3 * (j : Int) + 3 ∧ 0 ≤ day ∧ day ≤ 19 + 20 * (3 - q') ∧ d = .int .i64 day ∧ TabP t j day ∧ TSt w wr g gs A ys c' v t) (fun _ _ q _ => (intOf q).toNat)
      case atStart => exact ⟨t, day0, cnt, n0, by omega, rfl, by omega, d0, by omega, rfl, hPd, st3⟩
      case round =>
        obtain ⟨t2, day2, q2, q0, q1, rfl, hl2, e0, e1, rfl, hP2, st4⟩ := hrel
        clear st3 hPd n0 n1 d0 d1 hP hE
        have HST := Lib.hid st4
        have HP2 := Lib.hid hP2
        clear st4 hP2
        by_cases hq : 0 < q2
        · obtain ⟨I3, hsrc3⟩ := HST.out.src
          have hj0 : (0 : Int) ≤ (j : Int) := by omega
          have hj3 : (j : Int) < 3 := by omega
          have hcell : wr.cell? ⟨gs, j, none⟩ = some (.string (curAt j)) := by
            rw [HST.out.str.cell j]
            match j, hlt with
            | 0, _ => rfl
            | 1, _ => rfl
            | 2, _ => rfl
          have hr3 := Lib.hid (RowsW.below HA.out HST.out.below)
          have hs3 := Lib.hid hsrc3
          have p0 := Int.emod_nonneg (ys.getD I3 0) (show (1000000000 : Int) ≠ 0 by omega)
          have p1 := Int.emod_lt_of_pos (ys.getD I3 0) (show (0 : Int) < 1000000000 by omega)
          obtain ⟨pv, hpv⟩ : ∃ pv, ys.getD I3 0 % 1000000000 = pv := ⟨_, rfl⟩
          rw [hpv] at p0 p1
          have HV := Lib.hid hpv
          have hwr : IntKind.i64.wrap (1 + pv) = 1 + pv := IntWalk.i64_in _ (by omega)
          clear hsrc3 hpv
          have gsne : gs ≠ g := by
            obtain ⟨_, h⟩ := HST.out.src
            exact HST.out.str.ne_ h (by decide)
          have gslt := HST.out.str.lt
          have une := HST.out.own.ne HST.out.str (by decide)
          have l9 : (t2.map Ex.cells).length + 1 ≤ 9 := by simp; omega
          go_wp2_with fail
          go_region_held3 (fun w' => w'.cell? ⟨gs, j, none⟩ = some (.string (curAt j)))
            (first | go_keep | (rw [World.grownBy.cell_far hw5' _ (by simpa using gslt) (by simpa using gsne)]; assumption) | (rw [World.grownBy.cell_far hgrow _ (by have := hw5.size; simp; omega) (Ne.symm une)]; assumption))
            (first | (go_at_call 24; refine (next_any _ g w.heap.size A ys c' I3 1000000000 (by exact hr3.out) hgB hml (by exact hs3.out) (by omega) (by omega)).mono ?_; rintro e w5 ⟨rfl, hw5', hs5⟩; rw [HV.out]; have hw5 := only_of_drew hw5') | (refine step_append_lies _ (by rfl) _ _ _ (by rfl) w.heap.size 25 i0 _ 3 32 Try.underlying22 hi0 hz0 hz1 hz2 rfl (by omega) u4 (t2.map Ex.cells).length (t2.map Ex.cells).flatten (by rfl) (OwnR.alloc (HST.out.next hw5 hs5).own _) ⟨w5.heap.size, 0, none⟩ 1 1 (Ex.cells ⟨curAt j, day2, 1 + pv⟩) (by rfl) (by rfl) (World.news_of_block (cs := #[.string (curAt j), .int .i64 day2, .int .i64 (1 + pv)]) (t := 25) (fr := (0, 0)) (heap_alloc_new _ _)) (by simp [Ex.cells, Value.oneCell']) (by omega) (by unfold maxLen; omega) (by omega) (by have := HST.out.below.size; have := hw5.size; simp; omega) (w5.heap.size + 1) (by simp) ?_; intro gg cap w6 hown1 hgrow hat hlt6))
          have st6 := (HST.out.next hw5 hs5).app hgrow hown1 rfl
          have hPn : ∀ d', day2 < d' → TabP (t2 ++ [⟨curAt j, day2, 1 + pv⟩]) j d' := fun d' h => HP2.out.snoc hlt e0 (by omega) (by omega) (by omega) h
          have HPn := Lib.hid hPn
          have HST6 := Lib.hid st6
          have l10 : ((t2 ++ [(⟨curAt j, day2, 1 + pv⟩ : Ex)]).length : Int) = t2.length + 1 := by simp
          have L10 := Lib.hid l10
          clear hw5 hw5' hs5 hown1 hgrow hat hlt6 st6 hPn HST hr3 hs3 HV p0 p1 l10 HP2 hwr hcell
          generalize t2 ++ [(⟨curAt j, day2, 1 + pv⟩ : Ex)] = t6 at *
          obtain ⟨I7, hsrc7⟩ := HST6.out.src
          have HN := Lib.hid (next_any w6 g w.heap.size A ys c' I7 20 (RowsW.below HA.out HST6.out.below) hgB hml hsrc7 (by omega) (by omega))
          clear hsrc7
          have m0 := Int.emod_nonneg (ys.getD I7 0) (show (20 : Int) ≠ 0 by omega)
          have m1 := Int.emod_lt_of_pos (ys.getD I7 0) (show (0 : Int) < 20 by omega)
          generalize ys.getD I7 0 % 20 = mv at *
          go_wp2_with fail
          refine HN.out.mono ?_
          rintro e w8 ⟨rfl, hw8, hs8⟩
          have HST8 := Lib.hid (HST6.out.next hw8 hs8)
          clear hw8 hs8 HN
          go_wp2_with fail
          go_roundw
          case rel => exact ⟨t6, day2 + 1 + mv, q2 - 1, by omega, by omega, by go_num, by rw [L10.out]; omega, by omega, by omega, by go_num, HPn.out _ (by omega), by have := HST8.out; simpa using this⟩
          case measure => simp [intOf]; omega
        · go_wp2_with fail
          go_roundw
          case rel => exact ⟨j + 1, t2, by omega, by go_num, by omega, Lib.hid HP2.out.1, Lib.hid (fun h d => HP2.out.next (by omega)), HST.out⟩
          case measure => simp [intOf]; omega
    · obtain rfl : j = 3 := by omega
      have HST := Lib.hid st
      clear st
      go_wp2_with fail
      go_ret
      exact ⟨⟨_, t, rfl, by omega, hE.out, HST.out.own⟩, HST.out.below⟩

end Go.Proofs.Ytjlfllhokhekbaa
