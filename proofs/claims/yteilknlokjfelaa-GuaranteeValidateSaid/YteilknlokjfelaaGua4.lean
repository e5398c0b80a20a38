/- Splicing a list of reservations. -/
import Derived.Test.YteilknlokjfelaaGua3
namespace Go.Proofs.Yteilknlokjfelaa
open Go.RowKit Go.Sort
set_option linter.unusedVariables false

theorem infoRv : (Try.prog.info? 39).map (fun i => (i.zero, i.size, i.bytes)) = some (some (.agg #[.int .i64 0, .int .i64 0]), 2, 16) := by kernel_rfl

theorem run_make_rowN {P : Program} (t e : TypeId) (i : TypeInfo) (z : Value) (ht : P.underlying t = some (.slice e)) (hi : P.info? e = some i) (hz : i.zero = some z)
    (kl kc : IntKind) (n c : Nat) (hnc : n ≤ c) (hbytes : i.bytes * c ≤ 281474976710656) (h63 : c ≤ 9223372036854775807) (w : World) :
    (Instr.makeSlice t (.int kl (n : Int)) (.int kc (c : Int))).run P w = .ok (.slice (some ⟨w.heap.size, 0, none⟩) n c) (w.alloc (.cells (madeCells z.cells (c * i.size)) e)) := by
  have hb : (i.bytes : Int) * (c : Int) ≤ 281474976710656 := by
    have h : ((i.bytes * c : Nat) : Int) ≤ 281474976710656 := by omega
    rwa [Int.natCast_mul] at h
  have hr := run_make (P := P) w t e i z ht hi hz kl kc n c (by omega) (by omega) hb (by omega)
  simp only [Int.toNat_natCast] at hr
  exact hr

theorem flat_one (us : List Rv) : ∀ u ∈ (us.map Rv.cells).flatten, u.oneCell' = true := by
  intro u hu
  obtain ⟨r, hr, hu⟩ := List.mem_flatten.1 hu
  obtain ⟨y, _, rfl⟩ := List.mem_map.1 hr
  simp only [Rv.cells, List.mem_cons, List.not_mem_nil, or_false] at hu
  rcases hu with h | h <;> (rw [h]; rfl)
theorem Rvs.reads {w : World} {B : Nat} {A : Option Addr} {us : List Rv} (h : Rvs w B A us) : Reads w B 2 A us.length (us.map Rv.cells).flatten := by
  have := Reads.of_rows h (by simp [Rv.cells]) (by omega)
  rwa [List.length_map] at this
theorem flat_take (us : List Rv) (k : Nat) : ((us.take k).map Rv.cells).flatten = ((us.map Rv.cells).flatten).take (k * 2) := by
  induction us generalizing k with
  | nil => simp
  | cons x us ih =>
    cases k with
    | zero => simp
    | succ k =>
      show Rv.cells x ++ ((us.take k).map Rv.cells).flatten = (Rv.cells x ++ (us.map Rv.cells).flatten).take ((k + 1) * 2)
      rw [ih, Nat.succ_mul]; rfl
theorem flat_drop (us : List Rv) (k : Nat) : ((us.drop k).map Rv.cells).flatten = ((us.map Rv.cells).flatten).drop (k * 2) := by
  induction us generalizing k with
  | nil => simp
  | cons x us ih =>
    cases k with
    | zero => simp
    | succ k =>
      show ((us.drop k).map Rv.cells).flatten = (Rv.cells x ++ (us.map Rv.cells).flatten).drop ((k + 1) * 2)
      rw [ih, Nat.succ_mul]; rfl

theorem splice_make (us xs : List Rv) (i0 : TypeInfo) (hn : us.length ≤ 1000) (hx : xs.length ≤ 1000) (hi0 : Try.prog.info? 39 = some i0) (hz0 : i0.zero = some (.agg #[.int .i64 0, .int .i64 0])) (hz1 : i0.size = 2) (hz2 : i0.bytes = 16) (W : World) :
    (Instr.makeSlice 23 (.int .i64 0) (.int .i64 ((us.length : Int) + xs.length))).run Try.prog W = .ok (.slice (some ⟨W.heap.size, 0, none⟩) 0 (us.length + xs.length)) (W.alloc (.cells (madeCells #[.int .i64 0, .int .i64 0] ((us.length + xs.length) * 2)) 39)) := by
  have h := run_make_rowN (P := Try.prog) 23 39 i0 _ Try.underlying23 hi0 hz0 .i64 .i64 0 (us.length + xs.length) (by omega) (by rw [hz2]; omega) (by omega) W
  rw [Int.natCast_add, hz1] at h
  exact h

def SpliceR (w : World) (l : List Rv) (e : Ending) (w' : World) : Prop := (∃ v, e = .returned v ∧ OwnR w' w.heap.size 39 2 v (l.map Rv.cells)) ∧ Below w.heap.size w w'

set_option maxRecDepth 100000 in
set_option maxHeartbeats 1000000 in
theorem splice_nil (w : World) (A2 : Option Addr) (c2 : Nat) (xs : List Rv) (i0 : TypeInfo) (hX : Reads w w.heap.size 2 A2 xs.length (xs.map Rv.cells).flatten) (hx : xs.length ≤ 1000)
    (hi0 : Try.prog.info? 39 = some i0) (hz0 : i0.zero = some (.agg #[.int .i64 0, .int .i64 0])) (hz1 : i0.size = 2) (hz2 : i0.bytes = 16) :
    Calls Try.prog 37 #[.slice none 0 0, .int .i64 0, .int .i64 0, .slice A2 xs.length c2] w (SpliceR w xs) := by
  have hmk := splice_make [] xs i0 (by simp) hx hi0 hz0 hz1 hz2
  simp only [List.length_nil, Int.zero_add, Nat.zero_add, Int.cast_ofNat_Int] at hmk
  have HR2 := Lib.hid hX
  have HO2 := Lib.hid (flat_one xs)
  clear hX
  have hown0 : (w.alloc (.cells (madeCells #[.int .i64 0, .int .i64 0] (xs.length * 2)) 39)).ownsRow w.heap.size 39 2 (.slice (some ⟨w.heap.size, 0, none⟩) 0 xs.length) 0 [] := by
    exact World.ownsRow_made w _ _ (Nat.le_refl _) (by unfold maxLen; omega) (by simp [madeCells])
  have HW0 := Lib.hid hown0
  have hb0 := below_alloc_refl w (.cells (madeCells #[.int .i64 0, .int .i64 0] (xs.length * 2)) 39)
  have hw0 := hb0.size
  clear hown0
  go_enter Try.func37, Try.ntmps37
  go_wp2_with (at_builtin; refine wpList_append_any _ (by rfl) (Operand.tmp 16) (Operand.tmp 19) 23 (by rfl) w.heap.size 39 i0 _ 2 16 Try.underlying23 hi0 hz0 hz1 hz2 rfl (by omega) _ 0 [] (by rfl) HW0.out w.heap.size none 0 0 [] (by rfl) Reads.none_ (by simp) (by unfold maxLen; omega) (by omega) hb0.size ?_)
  intro v1 w1 hown1 hg1 hat1
  have hb1 : Below w.heap.size w w1 := below_row hb0 hg1 (fun g h => (World.ownsRow.lt HW0.out g h).1) hb0.size
  have hw1 := hb1.size
  have HW1 := Lib.hid hown1
  clear hown1 hg1 hat1
  go_wp2_with (at_builtin; refine wpList_append_any _ (by rfl) (Operand.tmp 21) (Operand.tmp 22) 23 (by rfl) w.heap.size 39 i0 _ 2 16 Try.underlying23 hi0 hz0 hz1 hz2 rfl (by omega) _ _ _ (by rfl) HW1.out w.heap.size A2 xs.length c2 (xs.map Rv.cells).flatten (by rfl) (HR2.out.below hb1) HO2.out (by unfold maxLen; omega) (by omega) hb1.size ?_)
  intro v2 w2 hown2 hg2 hat2
  have hb2 : Below w.heap.size w w2 := below_row hb1 hg2 (fun g h => (World.ownsRow.lt HW1.out g h).1) hb1.size
  have hw2 := hb2.size
  have HW2 := Lib.hid hown2
  clear hown2 hg2 hat2
  go_wp2_with (at_builtin; refine wpList_append_any _ (by rfl) (Operand.tmp 24) (Operand.tmp 27) 23 (by rfl) w.heap.size 39 i0 _ 2 16 Try.underlying23 hi0 hz0 hz1 hz2 rfl (by omega) _ _ _ (by rfl) HW2.out w.heap.size none 0 0 [] (by rfl) Reads.none_ (by simp) (by unfold maxLen; omega) (by omega) hb2.size ?_)
  intro v3 w3 hown3 hg3 hat3
  have hb3 : Below w.heap.size w w3 := below_row hb2 hg3 (fun g h => (World.ownsRow.lt HW2.out g h).1) hb2.size
  have HW3 := Lib.hid hown3
  clear hown3 hg3 hat3
  go_wp2_with fail
  go_ret
  refine ⟨⟨v3, rfl, ?_⟩, hb3⟩
  have h := HW3.out
  unfold OwnR
  rw [List.length_map]
  simpa using h

set_option maxRecDepth 100000 in
set_option maxHeartbeats 1000000 in
theorem splice_mid (w : World) (A2 : Option Addr) (c2 : Nat) (us xs : List Rv) (i0 : TypeInfo) (ad : Addr) (c fr tt : Nat) (hA : Rvs w w.heap.size (some ad) us) (hc : us.length ≤ c) (hcm : c ≤ maxLen) (hft : fr ≤ us.length) (htt : tt ≤ us.length) (hct : c ≠ tt) (hX : Reads w w.heap.size 2 A2 xs.length (xs.map Rv.cells).flatten) (hn : us.length ≤ 1000) (hx : xs.length ≤ 1000)
    (hi0 : Try.prog.info? 39 = some i0) (hz0 : i0.zero = some (.agg #[.int .i64 0, .int .i64 0])) (hz1 : i0.size = 2) (hz2 : i0.bytes = 16) :
    Calls Try.prog 37 #[.slice (some ad) us.length c, .int .i64 fr, .int .i64 tt, .slice A2 xs.length c2] w (SpliceR w (us.take fr ++ (xs ++ us.drop tt))) := by
  have hmk := splice_make us xs i0 hn hx hi0 hz0 hz1 hz2
  have hT : Rvs w w.heap.size (some ad) (us.take fr) := by unfold Rvs; rw [List.map_take]; exact RowsW.take hA fr
  have hR1 := hT.reads
  rw [List.length_take, Nat.min_eq_left hft] at hR1
  have hR3 := Reads.cut (k := tt) hA.reads htt hc
  rw [← flat_drop, if_neg hct] at hR3
  unfold maxLen at hcm
  have hfi : (fr : Int) ≤ (c : Int) := by omega
  have hti : (tt : Int) ≤ (us.length : Int) := by omega
  have hctb : (c == tt) = false := by simpa using hct
  have HR1 := Lib.hid hR1
  have HR2 := Lib.hid hX
  have HR3 := Lib.hid hR3
  have HO1 := Lib.hid (flat_one (us.take fr))
  have HO2 := Lib.hid (flat_one xs)
  have HO3 := Lib.hid (flat_one (us.drop tt))
  clear hR1 hR3 hX
  have hown0 : (w.alloc (.cells (madeCells #[.int .i64 0, .int .i64 0] ((us.length + xs.length) * 2)) 39)).ownsRow w.heap.size 39 2 (.slice (some ⟨w.heap.size, 0, none⟩) 0 (us.length + xs.length)) 0 [] := by
    exact World.ownsRow_made w _ _ (Nat.le_refl _) (by unfold maxLen; omega) (by simp [madeCells])
  have HW0 := Lib.hid hown0
  have hb0 := below_alloc_refl w (.cells (madeCells #[.int .i64 0, .int .i64 0] ((us.length + xs.length) * 2)) 39)
  have hw0 := hb0.size
  clear hown0
  go_enter Try.func37, Try.ntmps37
  go_wp2_with (at_builtin; refine wpList_append_any _ (by rfl) (Operand.tmp 16) (Operand.tmp 19) 23 (by rfl) w.heap.size 39 i0 _ 2 16 Try.underlying23 hi0 hz0 hz1 hz2 rfl (by omega) _ 0 [] (by rfl) HW0.out w.heap.size _ fr _ ((us.take fr).map Rv.cells).flatten (by rfl) (HR1.out.below hb0) HO1.out (by unfold maxLen; omega) (by omega) hb0.size ?_)
  intro v1 w1 hown1 hg1 hat1
  have hb1 : Below w.heap.size w w1 := below_row hb0 hg1 (fun g h => (World.ownsRow.lt HW0.out g h).1) hb0.size
  have hw1 := hb1.size
  have HW1 := Lib.hid hown1
  clear hown1 hg1 hat1
  go_wp2_with (at_builtin; refine wpList_append_any _ (by rfl) (Operand.tmp 21) (Operand.tmp 22) 23 (by rfl) w.heap.size 39 i0 _ 2 16 Try.underlying23 hi0 hz0 hz1 hz2 rfl (by omega) _ _ _ (by rfl) HW1.out w.heap.size A2 xs.length c2 (xs.map Rv.cells).flatten (by rfl) (HR2.out.below hb1) HO2.out (by unfold maxLen; omega) (by omega) hb1.size ?_)
  intro v2 w2 hown2 hg2 hat2
  have hb2 : Below w.heap.size w w2 := below_row hb1 hg2 (fun g h => (World.ownsRow.lt HW1.out g h).1) hb1.size
  have hw2 := hb2.size
  have HW2 := Lib.hid hown2
  clear hown2 hg2 hat2
  go_wp2_with (at_builtin; refine wpList_append_any _ (by rfl) (Operand.tmp 24) (Operand.tmp 27) 23 (by rfl) w.heap.size 39 i0 _ 2 16 Try.underlying23 hi0 hz0 hz1 hz2 rfl (by omega) _ _ _ (by rfl) HW2.out w.heap.size _ (us.length - tt) _ ((us.drop tt).map Rv.cells).flatten (by rfl) (HR3.out.below hb2) HO3.out (by unfold maxLen; omega) (by omega) hb2.size ?_)
  intro v3 w3 hown3 hg3 hat3
  have hb3 : Below w.heap.size w w3 := below_row hb2 hg3 (fun g h => (World.ownsRow.lt HW2.out g h).1) hb2.size
  have HW3 := Lib.hid hown3
  clear hown3 hg3 hat3
  go_wp2_with fail
  go_ret
  refine ⟨⟨v3, rfl, ?_⟩, hb3⟩
  have h := HW3.out
  unfold OwnR
  rw [List.map_append, List.map_append, List.flatten_append, List.flatten_append, List.length_append, List.length_append, List.length_map, List.length_map, List.length_map, List.length_take, List.length_drop]
  simpa [Nat.min_eq_left hft, Nat.add_assoc] using h

set_option maxRecDepth 100000 in
set_option maxHeartbeats 1000000 in
theorem splice_end (w : World) (A2 : Option Addr) (c2 : Nat) (us xs : List Rv) (i0 : TypeInfo) (ad : Addr) (c fr tt : Nat) (hA : Rvs w w.heap.size (some ad) us) (hc : us.length ≤ c) (hcm : c ≤ maxLen) (hft : fr ≤ us.length) (htt : tt ≤ us.length) (hct : c = tt) (hX : Reads w w.heap.size 2 A2 xs.length (xs.map Rv.cells).flatten) (hn : us.length ≤ 1000) (hx : xs.length ≤ 1000)
    (hi0 : Try.prog.info? 39 = some i0) (hz0 : i0.zero = some (.agg #[.int .i64 0, .int .i64 0])) (hz1 : i0.size = 2) (hz2 : i0.bytes = 16) :
    Calls Try.prog 37 #[.slice (some ad) us.length c, .int .i64 fr, .int .i64 tt, .slice A2 xs.length c2] w (SpliceR w (us.take fr ++ (xs ++ us.drop tt))) := by
  have hmk := splice_make us xs i0 hn hx hi0 hz0 hz1 hz2
  have hT : Rvs w w.heap.size (some ad) (us.take fr) := by unfold Rvs; rw [List.map_take]; exact RowsW.take hA fr
  have hR1 := hT.reads
  rw [List.length_take, Nat.min_eq_left hft] at hR1
  have hR3 := Reads.cut (k := tt) hA.reads htt hc
  rw [← flat_drop, if_pos hct] at hR3
  unfold maxLen at hcm
  have hfi : (fr : Int) ≤ (c : Int) := by omega
  have hti : (tt : Int) ≤ (us.length : Int) := by omega
  have hctb : (c == tt) = true := by simpa using hct
  have HR1 := Lib.hid hR1
  have HR2 := Lib.hid hX
  have HR3 := Lib.hid hR3
  have HO1 := Lib.hid (flat_one (us.take fr))
  have HO2 := Lib.hid (flat_one xs)
  have HO3 := Lib.hid (flat_one (us.drop tt))
  clear hR1 hR3 hX
  have hown0 : (w.alloc (.cells (madeCells #[.int .i64 0, .int .i64 0] ((us.length + xs.length) * 2)) 39)).ownsRow w.heap.size 39 2 (.slice (some ⟨w.heap.size, 0, none⟩) 0 (us.length + xs.length)) 0 [] := by
    exact World.ownsRow_made w _ _ (Nat.le_refl _) (by unfold maxLen; omega) (by simp [madeCells])
  have HW0 := Lib.hid hown0
  have hb0 := below_alloc_refl w (.cells (madeCells #[.int .i64 0, .int .i64 0] ((us.length + xs.length) * 2)) 39)
  have hw0 := hb0.size
  clear hown0
  go_enter Try.func37, Try.ntmps37
  go_wp2_with (at_builtin; refine wpList_append_any _ (by rfl) (Operand.tmp 16) (Operand.tmp 19) 23 (by rfl) w.heap.size 39 i0 _ 2 16 Try.underlying23 hi0 hz0 hz1 hz2 rfl (by omega) _ 0 [] (by rfl) HW0.out w.heap.size _ fr _ ((us.take fr).map Rv.cells).flatten (by rfl) (HR1.out.below hb0) HO1.out (by unfold maxLen; omega) (by omega) hb0.size ?_)
  intro v1 w1 hown1 hg1 hat1
  have hb1 : Below w.heap.size w w1 := below_row hb0 hg1 (fun g h => (World.ownsRow.lt HW0.out g h).1) hb0.size
  have hw1 := hb1.size
  have HW1 := Lib.hid hown1
  clear hown1 hg1 hat1
  go_wp2_with (at_builtin; refine wpList_append_any _ (by rfl) (Operand.tmp 21) (Operand.tmp 22) 23 (by rfl) w.heap.size 39 i0 _ 2 16 Try.underlying23 hi0 hz0 hz1 hz2 rfl (by omega) _ _ _ (by rfl) HW1.out w.heap.size A2 xs.length c2 (xs.map Rv.cells).flatten (by rfl) (HR2.out.below hb1) HO2.out (by unfold maxLen; omega) (by omega) hb1.size ?_)
  intro v2 w2 hown2 hg2 hat2
  have hb2 : Below w.heap.size w w2 := below_row hb1 hg2 (fun g h => (World.ownsRow.lt HW1.out g h).1) hb1.size
  have hw2 := hb2.size
  have HW2 := Lib.hid hown2
  clear hown2 hg2 hat2
  go_wp2_with (at_builtin; refine wpList_append_any _ (by rfl) (Operand.tmp 24) (Operand.tmp 27) 23 (by rfl) w.heap.size 39 i0 _ 2 16 Try.underlying23 hi0 hz0 hz1 hz2 rfl (by omega) _ _ _ (by rfl) HW2.out w.heap.size _ (us.length - tt) _ ((us.drop tt).map Rv.cells).flatten (by rfl) (HR3.out.below hb2) HO3.out (by unfold maxLen; omega) (by omega) hb2.size ?_)
  intro v3 w3 hown3 hg3 hat3
  have hb3 : Below w.heap.size w w3 := below_row hb2 hg3 (fun g h => (World.ownsRow.lt HW2.out g h).1) hb2.size
  have HW3 := Lib.hid hown3
  clear hown3 hg3 hat3
  go_wp2_with fail
  go_ret
  refine ⟨⟨v3, rfl, ?_⟩, hb3⟩
  have h := HW3.out
  unfold OwnR
  rw [List.map_append, List.map_append, List.flatten_append, List.flatten_append, List.length_append, List.length_append, List.length_map, List.length_map, List.length_map, List.length_take, List.length_drop]
  simpa [Nat.min_eq_left hft, Nat.add_assoc] using h

/-- A list in which x stands in the place of the elements from fr to tt - 1. -/
theorem splice_any (w : World) (A A2 : Option Addr) (c c2 : Nat) (us xs : List Rv) (fr tt : Nat) (hA : Rvs w w.heap.size A us) (hX : Reads w w.heap.size 2 A2 xs.length (xs.map Rv.cells).flatten) (hn : us.length ≤ 1000) (hx : xs.length ≤ 1000) (hc : us.length ≤ c) (hcm : c ≤ maxLen) (hft : fr ≤ us.length) (htt : tt ≤ us.length)
    (hnil : A = none → c = 0) : Calls Try.prog 37 #[.slice A us.length c, .int .i64 fr, .int .i64 tt, .slice A2 xs.length c2] w (SpliceR w (us.take fr ++ (xs ++ us.drop tt))) := by
  obtain ⟨i0, hi0, hz0, hz1, hz2⟩ := info_parts infoRv
  cases A with
  | none =>
    obtain rfl := hnil rfl
    obtain rfl : us = [] := List.eq_nil_of_length_eq_zero (by omega)
    obtain rfl : fr = 0 := by simpa using hft
    obtain rfl : tt = 0 := by simpa using htt
    have := splice_nil w A2 c2 xs i0 hX hx hi0 hz0 hz1 hz2
    simpa using this
  | some ad =>
    by_cases hct : c = tt
    · exact splice_end w A2 c2 us xs i0 ad c fr tt hA hc hcm hft htt hct hX hn hx hi0 hz0 hz1 hz2
    · exact splice_mid w A2 c2 us xs i0 ad c fr tt hA hc hcm hft htt hct hX hn hx hi0 hz0 hz1 hz2

end Go.Proofs.Yteilknlokjfelaa
