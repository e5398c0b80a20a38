/- Made guarantees. -/
import Derived.Test.YteilknlokjfelaaGua5
import Derived.Test.YteilknlokjfelaaMade1
namespace Go.Proofs.Yteilknlokjfelaa
open Go.RowKit Go.Sort
set_option linter.unusedVariables false
set_option linter.unusedSimpArgs false

/-- A source of numbers at a place. -/
def Src (w : World) (g : Nat) (A : Option Addr) (xs : List Int) (c i : Nat) : Prop := Blk w g 55 #[.slice A xs.length c, .int .i64 i]
theorem src_next (w : World) (g B : Nat) (A : Option Addr) (xs : List Int) (c i : Nat) (m : Int) (hA : Ints w B A xs) (hB : B ≤ g) (hl : xs.length ≤ maxLen) (hk : Src w g A xs c i) (hm1 : 0 < m) (hm2 : m ≤ 4611686018427387904) :
    Calls Try.prog 31 #[.pointer (some ⟨g, 0, none⟩), .int .i64 m] w fun e w' => (∃ v : Int, 0 ≤ v ∧ v < m ∧ e = .returned (.int .i64 v)) ∧ w.grownBy w' (some g) ∧ ∃ j, Src w' g A xs c j :=
  (next_any w g B A xs c i m hA hB hl hk hm1 hm2).mono fun e w' ⟨h1, h2, h3⟩ => ⟨⟨_, Int.emod_nonneg _ (by omega), Int.emod_lt_of_pos _ hm1, h1⟩, h2, _, h3⟩

theorem any_name {P : World → Prop} {w0 : World} (F : World → Prop) (h0 : F w0) (h : ∀ W, F W → P W) : P w0 := h w0 h0
set_option maxHeartbeats 400000 in
theorem small_any (w : World) (g B : Nat) (A : Option Addr) (xs : List Int) (c i : Nat) (few m : Int) (hA : Ints w B A xs) (hB : B ≤ g) (hBw : B ≤ w.heap.size) (hl : xs.length ≤ maxLen) (hk : Src w g A xs c i) (hf1 : 0 < few) (hfm : few ≤ m) (hm2 : m ≤ 4611686018427387904) :
    Calls Try.prog 33 #[.pointer (some ⟨g, 0, none⟩), .int .i64 few, .int .i64 m] w fun e w' => (∃ v : Int, 0 ≤ v ∧ v < m ∧ e = .returned (.int .i64 v)) ∧ w.grownBy w' (some g) ∧ ∃ j, Src w' g A xs c j := by
  have H1 := Lib.hid (src_next w g B A xs c i 5 hA hB hl hk (by omega) (by omega))
  go_enter Try.func33, Try.ntmps33
  go_wp2_with fail
  refine H1.out.mono ?_
  rintro e w1 ⟨⟨v, v0, v1, rfl⟩, hg1, ⟨j, hk1⟩⟩
  have hA1 : Ints w1 B A xs := RowsW.keep hA (fun p hp => World.cell?_of_block (hg1.block p.block (by omega) (fun e => by injection e with e; omega)))
  have H2 := Lib.hid (src_next w1 g B A xs c j m hA1 hB hl hk1 (by omega) hm2)
  have H3 := Lib.hid (src_next w1 g B A xs c j few hA1 hB hl hk1 (by omega) (by omega))
  have HG1 := Lib.hid hg1
  clear hk1 hA1 hg1 H1
  by_cases h4 : v = 4
  · subst h4
    go_wp2_with fail
    refine H2.out.mono ?_
    rintro e w2 ⟨⟨u, u0, u1, rfl⟩, hg2, ⟨j2, hk2⟩⟩
    have HG2 := Lib.hid hg2
    have HK2 := Lib.hid hk2
    clear hg2 hk2
    go_wp2_with fail
    go_ret
    exact ⟨⟨u, u0, u1, rfl⟩, HG1.out.trans HG2.out, j2, HK2.out⟩
  · have hb : (v == 4) = false := by simpa using h4
    clear h4
    go_wp2_with fail
    refine H3.out.mono ?_
    rintro e w2 ⟨⟨u, u0, u1, rfl⟩, hg2, ⟨j2, hk2⟩⟩
    have HG2 := Lib.hid hg2
    have HK2 := Lib.hid hk2
    clear hg2 hk2
    go_wp2_with fail
    go_ret
    exact ⟨⟨u, u0, by omega, rfl⟩, HG1.out.trans HG2.out, j2, HK2.out⟩

set_option maxHeartbeats 400000 in
theorem left_any (w : World) (g : Nat) (A : Option Addr) (xs : List Int) (c i : Nat) (hk : Src w g A xs c i) :
    Calls Try.prog 32 #[.pointer (some ⟨g, 0, none⟩)] w fun e w' => e = .returned (.bool (decide (i < xs.length))) ∧ ∃ q, w' = w.drewN q := by
  have h0 := Blk.cell hk 0
  have h1 := Blk.cell hk 1
  simp only [List.getElem?_toArray, List.getElem?_cons_zero, List.getElem?_cons_succ] at h0 h1
  clear hk
  go_enter Try.func32, Try.ntmps32
  go_wp2_with fail
  go_quiet (fail)
  go_wp2_with fail
  go_ret
  exact ⟨rfl, _, rfl⟩

def LockP (p : Prop) : Prop := p
theorem LockP.mk {p : Prop} (h : LockP p) : p := h
theorem LockP.un {p : Prop} (h : p) : LockP p := h
def MadeP (l : List Rv) (mv rf : Int) : Prop := l.length ≤ 10 ∧ (∀ x ∈ l, 1 ≤ x.m ∧ x.m ≤ mv ∧ 0 ≤ x.a ∧ x.a ≤ 9999) ∧ Asc l ∧ rf = sumA l ∧ 0 ≤ mv ∧ mv ≤ 2 * l.length
theorem MadeP.nil : MadeP [] 0 0 := ⟨by simp, by simp, fun j k hj => by simp at hj, by simp [sumA], by omega, by simp⟩
theorem MadeP.snoc {l : List Rv} {mv rf d a : Int} (h : MadeP l mv rf) (hl : l.length < 10) (hd : 0 ≤ d ∧ d < 2) (ha : 0 ≤ a ∧ a < 10000) : MadeP (l ++ [⟨mv + 1 + d, a⟩]) (mv + 1 + d) (rf + a) := by
  obtain ⟨h1, h2, h3, h4, h5, h6⟩ := h
  refine ⟨by simp; omega, fun x hx => ?_, fun j k hj hk hjk => ?_, by rw [sumA_snoc, h4], by omega, by simp; omega⟩
  · rcases List.mem_append.1 hx with hx | hx
    · have := h2 x hx; omega
    · rw [List.mem_singleton] at hx; subst hx; dsimp only; omega
  · rw [List.length_append, List.length_singleton] at hj hk
    by_cases hk2 : k < l.length
    · rw [List.getElem_append_left hk2, List.getElem_append_left (by omega)]
      exact h3 j k (by omega) hk2 hjk
    · have hk3 : k = l.length := by omega
      subst hk3
      rw [List.getElem_append_left (by omega), List.getElem_append_right (by omega)]
      have := h2 l[j] (List.getElem_mem _)
      simp
      omega

theorem MadeP.sum {l : List Rv} {mv rf : Int} (h : MadeP l mv rf) : 0 ≤ rf ∧ rf ≤ 10000000000000 := by
  obtain ⟨h1, h2, h3, rfl, h5, h6⟩ := h
  have := sumA_rng l (fun x hx => by have := h2 x hx; omega)
  omega
structure GSt (w wr : World) (gu : Nat) (A : Option Addr) (ys : List Int) (c : Nat) (id lv : Int) (l : List Rv) (mv rf : Int) : Prop where
  below : Below w.heap.size w wr
  z : Blk wr w.heap.size 25 #[.int .i64 0, .int .i64 0, .int .i64 0, .slice none 0 0]
  s : ∃ i, Src wr (w.heap.size + 1) A ys c i
  u : ∃ A' cc, Blk wr gu 25 #[.int .i64 id, .int .i64 rf, .int .i64 lv, .slice A' l.length cc] ∧ OwnR wr w.heap.size 39 2 (.slice A' l.length cc) (l.map Rv.cells)
  hgu : w.heap.size + 2 ≤ gu
  p : MadeP l mv rf
theorem GSt.next {w wr w2 : World} {gu c : Nat} {A : Option Addr} {ys : List Int} {id lv mv rf : Int} {l : List Rv} (h : GSt w wr gu A ys c id lv l mv rf) (hw : wr.grownBy w2 (some (w.heap.size + 1))) (hs : ∃ i, Src w2 (w.heap.size + 1) A ys c i) : GSt w w2 gu A ys c id lv l mv rf := by
  obtain ⟨J, hJ⟩ := h.s
  obtain ⟨A', cc, h1, h2⟩ := h.u
  have := h.hgu
  exact ⟨below_only h.below hw (by omega) h.below.size, h.z.only hw (by omega), hs, ⟨A', cc, h1.only hw (by omega), OwnR.kept h2 hw (.inr (OwnR.ne h2 hJ (by decide)))⟩, h.hgu, h.p⟩
theorem GSt.drewN {w wr : World} {gu c : Nat} {A : Option Addr} {ys : List Int} {id lv mv rf : Int} {l : List Rv} (h : GSt w wr gu A ys c id lv l mv rf) (n : Nat) : GSt w (wr.drewN n) gu A ys c id lv l mv rf :=
  ⟨drewN_below h.below n, h.z, h.s, h.u, h.hgu, h.p⟩
theorem heap_alloc2 (w : World) (o1 o2 : Obj) : ((w.alloc o1).alloc o2).heap[w.heap.size + 1]? = some o2 := by
  have := heap_alloc_new (w.alloc o1) o2
  rwa [World.size_alloc] at this
theorem infoRv_ : (Try.prog.info? 39).map (fun i => (i.zero, i.size, i.bytes)) = some (some (.agg #[.int .i64 0, .int .i64 0]), 2, 16) := by kernel_rfl

set_option maxRecDepth 100000 in
set_option maxHeartbeats 2000000 in
theorem madeGua (w : World) (A : Option Addr) (c : Nat) (xs : List Int) (hA : Ints w w.heap.size A xs) (hn : xs.length ≤ c) (hc : c ≤ maxLen) :
    Calls Try.prog 10 #[.slice A xs.length c] w fun e w' => (∃ (id rf lv : Int) (A' : Option Addr) (c' : Nat) (l : List Rv), e = .returned (gv id rf lv A' l.length c') ∧ OwnR w' w.heap.size 39 2 (.slice A' l.length c') (l.map Rv.cells) ∧ l.length ≤ 10) ∧ Below w.heap.size w w' := by
  have hmin : ((xs.take 40).length : Nat) = min xs.length 40 := by simp; omega
  have hA' : Ints w w.heap.size A (xs.take 40) := by
    unfold Ints; rw [List.map_take]; exact RowsW.take hA 40
  have hlen : (xs.take 40).length ≤ 40 := by simp; omega
  generalize xs.take 40 = ys at *
  have HC := Lib.hid fun W => cut_any W A xs.length c 40 hn hc (by simp [maxLen])
  rw [← hmin] at HC
  have hml : ys.length ≤ maxLen := by unfold maxLen; omega
  have HA := Lib.hid hA'
  clear hmin hA hA'
  go_enter Try.func10, Try.ntmps10
  go_wp2_with fail
  refine (HC.out _).mono ?_
  rintro e w1 ⟨⟨c', rfl⟩, rfl⟩
  have kz0 : Blk ((w.alloc (Obj.cells #[.int .i64 0, .int .i64 0, .int .i64 0, .slice none 0 0] 25)).alloc (Obj.cells #[.slice A ys.length c', .int .i64 0] 55)) w.heap.size 25 #[.int .i64 0, .int .i64 0, .int .i64 0, .slice none 0 0] := (Blk.new w _ _).alloc _
  have ks0 : Src ((w.alloc (Obj.cells #[.int .i64 0, .int .i64 0, .int .i64 0, .slice none 0 0] 25)).alloc (Obj.cells #[.slice A ys.length c', .int .i64 0] 55)) (w.heap.size + 1) A ys c' 0 := Blk.newAt (by simp)
  have hb0 : Below w.heap.size w ((w.alloc (Obj.cells #[.int .i64 0, .int .i64 0, .int .i64 0, .slice none 0 0] 25)).alloc (Obj.cells #[.slice A ys.length c', .int .i64 0] 55)) := (by repeat (first | exact Below.refl _ _ | assumption | refine ext_alloc ?_ _ | refine Below.drew ?_ | refine drewN_below ?_ _ | refine ext_trans ?_ (by assumption) | refine Below.alloc ?_ ?_ _ | refine Below.setCell ?_ ?_ _ | omega | (simp <;> omega)))
  have hs0 : ((w.alloc (Obj.cells #[.int .i64 0, .int .i64 0, .int .i64 0, .slice none 0 0] 25)).alloc (Obj.cells #[.slice A ys.length c', .int .i64 0] 55)).heap.size = w.heap.size + 2 := by simp
  go_wp2_with fail
  generalize (w.alloc (Obj.cells #[.int .i64 0, .int .i64 0, .int .i64 0, .slice none 0 0] 25)).alloc (Obj.cells #[.slice A ys.length c', .int .i64 0] 55) = W1 at *
  have HZ0 := Lib.hid kz0
  have HS0 := Lib.hid hs0
  have hs1 : w.heap.size + 2 ≤ W1.heap.size := by omega
  clear kz0 hs0
  refine (src_next W1 (w.heap.size + 1) w.heap.size A ys c' 0 9 (RowsW.below HA.out hb0) (by omega) hml ks0 (by omega) (by omega)).mono ?_
  rintro e w2 ⟨⟨v, v0, v1, rfl⟩, hg2, ⟨j2, hk2⟩⟩
  have hb2 : Below w.heap.size w w2 := below_row hb0 hg2 (fun g h => by injection h with h; omega) (by omega)
  have kz2 := HZ0.out.only hg2 (by omega)
  have hs2 := hg2.size
  have kl2 : Blk (w2.alloc (Obj.cells #[.int .i64 0, .int .i64 300000, .int .i64 500000, .int .i64 999999, .int .i64 1000000] 3)) w2.heap.size 3 #[.int .i64 0, .int .i64 300000, .int .i64 500000, .int .i64 999999, .int .i64 1000000] := Blk.new _ _ _
  have HG2 := Lib.hid hg2
  have HK2 := Lib.hid hk2
  have HZ2 := Lib.hid kz2
  clear ks0 hg2 hk2 kz2
  go_wp2_with fail
  refine (src_next _ (w.heap.size + 1) w.heap.size A ys c' j2 5 (RowsW.below HA.out (hb2.alloc (by omega) _)) (by omega) hml (HK2.out.alloc _) (by omega) (by omega)).mono ?_
  rintro e w3 ⟨⟨u, u0, u1, rfl⟩, hg3, ⟨j3, hk3⟩⟩
  have hb3 : Below w.heap.size w w3 := below_row (hb2.alloc (by omega) _) hg3 (fun g h => by injection h with h; omega) (by simp; omega)
  have kz3 := (HZ2.out.alloc _).only hg3 (by omega)
  have kl3 := kl2.only hg3 (by omega)
  have hs3 := hg3.size
  rw [World.size_alloc] at hs3
  obtain ⟨U, rfl⟩ : ∃ U : Nat, u = U := ⟨u.toNat, by omega⟩
  obtain ⟨lv, hlv⟩ : ∃ lv : Int, w3.cell? ⟨w2.heap.size, U, none⟩ = some (.int .i64 lv) := by
    rw [kl3.cell U]
    have hU : U < 5 := by omega
    match U, hU with
    | 0, _ => exact ⟨_, rfl⟩
    | 1, _ => exact ⟨_, rfl⟩
    | 2, _ => exact ⟨_, rfl⟩
    | 3, _ => exact ⟨_, rfl⟩
    | 4, _ => exact ⟨_, rfl⟩
  have HK3 := Lib.hid hk3
  have HZ3 := Lib.hid kz3
  clear hg3 hk3 kz3 kl3 kl2
  go_wp2_with fail
  have hb4 : Below w.heap.size w (w3.alloc (Obj.cells #[.int .i64 (1 + v), .int .i64 0, .int .i64 lv, .slice none 0 0] 25)) := hb3.alloc (by omega) _
  have st0 : GSt w (w3.alloc (Obj.cells #[.int .i64 (1 + v), .int .i64 0, .int .i64 lv, .slice none 0 0] 25)) w3.heap.size A ys c' (1 + v) lv [] 0 0 :=
    ⟨hb4, HZ3.out.alloc _, ⟨j3, HK3.out.alloc _⟩, ⟨none, 0, Blk.new _ _ _, OwnR.nil _ _ _ _⟩, by omega, MadeP.nil⟩
  have HST0 := Lib.hid st0
  obtain ⟨gu, hgu⟩ : ∃ gu, gu = w3.heap.size := ⟨_, rfl⟩
  rw [← hgu] at HST0 ⊢
  obtain ⟨id, hid_⟩ : ∃ id, id = 1 + v := ⟨_, rfl⟩
  rw [← hid_] at HST0 ⊢
  clear st0 hb4 hlv HK3 HZ3 HK2 HZ2 HG2 HZ0 HS0 hb0 hb2 hb3 hs1 hs2 hs3 u0 u1 v0 v1 hid_ hgu
  go_loopw [5, 6] (fun m p wr => ∃ (l : List Rv) (mv rf : Int), m = .int .i64 mv ∧ Hid (GSt w wr gu A ys c' id lv l mv rf) ∧ 0 ≤ mv) (fun m _ _ => 21 - (intOf m).toNat)
  case atStart => exact ⟨[], 0, 0, rfl, HST0, by omega⟩
  case round =>
    obtain ⟨l, mv, rf, rfl, HST, hmv0⟩ := hrel
    clear HST0
    obtain ⟨i, hsi⟩ := HST.out.s
    obtain ⟨A1, c1, hu1, hown1⟩ := HST.out.u
    have hl10 := HST.out.p.1
    have hmvl := HST.out.p.2.2.2.2.2
    have x1 := hu1.cell 1
    have x3 := hu1.cell 3
    simp only [List.getElem?_toArray, List.getElem?_cons_zero, List.getElem?_cons_succ] at x1 x3
    have HL := Lib.hid (left_any wr (w.heap.size + 1) A ys c' i hsi)
    clear hsi hu1 hown1
    by_cases hgo : i < ys.length ∧ l.length < 10
    · obtain ⟨g1, g2⟩ := hgo
      go_wp2_with fail
      refine HL.out.mono ?_
      rintro e w5 ⟨rfl, dq, rfl⟩
      have HST5 := Lib.hid (HST.out.drewN dq)
      have y3 : (wr.drewN dq).cell? ⟨gu, 3, none⟩ = some (.slice A1 l.length c1) := x3
      clear x1 x3
      generalize wr.drewN dq = W5 at *
      clear HST HL
      obtain ⟨i5, hs5⟩ := HST5.out.s
      go_wp2_with fail
      clear y3
      refine (src_next W5 (w.heap.size + 1) w.heap.size A ys c' i5 2 (RowsW.below HA.out HST5.out.below) (by omega) hml hs5 (by omega) (by omega)).mono ?_
      rintro e w6 ⟨⟨d, d0, d1, rfl⟩, hg6, hs6⟩
      have HST6 := Lib.hid (HST5.out.next hg6 hs6)
      clear HST5 hg6 hs6 hs5
      obtain ⟨i6, hs6⟩ := HST6.out.s
      go_wp2_with fail
      refine (small_any w6 (w.heap.size + 1) w.heap.size A ys c' i6 60 10000 (RowsW.below HA.out HST6.out.below) (by omega) HST6.out.below.size hml hs6 (by omega) (by omega) (by omega)).mono ?_
      rintro e w7 ⟨⟨a, a0, a1, rfl⟩, hg7, hs7⟩
      have HST7 := Lib.hid (HST6.out.next hg7 hs7)
      clear HST6 hg7 hs7 hs6
      obtain ⟨A7, c7, hu7, hown7⟩ := HST7.out.u
      have hw7 := HST7.out.below.size
      have x1 := hu7.cell 1
      have x3 := hu7.cell 3
      have xf := hu7.frozen 3
      have xf1 := hu7.frozen 1
      have xlt := hu7.lt
      simp only [List.getElem?_toArray, List.getElem?_cons_zero, List.getElem?_cons_succ] at x1 x3
      have HU7 := Lib.hid hu7
      have HO7 := Lib.hid hown7
      have hP7 := Lib.hid (HST7.out.p.snoc g2 ⟨d0, d1⟩ ⟨a0, a1⟩)
      have hne7 := Lib.hid (OwnR.ne hown7 hu7 (by decide))
      have hlen1 : (l.map Rv.cells).length + 1 ≤ 10 := by simp; omega
      clear hu7 hown7
      obtain ⟨i0, hi0, hz0, hz1, hz2⟩ := info_parts infoRv_
      go_wp2_with (at_builtin; refine LockP.mk ?_)
      refine LockP.un ?_
      refine wpList_append_lies _ (by rfl) (Operand.tmp 38) (Operand.tmp 40) 23 (by rfl) w.heap.size 39 i0 _ 2 16 Try.underlying23 hi0 hz0 hz1 hz2 rfl (by omega) _ (l.map Rv.cells).length (l.map Rv.cells).flatten (by rfl) (by exact (HO7.out.alloc _).alloc _) _ 1 1 (Rv.cells ⟨mv + 1 + d, a⟩) (by rfl) (by rfl) (by exact World.news_of_block (cs := #[.int .i64 (mv + 1 + d), .int .i64 a]) (t := 39) (fr := (0, 0)) (heap_alloc2 w7 _ _)) (by simp [Rv.cells, Value.oneCell']) (by omega) (by unfold maxLen; omega) (by omega) (by simp; omega) _ (by rfl) ?_
      intro g8 cap8 w8 hown8 hgrow8 hat8 hlt8
      have elen : (l.map Rv.cells).length = l.length := by simp
      have hgr : ((w7.alloc (Obj.cells #[.int .i64 (mv + 1 + d), .int .i64 a] 39)).alloc (Obj.cells #[.int .i64 (mv + 1 + d), .int .i64 a] 39)).grownBy w8 (Value.slice A7 l.length c7).ownBlock := hgrow8
      have hU8 := ((HU7.out.alloc (Obj.cells #[.int .i64 (mv + 1 + d), .int .i64 a] 39)).alloc (Obj.cells #[.int .i64 (mv + 1 + d), .int .i64 a] 39)).row hgr hne7.out
      have hZ8 := ((HST7.out.z.alloc (Obj.cells #[.int .i64 (mv + 1 + d), .int .i64 a] 39)).alloc (Obj.cells #[.int .i64 (mv + 1 + d), .int .i64 a] 39)).row hgr (OwnR.ne HO7.out HST7.out.z (by decide))
      obtain ⟨i7, hs7⟩ := HST7.out.s
      have hS8 := Blk.row ((Blk.alloc hs7 (Obj.cells #[.int .i64 (mv + 1 + d), .int .i64 a] 39)).alloc (Obj.cells #[.int .i64 (mv + 1 + d), .int .i64 a] 39)) hgr (OwnR.ne HO7.out hs7 (by decide))
      have hown : OwnR w8 w.heap.size 39 2 (.slice (some ⟨g8, 0, none⟩) (l.length + 1) cap8) ((l ++ [(⟨mv + 1 + d, a⟩ : Rv)]).map Rv.cells) := by
        rw [elen] at hown8
        rw [List.map_append]
        exact OwnR.snoc (n := l.length + 1) (by simp) hown8
      have hB8 : Below w.heap.size w w8 := below_row ((HST7.out.below.alloc (by omega) _).alloc (by simp; omega) _) hgr (fun g hg => (World.ownsRow.lt HO7.out g hg).1) (by simp; omega)
      have x1 := hU8.cell 1
      have x3 := hU8.cell 3
      have xf := hU8.frozen 3
      have xf1 := hU8.frozen 1
      have xlt := hU8.lt
      simp only [List.getElem?_toArray, List.getElem?_cons_zero, List.getElem?_cons_succ] at x1 x3
      have hR8 := ((Blk.new w7 39 #[.int .i64 (mv + 1 + d), .int .i64 a]).alloc (Obj.cells #[.int .i64 (mv + 1 + d), .int .i64 a] 39)).row hgr (fun e => by have := (World.ownsRow.lt HO7.out _ e).2; omega)
      have x5 := hR8.cell 1
      simp only [List.getElem?_toArray, List.getElem?_cons_zero, List.getElem?_cons_succ] at x5
      have xlt0 := HU7.out.lt
      have xne : gu ≠ w7.heap.size := by omega
      have xne2 : w7.heap.size ≠ gu := by omega
      have HU8 := Lib.hid hU8
      have HZ8 := Lib.hid hZ8
      have HS8 := Lib.hid hS8
      have HO8 := Lib.hid hown
      have HB8 := Lib.hid hB8
      clear hown8 hgrow8 hat8 hgr hU8 hZ8 hS8 hown hB8 hs7 HU7 HO7 hne7 hR8
      have HP8 := Lib.hid (hP7.out.sum)
      have hgu7 := HST7.out.hgu
      go_wp2_with fail
      have hwr : wrap64 (rf + a) = rf + a := IntWalk.wrap64_in _ (by have := HP8.out; omega)
      rw [hwr]
      clear x1 x3 x5 xf xf1
      refine ⟨⟨l ++ [⟨mv + 1 + d, a⟩], mv + 1 + d, rf + a, rfl, Lib.hid ⟨(HB8.out.setCell (by show _ ≤ gu; omega) _).setCell (by show _ ≤ gu; omega) _, (HZ8.out.far (by show _ ≠ gu; omega) _).far (by show _ ≠ gu; omega) _, ⟨i7, (HS8.out.far (by show _ ≠ gu; omega) _).far (by show _ ≠ gu; omega) _⟩, ⟨some ⟨g8, 0, none⟩, cap8, ?_, ?_⟩, HST7.out.hgu, hP7.out⟩, by omega⟩, ?_⟩
      · rw [List.length_append, List.length_singleton]
        exact (HU8.out.set_ 3 _).set_ 1 _
      · rw [List.length_append, List.length_singleton]
        exact OwnR.kept HO8.out (only_setCell (only_setCell (g := gu) (only_refl w8 _) (.inl rfl) _) (.inl rfl) _) (.inr (OwnR.ne HO8.out HU8.out (by decide)))
      · show 21 - (mv + 1 + d).toNat < 21 - mv.toNat
        omega
    · go_wp2_with fail
      refine HL.out.mono ?_
      rintro e w5 ⟨rfl, dq, rfl⟩
      have HST5 := Lib.hid (HST.out.drewN dq)
      have y3 : (wr.drewN dq).cell? ⟨gu, 3, none⟩ = some (.slice A1 l.length c1) := x3
      have y1 : (wr.drewN dq).cell? ⟨gu, 1, none⟩ = some (.int .i64 rf) := x1
      clear x1 x3
      generalize wr.drewN dq = W5 at *
      clear HST HL
      obtain ⟨i5, hs5⟩ := HST5.out.s
      have HR5 := Lib.hid (RowsW.below HA.out HST5.out.below)
      have HS5 := Lib.hid hs5
      have hw5 := HST5.out.below.size
      obtain ⟨A5, c5, hu5, hown5⟩ := HST5.out.u
      have yf1 := hu5.frozen 1
      have ylt := hu5.lt
      have hgu5 := HST5.out.hgu
      have HU5 := Lib.hid hu5
      have HO5 := Lib.hid hown5
      have HP5 := Lib.hid HST5.out.p.sum
      have hne5 := Lib.hid (OwnR.ne hown5 hs5 (by decide))
      clear hu5 hown5 hs5
      rcases Nat.lt_or_ge i ys.length with h1 | h1
      · have h2 : ¬ l.length < 10 := fun h => hgo ⟨h1, h⟩
        have e1 : l.length = 10 := by omega
        go_wp2_with fail
        go_region_with (first | (go_at_call 33; refine (small_any _ (w.heap.size + 1) w.heap.size A ys c' i5 100 1000000 (by exact HR5.out) (by omega) (by exact hw5) hml (by exact HS5.out) (by omega) (by omega) (by omega)).mono ?_; rintro e w6 ⟨⟨a, a0, a1, rfl⟩, hg6', hs6⟩; have hg6 := only_of_drew hg6'; have hwr : IntKind.i64.wrap (rf + a) = rf + a := IntWalk.i64_in _ (by have := HP5.out; omega); have xf6 := (HU5.out.only hg6 (by omega)).frozen 1; have x6 : w6.cell? ⟨gu, 1, none⟩ = some (.int .i64 rf) := (HU5.out.only hg6 (by omega)).cell 1; have xl6 := (HU5.out.only hg6 (by omega)).lt))
        all_goals
          have hu6 := HU5.out.only hg6 (by omega)
          have ho6 := OwnR.kept HO5.out hg6 (.inr hne5.out)
          have hz6 := HST5.out.z.only hg6 (by omega)
          have hb6 : Below w.heap.size w w6 := below_row HST5.out.below hg6 (fun g h => by injection h with h; omega) (by omega)
          obtain ⟨rf2, hrf2⟩ : ∃ rf2, rf2 = rf + a := ⟨_, rfl⟩
          rw [← hrf2]
          refine any_name (P := Exit.then _ _ Exit.normal _) (fun W => Below w.heap.size w W ∧ Blk W w.heap.size 25 #[.int .i64 0, .int .i64 0, .int .i64 0, .slice none 0 0] ∧ Blk W gu 25 #[.int .i64 id, .int .i64 rf2, .int .i64 lv, .slice A5 l.length c5] ∧ OwnR W w.heap.size 39 2 (.slice A5 l.length c5) (l.map Rv.cells)) ⟨hb6.setCell (by show _ ≤ gu; omega) _, hz6.far (by show _ ≠ gu; omega) _, hu6.set_ 1 _, OwnR.kept ho6 (only_setCell (g := gu) (only_refl w6 _) (.inl rfl) _) (.inr (OwnR.ne ho6 hu6 (by decide)))⟩ ?_
          rintro W5' ⟨hb7, k5, k6, ho7⟩
          have y0 := k5.cell 0
          have y1' := k5.cell 1
          have y2 := k5.cell 2
          have y3' := k5.cell 3
          have x0 := k6.cell 0
          have x1 := k6.cell 1
          have x2 := k6.cell 2
          have x3 := k6.cell 3
          simp only [List.getElem?_toArray, List.getElem?_cons_zero, List.getElem?_cons_succ] at y0 y1' y2 y3' x0 x1 x2 x3
          have yf : ∀ j, W5'.frozen? ⟨w.heap.size, j, none⟩ = false := fun j => k5.frozen j
          have K5 := Lib.hid k5
          have HO7 := Lib.hid ho7
          clear hu6 ho6 hz6 hb6 hg6 hs6 k5 k6 ho7
          go_wp2_with fail
          refine bodyPost_ret (v := gv id rf2 lv A5 l.length c5) (by simp [results, Try.results10, go_sem, y0, y1', y2, y3', yf, gv] <;> first | assumption | omega) rfl ?_
          have ho8 := OwnR.kept HO7.out (only_setCell (g := w.heap.size) (only_setCell (g := w.heap.size) (only_setCell (g := w.heap.size) (only_setCell (g := w.heap.size) (only_refl W5' _) (p := ⟨w.heap.size, 0, none⟩) (.inl rfl) (.int .i64 id)) (p := ⟨w.heap.size, 1, none⟩) (.inl rfl) (.int .i64 rf2)) (p := ⟨w.heap.size, 2, none⟩) (.inl rfl) (.int .i64 lv)) (p := ⟨w.heap.size, 3, none⟩) (.inl rfl) (.slice A5 l.length c5)) (.inr (OwnR.ne HO7.out K5.out (by decide)))
          subst hrf2
          exact ⟨⟨_, _, _, A5, c5, l, rfl, by simpa only [e1] using ho8, hl10⟩, (by repeat (first | exact Below.refl _ _ | assumption | refine ext_alloc ?_ _ | refine Below.drew ?_ | refine drewN_below ?_ _ | refine ext_trans ?_ (by assumption) | refine Below.alloc ?_ ?_ _ | refine Below.setCell ?_ ?_ _ | omega | (simp <;> omega)))⟩
      · have e1 : decide (i < ys.length) = false := by simp; omega
        rw [e1]
        go_wp2_with fail
        go_region_with (first | (go_at_call 33; refine (small_any _ (w.heap.size + 1) w.heap.size A ys c' i5 100 1000000 (by exact HR5.out) (by omega) (by exact hw5) hml (by exact HS5.out) (by omega) (by omega) (by omega)).mono ?_; rintro e w6 ⟨⟨a, a0, a1, rfl⟩, hg6', hs6⟩; have hg6 := only_of_drew hg6'; have hwr : IntKind.i64.wrap (rf + a) = rf + a := IntWalk.i64_in _ (by have := HP5.out; omega); have xf6 := (HU5.out.only hg6 (by omega)).frozen 1; have x6 : w6.cell? ⟨gu, 1, none⟩ = some (.int .i64 rf) := (HU5.out.only hg6 (by omega)).cell 1; have xl6 := (HU5.out.only hg6 (by omega)).lt))
        all_goals
          have hu6 := HU5.out.only hg6 (by omega)
          have ho6 := OwnR.kept HO5.out hg6 (.inr hne5.out)
          have hz6 := HST5.out.z.only hg6 (by omega)
          have hb6 : Below w.heap.size w w6 := below_row HST5.out.below hg6 (fun g h => by injection h with h; omega) (by omega)
          obtain ⟨rf2, hrf2⟩ : ∃ rf2, rf2 = rf + a := ⟨_, rfl⟩
          rw [← hrf2]
          refine any_name (P := Exit.then _ _ Exit.normal _) (fun W => Below w.heap.size w W ∧ Blk W w.heap.size 25 #[.int .i64 0, .int .i64 0, .int .i64 0, .slice none 0 0] ∧ Blk W gu 25 #[.int .i64 id, .int .i64 rf2, .int .i64 lv, .slice A5 l.length c5] ∧ OwnR W w.heap.size 39 2 (.slice A5 l.length c5) (l.map Rv.cells)) ⟨hb6.setCell (by show _ ≤ gu; omega) _, hz6.far (by show _ ≠ gu; omega) _, hu6.set_ 1 _, OwnR.kept ho6 (only_setCell (g := gu) (only_refl w6 _) (.inl rfl) _) (.inr (OwnR.ne ho6 hu6 (by decide)))⟩ ?_
          rintro W5' ⟨hb7, k5, k6, ho7⟩
          have y0 := k5.cell 0
          have y1' := k5.cell 1
          have y2 := k5.cell 2
          have y3' := k5.cell 3
          have x0 := k6.cell 0
          have x1 := k6.cell 1
          have x2 := k6.cell 2
          have x3 := k6.cell 3
          simp only [List.getElem?_toArray, List.getElem?_cons_zero, List.getElem?_cons_succ] at y0 y1' y2 y3' x0 x1 x2 x3
          have yf : ∀ j, W5'.frozen? ⟨w.heap.size, j, none⟩ = false := fun j => k5.frozen j
          have K5 := Lib.hid k5
          have HO7 := Lib.hid ho7
          clear hu6 ho6 hz6 hb6 hg6 hs6 k5 k6 ho7
          go_wp2_with fail
          refine bodyPost_ret (v := gv id rf2 lv A5 l.length c5) (by simp [results, Try.results10, go_sem, y0, y1', y2, y3', yf, gv] <;> first | assumption | omega) rfl ?_
          have ho8 := OwnR.kept HO7.out (only_setCell (g := w.heap.size) (only_setCell (g := w.heap.size) (only_setCell (g := w.heap.size) (only_setCell (g := w.heap.size) (only_refl W5' _) (p := ⟨w.heap.size, 0, none⟩) (.inl rfl) (.int .i64 id)) (p := ⟨w.heap.size, 1, none⟩) (.inl rfl) (.int .i64 rf2)) (p := ⟨w.heap.size, 2, none⟩) (.inl rfl) (.int .i64 lv)) (p := ⟨w.heap.size, 3, none⟩) (.inl rfl) (.slice A5 l.length c5)) (.inr (OwnR.ne HO7.out K5.out (by decide)))
          subst hrf2
          exact ⟨⟨_, _, _, A5, c5, l, rfl, by simpa only [e1] using ho8, hl10⟩, (by repeat (first | exact Below.refl _ _ | assumption | refine ext_alloc ?_ _ | refine Below.drew ?_ | refine drewN_below ?_ _ | refine ext_trans ?_ (by assumption) | refine Below.alloc ?_ ?_ _ | refine Below.setCell ?_ ?_ _ | omega | (simp <;> omega)))⟩

end Go.Proofs.Yteilknlokjfelaa
