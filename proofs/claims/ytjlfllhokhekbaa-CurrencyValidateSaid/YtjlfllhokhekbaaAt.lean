/- The rate of a day: the program's and the reference's. -/
import Derived.Test.YtjlfllhokhekbaaCur2
import Derived.Test.YtjlfllhokhekbaaMaps
namespace Go.Proofs.Ytjlfllhokhekbaa
open Go.RowKit Go.Sort
set_option linter.unusedVariables false

def eur : List UInt8 := [69, 85, 82]
def rateStep (day : Int) (f : List UInt8 → Option Int) (x : Ex) : List UInt8 → Option Int := if x.f ≤ day then upd f x.c.data.toList x.p else f
def ratesF (xs : List Ex) (day : Int) : List UInt8 → Option Int := xs.foldl (rateStep day) (upd (fun _ => none) eur 1000000)
def lastStep (c : List UInt8) (day : Int) (r : Int) (x : Ex) : Int := if x.c.data.toList = c ∧ x.f ≤ day then x.p else r
def lastR (xs : List Ex) (c : List UInt8) (day : Int) : Int := xs.foldl (lastStep c day) 0

theorem take_snoc_ {α : Type} (xs : List α) (k : Nat) (h : k < xs.length) : xs.take (k + 1) = xs.take k ++ [xs[k]] := by
  rw [List.take_succ_eq_append_getElem h]
theorem ratesF_succ (xs : List Ex) (day : Int) (k : Nat) (h : k < xs.length) : ratesF (xs.take (k + 1)) day = rateStep day (ratesF (xs.take k) day) xs[k] := by
  unfold ratesF; rw [take_snoc_ xs k h, List.foldl_append]; rfl
theorem lastR_succ (xs : List Ex) (c : List UInt8) (day : Int) (k : Nat) (h : k < xs.length) : lastR (xs.take (k + 1)) c day = lastStep c day (lastR (xs.take k) c day) xs[k] := by
  unfold lastR; rw [take_snoc_ xs k h, List.foldl_append]; rfl

/-- What a valid row is. -/
def ExOk (x : Ex) : Prop := x.c.data.toList ≠ eur ∧ 0 ≤ x.f ∧ x.f ≤ 36524 ∧ 1 ≤ x.p ∧ x.p ≤ 1000000000
theorem exErr_ok (xs : List Ex) (h : ∀ k, k < xs.length → exErr xs k = 0) : ∀ x ∈ xs, ExOk x := by
  intro x hx
  obtain ⟨k, hk, rfl⟩ := List.getElem_of_mem hx
  have h0 := h k hk
  have hg : xs[k]? = some xs[k] := List.getElem?_eq_getElem hk
  cases hb : tabB xs[k].c
  · rw [exErr_0 xs _ k hg hb] at h0; cases h0
  · by_cases hr : xs[k].f < 0 ∨ 36524 < xs[k].f ∨ xs[k].p < 1 ∨ 1000000000 < xs[k].p
    · rw [exErr_1 xs _ k hg hb hr] at h0; cases h0
    · refine ⟨fun e => ?_, by omega, by omega, by omega, by omega⟩
      rw [← ByteArray.toList_eq] at e
      simp [tabB, e, eur] at hb
theorem firstE_zero (f : Nat → Int) (n : Nat) (h : firstE f 0 n = 0) : ∀ k, k < n → f k = 0 := by
  have key : ∀ m k, k < m → k < n → f k = 0 := by
    intro m
    induction m with
    | zero => intro k h1; omega
    | succ m ih =>
      intro k h1 h2
      by_cases hf : f k = 0
      · exact hf
      · have := firstE_at f n k h2 (fun j hj => ih j (by omega) (by omega)) hf
        omega
  intro k hk
  exact key (k + 1) k (by omega) hk
theorem tabE_ok (xs : List Ex) (h : tabE xs = 0) : ∀ x ∈ xs, ExOk x := by
  unfold tabE at h
  split at h
  · cases h
  · exact exErr_ok xs (firstE_zero _ _ h)

theorem rates_of (xs : List Ex) (day : Int) (c : List UInt8) (h : ∀ x ∈ xs, ExOk x) :
    ratesF xs day c = if c = eur then some 1000000 else if lastR xs c day = 0 then none else some (lastR xs c day) := by
  have key : ∀ (ys : List Ex) (f : List UInt8 → Option Int) (r : Int), (∀ x ∈ ys, ExOk x) → (f c = if c = eur then some 1000000 else if r = 0 then none else some r) →
      ys.foldl (rateStep day) f c = if c = eur then some 1000000 else if ys.foldl (lastStep c day) r = 0 then none else some (ys.foldl (lastStep c day) r) := by
    intro ys
    induction ys with
    | nil => intro f r _ hf; exact hf
    | cons x ys ih =>
      intro f r hx hf
      simp only [List.foldl_cons]
      refine ih _ _ (fun y hy => hx y (by simp [hy])) ?_
      obtain ⟨o1, _, _, o4, _⟩ := hx x (by simp)
      by_cases h1 : x.f ≤ day
      · by_cases h2 : c = x.c.data.toList
        · have h3 : ¬ c = eur := fun e => o1 (by rw [← h2]; exact e)
          simp only [rateStep, lastStep, upd, h1, h2, and_self, if_true]
          rw [if_neg (by rw [← h2]; exact h3), if_neg (by omega)]
        · have h3 : ¬ (x.c.data.toList = c ∧ x.f ≤ day) := fun e => h2 e.1.symm
          simp only [rateStep, lastStep, if_pos h1, upd, if_neg h2, if_neg h3]
          exact hf
      · have h3 : ¬ (x.c.data.toList = c ∧ x.f ≤ day) := fun e => h1 e.2
        simp only [rateStep, lastStep, if_neg h1, if_neg h3]
        exact hf
  refine key xs _ 0 h ?_
  unfold upd
  by_cases hc : c = eur <;> simp [hc]

/-- The rate of a day, and the error (P5.2). -/
def atS (xs : List Ex) (c : List UInt8) (day : Int) : Int × Int :=
  if tabE xs ≠ 0 then (0, tabE xs) else if day < 0 ∨ 36524 < day then (0, 2) else if c = eur then (1000000, 0) else if lastR xs c day = 0 then (0, 6) else (lastR xs c day, 0)
def pairV (u : Int × Int) : Value := .tuple #[.int .i64 u.1, .int .i64 u.2]

set_option maxHeartbeats 1000000 in
theorem ratesOn_any (w : World) (A : Option Addr) (cap : Nat) (xs : List Ex) (day : Int) (hA : Tab w w.heap.size A xs) (hn : xs.length ≤ 1000) (hs : ∀ x ∈ xs, x.c.size ≤ maxLen) (hok : ∀ x ∈ xs, ExOk x) :
    Calls Try.prog 30 #[.slice A xs.length cap, .int .i64 day] w fun e w' => (∃ b n, e = .returned (.map (some b)) ∧ MapI w' b n (ratesF xs day)) ∧ Below w.heap.size w w' := by
  have hmm := @run_makeMap Try.prog
  obtain ⟨w1, hrun, hm1, hg1⟩ := MapI.update (MapI.made w) 58 Try.underlying58 (by simp [maxLen]) ⟨#[69, 85, 82]⟩ (by simp [maxLen, ByteArray.size]) 1000000 (by decide)
  have hb1 : Below w.heap.size w w1 := below_row (below_alloc_refl w _) hg1 (fun g h => by injection h; omega) (by simp)
  have HM := Lib.hid hm1
  go_enter Try.func30, Try.ntmps30
  go_wp2_with fail
  obtain ⟨b, hb⟩ : ∃ b, w.heap.size = b := ⟨_, rfl⟩
  have hbB : w.heap.size ≤ b := by omega
  replace HM : Hid (MapI w1 b (0 + 1) (ratesF (xs.take 0) day)) := by rw [← hb]; exact HM
  rw [hb]
  clear hm1 hrun hg1 hmm hb
  go_loopw [7, 12] (fun p i wr => ∃ j : Nat, j ≤ xs.length ∧ i = .int .i64 j ∧ MapI wr b (j + 1) (ratesF (xs.take j) day) ∧ Below w.heap.size w wr) (fun _ i _ => xs.length - (intOf i).toNat)
  case atStart => exact ⟨0, by omega, rfl, HM.out, hb1⟩
  case round =>
    obtain ⟨j, hj, rfl, hmj, hbl⟩ := hrel
    have HMj := Lib.hid hmj
    have hsw := hbl.size
    clear hmj HM
    by_cases hlt : j < xs.length
    · obtain ⟨ad, hA', hB, c0, c1, c2⟩ := Tab.at_ (RowsW.below hA hbl) hlt
      have hsz := hs xs[j] (List.getElem_mem _)
      obtain ⟨_, _, _, o3, o4⟩ := hok xs[j] (List.getElem_mem _)
      have HR := Lib.hid (ratesF_succ xs day j hlt)
      subst hA'
      generalize xs[j] = x at *
      by_cases hday : x.f ≤ day
      · obtain ⟨w2, hrun, hm2, hg2⟩ := MapI.update (HMj.out.ext (below_alloc_refl wr (Obj.cells #[.string x.c, .int .i64 x.f, .int .i64 x.p] 25))) 58 Try.underlying58 (by simp [maxLen]; omega) x.c hsz x.p (i64_wf (by omega) (by omega))
        have HM2 := Lib.hid hm2
        have hb2 : Below w.heap.size w w2 := below_row (hbl.alloc hbl.size _) hg2 (fun g h => by injection h; omega) (by simp; omega)
        clear hm2 hg2
        go_wp2_with fail
        go_roundw
        case rel => exact ⟨j + 1, by omega, by go_num, by rw [HR.out, rateStep, if_pos hday]; exact HM2.out, hb2⟩
        case measure => simp [intOf]; omega
      · go_wp2_with fail
        go_roundw
        case rel => exact ⟨j + 1, by omega, by go_num, by rw [HR.out, rateStep, if_neg hday]; exact (HMj.out.ext (below_alloc_refl wr _)).mono (by omega), (by repeat (first | exact Below.refl _ _ | assumption | refine ext_alloc ?_ _ | refine Below.drew ?_ | refine drewN_below ?_ _ | refine ext_trans ?_ (by assumption) | refine Below.alloc ?_ ?_ _ | refine Below.setCell ?_ ?_ _ | omega | (simp <;> omega)))⟩
        case measure => simp [intOf]; omega
    · obtain rfl : j = xs.length := by omega
      go_wp2_with fail
      go_ret
      refine ⟨⟨b, xs.length + 1, rfl, ?_⟩, hbl⟩
      have := HMj.out
      rw [List.take_length] at this
      exact this

theorem atS_bad (xs : List Ex) (c : List UInt8) (day : Int) (h : tabE xs ≠ 0) : atS xs c day = (0, tabE xs) := if_pos h
theorem atS_day (xs : List Ex) (c : List UInt8) (day : Int) (h : tabE xs = 0) (hd : day < 0 ∨ 36524 < day) : atS xs c day = (0, 2) := by unfold atS; rw [if_neg (by simp [h]), if_pos hd]
theorem atS_map (xs : List Ex) (c : List UInt8) (day : Int) (h : tabE xs = 0) (hd : ¬ (day < 0 ∨ 36524 < day)) : atS xs c day = match ratesF xs day c with | none => (0, 6) | some r => (r, 0) := by
  unfold atS; rw [if_neg (by simp [h]), if_neg hd, rates_of xs day c (tabE_ok xs h)]
  split
  · rfl
  · split <;> rfl

theorem tabE_len (xs : List Ex) (h : tabE xs = 0) : xs.length ≤ 1000 := by
  unfold tabE at h
  split at h
  · cases h
  · omega

set_option maxHeartbeats 1000000 in
theorem at_any (w : World) (A : Option Addr) (cap : Nat) (xs : List Ex) (c : ByteArray) (day : Int) (hA : Tab w w.heap.size A xs) (hn : xs.length ≤ maxLen) (hs : ∀ x ∈ xs, x.c.size ≤ maxLen) (hc : c.size ≤ maxLen) :
    Calls Try.prog 15 #[.slice A xs.length cap, .string c, .int .i64 day] w fun e w' => e = .returned (pairV (atS xs c.data.toList day)) ∧ Below w.heap.size w w' := by
  have HV := Lib.hid (curValidate_any w A cap xs hA hn hs)
  by_cases h0 : tabE xs = 0
  · by_cases hd : day < 0 ∨ 36524 < day
    · have HE := Lib.hid (atS_day xs c.data.toList day h0 hd)
      rw [h0] at HV
      clear h0
      go_enter Try.func15, Try.ntmps15
      go_wp2_with fail
      refine HV.out.mono ?_
      rintro e w1 ⟨rfl, hb1⟩
      go_wp2_with fail
      all_goals
        go_ret2
        exact ⟨by rw [HE.out]; rfl, hb1⟩
    · have HE := Lib.hid (atS_map xs c.data.toList day h0 hd)
      have hR := fun w (h : Tab w w.heap.size A xs) => ratesOn_any w A cap xs day h (tabE_len xs h0) hs (tabE_ok xs h0)
      have HR := Lib.hid hR
      rw [h0] at HV
      obtain ⟨d0, d1⟩ : 0 ≤ day ∧ day ≤ 36524 := by omega
      clear h0 hR hd
      go_enter Try.func15, Try.ntmps15
      go_wp2_with fail
      refine HV.out.mono ?_
      rintro e w1 ⟨rfl, hb1⟩
      go_wp2_with fail
      refine (HR.out _ (RowsW.ext hA hb1)).mono ?_
      rintro e w2 ⟨⟨b, n, rfl, hm⟩, hb2⟩
      have hl := MapI.look hm 58 Try.underlying58 c hc
      cases hr : ratesF xs day c.data.toList with
      | none =>
        rw [hr] at hl
        simp only [Option.getD_none, Option.isSome_none] at hl
        have HR2 := Lib.hid hr
        clear hr
        go_wp2_with fail
        go_ret2
        exact ⟨by rw [HE.out, HR2.out]; rfl, (by repeat (first | exact Below.refl _ _ | assumption | refine ext_alloc ?_ _ | refine Below.drew ?_ | refine drewN_below ?_ _ | refine ext_trans ?_ (by assumption) | refine Below.alloc ?_ ?_ _ | refine Below.setCell ?_ ?_ _ | omega | (simp <;> omega)))⟩
      | some r =>
        rw [hr] at hl
        simp only [Option.getD_some, Option.isSome_some] at hl
        have HR2 := Lib.hid hr
        clear hr
        go_wp2_with fail
        go_ret2
        exact ⟨by rw [HE.out, HR2.out]; rfl, (by repeat (first | exact Below.refl _ _ | assumption | refine ext_alloc ?_ _ | refine Below.drew ?_ | refine drewN_below ?_ _ | refine ext_trans ?_ (by assumption) | refine Below.alloc ?_ ?_ _ | refine Below.setCell ?_ ?_ _ | omega | (simp <;> omega)))⟩
  · have HE := Lib.hid (atS_bad xs c.data.toList day h0)
    have hb : (tabE xs != 0) = true := by simpa using h0
    clear h0
    go_enter Try.func15, Try.ntmps15
    go_wp2_with fail
    refine HV.out.mono ?_
    rintro e w1 ⟨rfl, hb1⟩
    go_wp2_with fail
    go_ret2
    exact ⟨by rw [HE.out]; rfl, hb1⟩

set_option maxHeartbeats 1000000 in
theorem rAt_any (w : World) (A : Option Addr) (cap : Nat) (xs : List Ex) (c : ByteArray) (day : Int) (hA : Tab w w.heap.size A xs) (hn : xs.length ≤ maxLen) (hs : ∀ x ∈ xs, x.c.size ≤ maxLen) :
    Calls Try.prog 17 #[.slice A xs.length cap, .string c, .int .i64 day] w fun e w' => e = .returned (pairV (atS xs c.data.toList day)) ∧ Below w.heap.size w w' := by
  have HV := Lib.hid (rTable_any w A cap xs hA hn hs)
  by_cases h0 : tabE xs = 0
  · by_cases hd : day < 0 ∨ 36524 < day
    · have HE := Lib.hid (atS_day xs c.data.toList day h0 hd)
      rw [h0] at HV
      have hdb : (decide (0 ≤ day) && decide (day ≤ 36524)) = false := by rcases hd with h | h <;> simp [h] <;> omega
      clear h0 hd
      go_enter Try.func17, Try.ntmps17
      go_wp2_with fail
      refine HV.out.mono ?_
      rintro e w1 ⟨rfl, hb1⟩
      go_wp2_with fail
      refine (rDay_any _ _).mono ?_
      rintro e w1 ⟨rfl, rfl⟩
      rw [hdb]
      go_wp2_with fail
      go_ret2
      exact ⟨by rw [HE.out]; rfl, hb1⟩
    · have hdb : (decide (0 ≤ day) && decide (day ≤ 36524)) = true := by simp; omega
      cases he : c.toList == [69, 85, 82]
      · have he' : ¬ c.data.toList = eur := by
          rw [← ByteArray.toList_eq]; simpa [eur] using he
        have HE : Hid (atS xs c.data.toList day = if lastR xs c.data.toList day = 0 then (0, 6) else (lastR xs c.data.toList day, 0)) := by
          show atS xs _ day = _
          unfold atS; rw [if_neg (by simp [h0]), if_neg hd, if_neg he']
        have hok := Lib.hid (tabE_ok xs h0)
        have hlen := tabE_len xs h0
        rw [h0] at HV
        clear h0 hd he'
        go_enter Try.func17, Try.ntmps17
        go_wp2_with fail
        refine HV.out.mono ?_
        rintro e w1 ⟨rfl, hb1⟩
        go_wp2_with fail
        refine (rDay_any _ _).mono ?_
        rintro e w1 ⟨rfl, rfl⟩
        rw [hdb]
        go_wp2_with fail
        clear hdb HV
        go_loop [9, 10] (fun r i => ∃ j : Nat, j ≤ xs.length ∧ i = .int .i64 j ∧ r = .int .i64 (lastR (xs.take j) c.data.toList day)) (fun _ i => xs.length - (intOf i).toNat)
        case atStart => exact ⟨0, by omega, rfl, rfl⟩
        case round =>
          obtain ⟨j, hj, rfl, rfl⟩ := hrel
          by_cases hlt : j < xs.length
          · obtain ⟨ad, hA', hB, c0, c1, c2⟩ := Tab.at_ (RowsW.below hA hb1) hlt
            have HR := Lib.hid (lastR_succ xs c.data.toList day j hlt)
            subst hA'
            generalize xs[j] = x at *
            generalize lastR (xs.take j) c.data.toList day = r at *
            cases hq : x.c.toList == c.toList
            · have hq' : ¬ (x.c.data.toList = c.data.toList ∧ x.f ≤ day) := by
                rw [← ByteArray.toList_eq, ← ByteArray.toList_eq]; simp at hq; simp [hq]
              go_wp2_with fail
              go_round
              case rel => exact ⟨j + 1, by omega, by go_num, by rw [HR.out, lastStep, if_neg hq']⟩
              case measure => simp [intOf]; omega
            · by_cases hday : x.f ≤ day
              · have hq' : x.c.data.toList = c.data.toList ∧ x.f ≤ day := by
                  rw [← ByteArray.toList_eq, ← ByteArray.toList_eq]; simp at hq; exact ⟨hq, hday⟩
                have HQ := Lib.hid hq'
                clear hq'
                go_wp2_with fail
                go_round
                case rel => exact ⟨j + 1, by omega, by go_num, by rw [HR.out, lastStep, if_pos HQ.out]⟩
                case measure => simp [intOf]; omega
              · have hq' : ¬ (x.c.data.toList = c.data.toList ∧ x.f ≤ day) := fun h => hday h.2
                have HQ := Lib.hid hq'
                clear hq'
                go_wp2_with fail
                go_round
                case rel => exact ⟨j + 1, by omega, by go_num, by rw [HR.out, lastStep, if_neg HQ.out]⟩
                case measure => simp [intOf]; omega
          · obtain rfl : j = xs.length := by omega
            rw [List.take_length]
            by_cases hr : lastR xs c.data.toList day = 0
            · rw [if_pos hr] at HE
              rw [hr]
              clear hr
              go_wp2_with fail
              go_ret2
              exact ⟨by rw [HE.out]; rfl, hb1⟩
            · have hrb : (lastR xs c.data.toList day == 0) = false := by simpa using hr
              rw [if_neg hr] at HE
              clear hr
              go_wp2_with fail
              go_ret2
              exact ⟨by rw [HE.out]; rfl, hb1⟩
      · have he' : c.data.toList = eur := by
          rw [← ByteArray.toList_eq]; simpa [eur] using he
        have HE : Hid (atS xs c.data.toList day = (1000000, 0)) := by
          show atS xs _ day = _
          unfold atS; rw [if_neg (by simp [h0]), if_neg hd, if_pos he']
        rw [h0] at HV
        clear h0 hd he'
        go_enter Try.func17, Try.ntmps17
        go_wp2_with fail
        refine HV.out.mono ?_
        rintro e w1 ⟨rfl, hb1⟩
        go_wp2_with fail
        refine (rDay_any _ _).mono ?_
        rintro e w1 ⟨rfl, rfl⟩
        rw [hdb]
        go_wp2_with fail
        go_ret2
        exact ⟨by rw [HE.out]; rfl, hb1⟩
  · have HE := Lib.hid (atS_bad xs c.data.toList day h0)
    have hb : (tabE xs != 0) = true := by simpa using h0
    clear h0
    go_enter Try.func17, Try.ntmps17
    go_wp2_with fail
    refine HV.out.mono ?_
    rintro e w1 ⟨rfl, hb1⟩
    go_wp2_with fail
    go_ret2
    exact ⟨by rw [HE.out]; rfl, hb1⟩

end Go.Proofs.Ytjlfllhokhekbaa
