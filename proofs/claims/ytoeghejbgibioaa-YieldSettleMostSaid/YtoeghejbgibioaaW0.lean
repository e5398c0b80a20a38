/- What is shared by the walks by descriptions: numbers, lists of numbers; the first functions of the made values. -/
import Derived.Test.YtoeghejbgibioaaTab
namespace Go.Proofs.Ytoeghejbgibioaa
open Go Go.RowKit
set_option linter.unusedVariables false
set_option linter.unusedSimpArgs false
set_option maxRecDepth 100000
set_option maxHeartbeats 4000000

noncomputable def XX : Cx := { P := Try.prog, T := tT, G := [] }
theorem XX_ok : XX.ok := tT_ok
noncomputable def XD : Cx := { XX with dr := true }
theorem XD_ok : XD.ok := tT_ok
theorem ACalls.undr {f : FuncId} {args : List AV} {r : AV} (h : ACalls XD f args r) : ACalls XX f args r := ⟨h.fn, fun M w vs hg hp hl hd => (h.out M w vs hg hp hl hd).mono fun e w' ⟨v, M', h1, h2, h3, h4, h5, h6, _⟩ => ⟨v, M', h1, h2, h3, h4, h5, h6, fun h => by cases h⟩⟩
abbrev iA (z : Int) : AV := .dat (.val (.int .i64 z))
abbrev bA (b : Bool) : AV := .dat (.val (.bool b))
attribute [local irreducible] ResLe AVle ArgLe ArgP EntLe Dle ResH ArgQ

theorem getD_in_list {α : Type} [Inhabited α] {l : List α} {k : Nat} (h : k < l.length) : l.getD k default ∈ l := by
  rw [List.getD_eq_getElem?_getD, List.getElem?_eq_getElem h]; exact List.getElem_mem _
theorem tmod_lo (x n : Int) (h : 0 < n) : -n < x.tmod n := by
  rcases Int.le_total 0 x with hx | hx
  · have := Int.tmod_nonneg n hx
    omega
  · have h1 := Int.tmod_lt_of_pos (-x) h
    rw [Int.neg_tmod] at h1
    omega
theorem within_eq (x n : Int) (h : 0 < n) : (x.tmod n + n).tmod n = x % n := by
  have h1 : 0 ≤ x.tmod n + n := by have := tmod_lo x n h; omega
  rw [Int.tmod_eq_emod_of_nonneg h1, Int.add_emod_right]
  have h2 := Int.tmod_add_mul_tdiv x n
  have h3 : x.tmod n = x - n * x.tdiv n := by omega
  rw [h3, Int.sub_mul_emod_self_left]
theorem within_t (x n : Int) (h : 0 < n) (h2 : n ≤ 4611686018427387904) : ACalls XX 14 [iA x, iA n] (iA (x % n)) := by
  have h3 := tmod_lo x n h
  have h4 := Int.tmod_lt_of_pos x h
  rw [← within_eq x n h]
  refine ACalls.of (n := Try.f14.ntmps) XX_ok Try.func14 rfl (by kernel_rfl) rfl rfl (Nat.le_of_ble_eq_true rfl) ?_
  (repeat' (first | refine Zs ?_ | refine Zk ?_ | ((first | refine Za ?_ | refine Zr ?_ | refine Zp ?_ | refine Ze ?_ | refine Zd ?_ | refine Zn ?_ | refine Zc ?_ | refine UnK.mk (fun b hb => ?_)); conv => whnf) | (refine Zb (fun h => ?_) (fun h => ?_) <;> first | exact Zx | (conv => whnf))))
  all_goals (exact ResLe.pure (AVle.int (by rfl)) rfl)

abbrev ilst (L : List Int) : D := .lst 1 L.length fun i _ => .val (.int .i64 (L.getD i 0))
theorem cut_t (L : List Int) (n : Int) (hn : 0 ≤ n) (hL : L.length ≤ 9223372036854775807) : ACalls XX 33 [.dat (ilst L), iA n] (.dat (ilst (L.take n.toNat))) := by
  refine ACalls.of (n := Try.f33.ntmps) XX_ok Try.func33 rfl (by kernel_rfl) rfl rfl (Nat.le_of_ble_eq_true rfl) ?_
  (repeat' (first | refine Zs ?_ | refine Zk ?_ | ((first | refine Za ?_ | refine Zr ?_ | refine Zp ?_ | refine Ze ?_ | refine Zd ?_ | refine Zn ?_ | refine Zc ?_ | refine UnK.mk (fun b hb => ?_)); conv => whnf) | (refine Zb (fun h => ?_) (fun h => ?_) <;> first | exact Zx | (conv => whnf))))
  · refine ResLe.pure (AVle.dat (Dle.lst (by simp; omega) fun i hi j hj => Dle.of_eq ?_)) rfl
    have : i < n.toNat := by omega
    simp [List.getElem?_take, this]
  · refine ResLe.pure (AVle.dat (Dle.lst (by simp; omega) fun i hi j hj => Dle.of_eq ?_)) rfl
    have : i < n.toNat := by omega
    simp [List.getElem?_take, this]

def rowF {α : Type} [Inhabited α] (enc : α → Nat → D) (us : List α) (i j : Nat) : D := enc (us.getD i default) j
theorem rowF_snoc {α : Type} [Inhabited α] {enc : α → Nat → D} {us : List α} {x : α} {s n : Nat} {g : Nat → Nat → D} (hn : n = us.length) (h : ∀ j, j < s → Dle (g 0 j) (enc x j)) : ∀ i, i < n + 1 → ∀ j, j < s → Dle (catF n (rowF enc us) g i j) (rowF enc (us ++ [x]) i j) := by
  subst hn
  intro i hi j hj
  unfold catF rowF
  split
  · rename_i h1
    simp [List.getElem?_append, h1]
    exact Dle.refl _
  · have : i = us.length := by omega
    subst this
    simp
    exact h j hj
theorem rowF_app {α : Type} [Inhabited α] {enc : α → Nat → D} {us vs : List α} {s n : Nat} {g : Nat → Nat → D} (hn : n = us.length) (h : ∀ i, i < vs.length → ∀ j, j < s → Dle (g i j) (rowF enc vs i j)) : ∀ i, i < n + vs.length → ∀ j, j < s → Dle (catF n (rowF enc us) g i j) (rowF enc (us ++ vs) i j) := by
  subst hn
  intro i hi j hj
  unfold catF
  split
  · rename_i h1
    unfold rowF
    simp [List.getElem?_append, h1]
    exact Dle.refl _
  · rename_i h1
    have := h (i - us.length) (by omega) j hj
    unfold rowF at this ⊢
    simpa [List.getElem?_append, h1] using this

structure RowIs {α : Type} [Inhabited α] (enc : α → Nat → D) (s n : Nat) (f : Nat → Nat → D) (us : List α) : Prop where
  len : n = us.length
  le : ∀ i, i < n → ∀ j, j < s → Dle (f i j) (rowF enc us i j)
theorem RowIs.refl {α : Type} [Inhabited α] (enc : α → Nat → D) (s : Nat) (us : List α) : RowIs enc s us.length (rowF enc us) us := ⟨rfl, fun _ _ _ _ => Dle.refl _⟩
theorem RowIs.nil {α : Type} [Inhabited α] (enc : α → Nat → D) (s n : Nat) (f : Nat → Nat → D) (h : n = 0) : RowIs enc s n f ([] : List α) := ⟨by simpa using h, fun i hi => by omega⟩
theorem RowIs.one {α : Type} [Inhabited α] {enc : α → Nat → D} {s : Nat} {f : Nat → Nat → D} {x : α} (h : ∀ j, j < s → Dle (f 0 j) (enc x j)) : RowIs enc s 1 f [x] := ⟨rfl, fun i hi j hj => by
  have h0 : i = 0 := Nat.lt_one_iff.1 hi
  subst h0
  exact h j hj⟩
theorem RowIs.cat {α : Type} [Inhabited α] {enc : α → Nat → D} {s n m : Nat} {f g : Nat → Nat → D} {us vs : List α} (h : RowIs enc s n f us) (k : RowIs enc s m g vs) : RowIs enc s (n + m) (catF n f g) (us ++ vs) := by
  obtain ⟨rfl, h⟩ := h
  obtain ⟨rfl, k⟩ := k
  refine ⟨by simp, fun i hi j hj => ?_⟩
  unfold catF
  split
  · rename_i h1
    have := h i h1 j hj
    unfold rowF at this ⊢
    simpa [List.getElem?_append, h1] using this
  · rename_i h1
    have := k (i - us.length) (by omega) j hj
    unfold rowF at this ⊢
    simpa [List.getElem?_append, h1] using this
theorem RowIs.part {α : Type} [Inhabited α] {enc : α → Nat → D} {s n : Nat} {f : Nat → Nat → D} {us : List α} (h : RowIs enc s n f us) {l m : Nat} {k : Nat} (hk : k = m - l) (hm : m ≤ n) : RowIs enc s k (fun i j => f (l + i) j) ((us.take m).drop l) := by
  obtain ⟨rfl, h⟩ := h
  subst hk
  refine ⟨by simp; omega, fun i hi j hj => ?_⟩
  have := h (l + i) (by omega) j hj
  unfold rowF at this ⊢
  have h1 : l + i < m := by omega
  simpa [List.getElem?_drop, List.getElem?_take, h1] using this
theorem RowIs.congr {α : Type} [Inhabited α] {enc : α → Nat → D} {s n : Nat} {f : Nat → Nat → D} {us vs : List α} (h : RowIs enc s n f us) (e : us = vs) : RowIs enc s n f vs := e ▸ h
theorem RowIs.set {α : Type} [Inhabited α] {enc : α → Nat → D} {s n : Nat} {f : Nat → Nat → D} {us : List α} (h : RowIs enc s n f us) {k : Nat} {x : α} {ds : List D} (hl : ds.length = s) (hx : ∀ j, j < s → Dle (ds.getD j (.val undef)) (enc x j)) : RowIs enc s n (setF f k 0 ds) (us.set k x) := by
  obtain ⟨rfl, h⟩ := h
  refine ⟨by simp, fun i hi j hj => ?_⟩
  rw [setF_eq]
  split
  · rename_i hc
    obtain ⟨rfl, _, _⟩ := hc
    have := hx j hj
    unfold rowF
    simpa [hi] using this
  · rename_i hc
    have hik : i ≠ k := fun e => hc ⟨e, Nat.zero_le _, by omega⟩
    have := h i hi j hj
    unfold rowF at this ⊢
    simpa [List.getElem?_set, hik, Ne.symm hik] using this
theorem RowIs.ent {α : Type} [Inhabited α] {enc : α → Nat → D} {s n : Nat} {f : Nat → Nat → D} {us : List α} (E : TypeId) (h : RowIs enc s n f us) : EntLe (.row E s n f) (.row E s us.length (rowF enc us)) := EntLe.row h.len h.le
theorem RowIs.res {X : Cx} {α : Type} [Inhabited α] {enc : α → Nat → D} {s n N : Nat} {f : Nat → Nat → D} {us : List α} {st : St} {r : Nat} (hr : rowOf (st.ent r) s = some (N, f)) (h : RowIs enc s N f us) (hn : n = N) : ResLe X st (.own r s 0 n) (.dat (.lst s us.length (rowF enc us))) := by
  have h1 := h.len
  subst hn
  subst h1
  exact ResLe.own hr (by omega) fun i hi j hj => by rw [Nat.zero_add]; exact h.le i hi j hj
theorem RowIs.arg {X : Cx} {α : Type} [Inhabited α] {enc : α → Nat → D} {s n N : Nat} {f : Nat → Nat → D} {us : List α} {st : St} {r : Nat} (hr : st.ent r = some (.pub s N f)) (h : RowIs enc s N f us) (hn : n = N) : ArgQ X st (.own r s 0 n) (.dat (.lst s us.length (rowF enc us))) := by
  have h1 := h.len
  subst hn
  subst h1
  exact ArgQ.own hr rfl h.le
theorem RowIs.dat {α : Type} [Inhabited α] {enc : α → Nat → D} {s n : Nat} {f : Nat → Nat → D} {us : List α} (h : RowIs enc s n f us) : AVle (.dat (.lst s n f)) (.dat (.lst s us.length (rowF enc us))) := AVle.dat (Dle.lst h.len h.le)

def iE (x : Int) (_ : Nat) : D := .val (.int .i64 x)
abbrev iD (us : List Int) : D := .lst 1 us.length (rowF iE us)
abbrev srcE (L : List Int) (i : Nat) : Ent := .blk 29 [.dat (ilst L), iA i]
def nx (L : List Int) (i : Nat) (m : Int) : Int := if i < L.length then L.getD i 0 % m else 0
def ni (L : List Int) (i : Nat) : Nat := if i < L.length then i + 1 else i
theorem nx_rng (L : List Int) (i : Nat) {m : Int} (h : 0 < m) : 0 ≤ nx L i m ∧ nx L i m < m := by
  unfold nx
  split
  · exact ⟨Int.emod_nonneg _ (by omega), Int.emod_lt_of_pos _ h⟩
  · exact ⟨Int.le_refl _, h⟩
theorem ni_le (L : List Int) (i : Nat) (h : i ≤ L.length) : i ≤ ni L i ∧ ni L i ≤ L.length ∧ (i < L.length → i < ni L i) := by
  unfold ni
  split <;> omega
theorem next_h (L : List Int) (i : Nat) (m : Int) (hL : L.length ≤ 9223372036854775807) (h0 : 0 < m) (hm : m ≤ 4611686018427387904) :
    HC XX 26 [.ptr 5000 0, iA m] [(5000, srcE L i)] (iA (nx L i m)) [(5000, srcE L (ni L i))] none := by
  refine HC.of (n := Try.f26.ntmps) XX_ok Try.func26 rfl (by kernel_rfl) rfl rfl (Nat.le_of_ble_eq_true rfl) rfl rfl ?_
  (repeat' (first | refine Zs ?_ | refine Zk ?_ | ((first | refine Za ?_ | refine Zr ?_ | refine Zp ?_ | refine Ze ?_ | refine Zd ?_ | refine W.drawT dr26 rfl mixed rfl ?_ | refine Zn ?_ | refine Zc ?_ | refine UnK.mk (fun b hb => ?_) | refine Zy (within_t _ _ h0 hm) ?_ | refine Zz (within_t _ _ h0 hm) ?_); conv => whnf) | (refine Zb (fun h => ?_) (fun h => ?_) <;> first | exact Zx | (conv => whnf))))
  · have h1 : nx L i m = 0 := by unfold nx; rw [if_neg (by omega)]
    have h2 : ni L i = i := by unfold ni; rw [if_neg (by omega)]
    rw [h1, h2]
    (conv => whnf); (repeat' (first | exact trivial | exact AVle.refl _ | exact EntLe.refl _ | exact AVle.int (by first | rfl | omega) | exact ResH.same (AVle.refl _) | exact ResH.same (AVle.own (by first | rfl | omega)) | exact ResH.same (AVle.int (by first | rfl | omega)) | exact ResH.same (AVle.bool (by simp only [decide_eq_true_eq, decide_eq_false_iff_not, decide_eq_decide]; first | rfl | omega)) | exact ResH.same (AVle.tt_ (by simp only [decide_eq_true_eq, decide_eq_false_iff_not, decide_eq_decide]; first | rfl | omega)) | exact ResH.same (AVle.ff_ (by simp only [decide_eq_true_eq, decide_eq_false_iff_not, decide_eq_decide]; first | rfl | omega)) | exact ResH.same (AVle.tt_ rfl) | exact ResH.same (AVle.ff_ rfl) | refine ResH.agg ?_ | exact ⟨_, rfl, EntLe.refl _, rfl⟩ | refine ⟨_, rfl, EntLe.blk ?_, rfl⟩ | refine ⟨_, rfl, EntLe.row (by first | rfl | omega) ?_, rfl⟩ | refine And.intro ?_ ?_ | ((conv => whnf); first | exact ResH.same (AVle.refl _) | exact ResH.same (AVle.own (by first | rfl | omega)) | exact ResH.same (AVle.int (by first | rfl | omega)) | exact ResH.same (AVle.bool (by simp only [decide_eq_true_eq, decide_eq_false_iff_not, decide_eq_decide]; first | rfl | omega)) | exact ResH.same (AVle.tt_ (by simp only [decide_eq_true_eq, decide_eq_false_iff_not, decide_eq_decide]; first | rfl | omega)) | exact ResH.same (AVle.ff_ (by simp only [decide_eq_true_eq, decide_eq_false_iff_not, decide_eq_decide]; first | rfl | omega)) | exact ResH.same (AVle.tt_ rfl) | exact ResH.same (AVle.ff_ rfl) | refine ResH.agg ?_)))
  · have h1 : nx L i m = L.getD i 0 % m := by unfold nx; rw [if_pos (by omega)]
    have h2 : ni L i = i + 1 := by unfold ni; rw [if_pos (by omega)]
    rw [h1, h2]
    (conv => whnf); (repeat' (first | exact trivial | exact AVle.refl _ | exact EntLe.refl _ | exact AVle.int (by first | rfl | (rw [show ((i : Int) + 1 - 1).toNat = i by omega]) | (push_cast; omega)) | exact ResH.same (AVle.refl _) | exact ResH.same (AVle.own (by first | rfl | (rw [show ((i : Int) + 1 - 1).toNat = i by omega]) | (push_cast; omega))) | exact ResH.same (AVle.int (by first | rfl | (rw [show ((i : Int) + 1 - 1).toNat = i by omega]) | (push_cast; omega))) | exact ResH.same (AVle.bool (by simp only [decide_eq_true_eq, decide_eq_false_iff_not, decide_eq_decide]; first | rfl | (rw [show ((i : Int) + 1 - 1).toNat = i by omega]) | (push_cast; omega))) | exact ResH.same (AVle.tt_ (by simp only [decide_eq_true_eq, decide_eq_false_iff_not, decide_eq_decide]; first | rfl | (rw [show ((i : Int) + 1 - 1).toNat = i by omega]) | (push_cast; omega))) | exact ResH.same (AVle.ff_ (by simp only [decide_eq_true_eq, decide_eq_false_iff_not, decide_eq_decide]; first | rfl | (rw [show ((i : Int) + 1 - 1).toNat = i by omega]) | (push_cast; omega))) | exact ResH.same (AVle.tt_ rfl) | exact ResH.same (AVle.ff_ rfl) | refine ResH.agg ?_ | exact ⟨_, rfl, EntLe.refl _, rfl⟩ | refine ⟨_, rfl, EntLe.blk ?_, rfl⟩ | refine ⟨_, rfl, EntLe.row (by first | rfl | (rw [show ((i : Int) + 1 - 1).toNat = i by omega]) | (push_cast; omega)) ?_, rfl⟩ | refine And.intro ?_ ?_ | ((conv => whnf); first | exact ResH.same (AVle.refl _) | exact ResH.same (AVle.own (by first | rfl | (rw [show ((i : Int) + 1 - 1).toNat = i by omega]) | (push_cast; omega))) | exact ResH.same (AVle.int (by first | rfl | (rw [show ((i : Int) + 1 - 1).toNat = i by omega]) | (push_cast; omega))) | exact ResH.same (AVle.bool (by simp only [decide_eq_true_eq, decide_eq_false_iff_not, decide_eq_decide]; first | rfl | (rw [show ((i : Int) + 1 - 1).toNat = i by omega]) | (push_cast; omega))) | exact ResH.same (AVle.tt_ (by simp only [decide_eq_true_eq, decide_eq_false_iff_not, decide_eq_decide]; first | rfl | (rw [show ((i : Int) + 1 - 1).toNat = i by omega]) | (push_cast; omega))) | exact ResH.same (AVle.ff_ (by simp only [decide_eq_true_eq, decide_eq_false_iff_not, decide_eq_decide]; first | rfl | (rw [show ((i : Int) + 1 - 1).toNat = i by omega]) | (push_cast; omega))) | exact ResH.same (AVle.tt_ rfl) | exact ResH.same (AVle.ff_ rfl) | refine ResH.agg ?_)))
theorem left_h (L : List Int) (i : Nat) : HC XX 34 [.ptr 5000 0] [(5000, srcE L i)] (bA (decide (i < L.length))) [(5000, srcE L i)] none := by
  refine HC.of (n := Try.f34.ntmps) XX_ok Try.func34 rfl (by kernel_rfl) rfl rfl (Nat.le_of_ble_eq_true rfl) rfl rfl ?_
  (repeat' (first | refine Zs ?_ | refine Zk ?_ | ((first | refine Za ?_ | refine Zr ?_ | refine Zp ?_ | refine Ze ?_ | refine Zd ?_ | refine W.drawT dr34 rfl mixed rfl ?_ | refine Zn ?_ | refine Zc ?_ | refine UnK.mk (fun b hb => ?_)); conv => whnf) | (refine Zb (fun h => ?_) (fun h => ?_) <;> first | exact Zx | (conv => whnf))))
  (conv => whnf); (repeat' (first | exact trivial | exact AVle.refl _ | exact EntLe.refl _ | exact AVle.int (by first | rfl | omega) | exact ResH.same (AVle.refl _) | exact ResH.same (AVle.own (by first | rfl | omega)) | exact ResH.same (AVle.int (by first | rfl | omega)) | exact ResH.same (AVle.bool (by simp only [decide_eq_true_eq, decide_eq_false_iff_not, decide_eq_decide]; first | rfl | omega)) | exact ResH.same (AVle.tt_ (by simp only [decide_eq_true_eq, decide_eq_false_iff_not, decide_eq_decide]; first | rfl | omega)) | exact ResH.same (AVle.ff_ (by simp only [decide_eq_true_eq, decide_eq_false_iff_not, decide_eq_decide]; first | rfl | omega)) | exact ResH.same (AVle.tt_ rfl) | exact ResH.same (AVle.ff_ rfl) | refine ResH.agg ?_ | exact ⟨_, rfl, EntLe.refl _, rfl⟩ | refine ⟨_, rfl, EntLe.blk ?_, rfl⟩ | refine ⟨_, rfl, EntLe.row (by first | rfl | omega) ?_, rfl⟩ | refine And.intro ?_ ?_ | ((conv => whnf); first | exact ResH.same (AVle.refl _) | exact ResH.same (AVle.own (by first | rfl | omega)) | exact ResH.same (AVle.int (by first | rfl | omega)) | exact ResH.same (AVle.bool (by simp only [decide_eq_true_eq, decide_eq_false_iff_not, decide_eq_decide]; first | rfl | omega)) | exact ResH.same (AVle.tt_ (by simp only [decide_eq_true_eq, decide_eq_false_iff_not, decide_eq_decide]; first | rfl | omega)) | exact ResH.same (AVle.ff_ (by simp only [decide_eq_true_eq, decide_eq_false_iff_not, decide_eq_decide]; first | rfl | omega)) | exact ResH.same (AVle.tt_ rfl) | exact ResH.same (AVle.ff_ rfl) | refine ResH.agg ?_)))
def sx (L : List Int) (i : Nat) (few n : Int) : Int := nx L (ni L i) (if nx L i 5 = 4 then n else few)
theorem sx_rng (L : List Int) (i : Nat) {few n : Int} (h : 0 < few) (h2 : few ≤ n) : 0 ≤ sx L i few n ∧ sx L i few n < n := by
  unfold sx
  split
  · exact nx_rng _ _ (by omega)
  · have := nx_rng L (ni L i) h
    omega
theorem small_h (L : List Int) (i : Nat) (few n : Int) (hL : L.length ≤ 9223372036854775807) (h0 : 0 < few) (hm : few ≤ 4611686018427387904) (h0' : 0 < n) (hm' : n ≤ 4611686018427387904) :
    HC XX 10 [.ptr 5000 0, iA few, iA n] [(5000, srcE L i)] (iA (sx L i few n)) [(5000, srcE L (ni L (ni L i)))] none := by
  refine HC.of (n := Try.f10.ntmps) XX_ok Try.func10 rfl (by kernel_rfl) rfl rfl (Nat.le_of_ble_eq_true rfl) rfl rfl ?_
  (repeat' (first | refine Zs ?_ | refine Zk ?_ | ((first | refine Za ?_ | refine Zr ?_ | refine Zp ?_ | refine Ze ?_ | refine Zd ?_ | refine Zn ?_ | refine Zc ?_ | refine UnK.mk (fun b hb => ?_) | refine ExCall.h [(5000, 5000)] rfl (next_h L _ _ hL (by omega) (by omega)) rfl ⟨rfl, trivial⟩ ?_); conv => whnf) | (refine Zb (fun h => ?_) (fun h => ?_) <;> first | exact Zx | (conv => whnf))))
  · unfold sx
    rw [if_pos h]
    (conv => whnf); (repeat' (first | exact trivial | exact AVle.refl _ | exact EntLe.refl _ | exact AVle.int (by first | rfl | omega) | exact ResH.same (AVle.refl _) | exact ResH.same (AVle.own (by first | rfl | omega)) | exact ResH.same (AVle.int (by first | rfl | omega)) | exact ResH.same (AVle.bool (by simp only [decide_eq_true_eq, decide_eq_false_iff_not, decide_eq_decide]; first | rfl | omega)) | exact ResH.same (AVle.tt_ (by simp only [decide_eq_true_eq, decide_eq_false_iff_not, decide_eq_decide]; first | rfl | omega)) | exact ResH.same (AVle.ff_ (by simp only [decide_eq_true_eq, decide_eq_false_iff_not, decide_eq_decide]; first | rfl | omega)) | exact ResH.same (AVle.tt_ rfl) | exact ResH.same (AVle.ff_ rfl) | refine ResH.agg ?_ | exact ⟨_, rfl, EntLe.refl _, rfl⟩ | refine ⟨_, rfl, EntLe.blk ?_, rfl⟩ | refine ⟨_, rfl, EntLe.row (by first | rfl | omega) ?_, rfl⟩ | refine And.intro ?_ ?_ | ((conv => whnf); first | exact ResH.same (AVle.refl _) | exact ResH.same (AVle.own (by first | rfl | omega)) | exact ResH.same (AVle.int (by first | rfl | omega)) | exact ResH.same (AVle.bool (by simp only [decide_eq_true_eq, decide_eq_false_iff_not, decide_eq_decide]; first | rfl | omega)) | exact ResH.same (AVle.tt_ (by simp only [decide_eq_true_eq, decide_eq_false_iff_not, decide_eq_decide]; first | rfl | omega)) | exact ResH.same (AVle.ff_ (by simp only [decide_eq_true_eq, decide_eq_false_iff_not, decide_eq_decide]; first | rfl | omega)) | exact ResH.same (AVle.tt_ rfl) | exact ResH.same (AVle.ff_ rfl) | refine ResH.agg ?_)))
  · unfold sx
    rw [if_neg h]
    (conv => whnf); (repeat' (first | exact trivial | exact AVle.refl _ | exact EntLe.refl _ | exact AVle.int (by first | rfl | omega) | exact ResH.same (AVle.refl _) | exact ResH.same (AVle.own (by first | rfl | omega)) | exact ResH.same (AVle.int (by first | rfl | omega)) | exact ResH.same (AVle.bool (by simp only [decide_eq_true_eq, decide_eq_false_iff_not, decide_eq_decide]; first | rfl | omega)) | exact ResH.same (AVle.tt_ (by simp only [decide_eq_true_eq, decide_eq_false_iff_not, decide_eq_decide]; first | rfl | omega)) | exact ResH.same (AVle.ff_ (by simp only [decide_eq_true_eq, decide_eq_false_iff_not, decide_eq_decide]; first | rfl | omega)) | exact ResH.same (AVle.tt_ rfl) | exact ResH.same (AVle.ff_ rfl) | refine ResH.agg ?_ | exact ⟨_, rfl, EntLe.refl _, rfl⟩ | refine ⟨_, rfl, EntLe.blk ?_, rfl⟩ | refine ⟨_, rfl, EntLe.row (by first | rfl | omega) ?_, rfl⟩ | refine And.intro ?_ ?_ | ((conv => whnf); first | exact ResH.same (AVle.refl _) | exact ResH.same (AVle.own (by first | rfl | omega)) | exact ResH.same (AVle.int (by first | rfl | omega)) | exact ResH.same (AVle.bool (by simp only [decide_eq_true_eq, decide_eq_false_iff_not, decide_eq_decide]; first | rfl | omega)) | exact ResH.same (AVle.tt_ (by simp only [decide_eq_true_eq, decide_eq_false_iff_not, decide_eq_decide]; first | rfl | omega)) | exact ResH.same (AVle.ff_ (by simp only [decide_eq_true_eq, decide_eq_false_iff_not, decide_eq_decide]; first | rfl | omega)) | exact ResH.same (AVle.tt_ rfl) | exact ResH.same (AVle.ff_ rfl) | refine ResH.agg ?_)))
end Go.Proofs.Ytoeghejbgibioaa
