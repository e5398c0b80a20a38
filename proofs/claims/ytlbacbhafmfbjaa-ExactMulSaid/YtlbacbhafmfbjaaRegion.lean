/- A region that draws its order, whose first operations each have a stable predicate on their value (a value known, or a pointer to a new block), in whatever order; the last operations wait for all of them and come in one order. -/
import Derived.Test.YtlbacbhafmfbjaaEx0
import Derived.StillTail
namespace Go.Proofs.Ytlbacbhafmfbjaa
open Go Go.RowKit
set_option linter.unusedVariables false

section
variable {P : Program}

/-- The frame when the operations that are listed have put their values. -/
def putS (listed : Array Bool) (vs : Nat → Value) : List Oper → Nat → Act → Act
  | [], _, a => a
  | o :: r, k, a => putS listed vs r (k + 1) (if listed.getD k false then a.put o.dst (vs k) else a)

/-- All of them. -/
def putAll (vs : Nat → Value) : List Oper → Nat → Act → Act
  | [], _, a => a
  | o :: r, k, a => putAll vs r (k + 1) (a.put o.dst (vs k))

def dstsOfL (l : List Oper) : List Tmp := l.filterMap (·.dst)

theorem putS_all (listed : Array Bool) (vs : Nat → Value) : ∀ (l : List Oper) (k : Nat) (a : Act), (∀ j, k ≤ j → j < k + l.length → listed.getD j false = true) → putS listed vs l k a = putAll vs l k a
  | [], _, _, _ => rfl
  | o :: r, k, a, h => by
    simp only [putS, putAll]
    rw [if_pos (h k (Nat.le_refl _) (by simp)), putS_all listed vs r (k + 1) _ (fun j h1 h2 => h j (by omega) (by simp at h2 ⊢; omega))]

theorem putS_congr (listed listed' : Array Bool) (vs vs' : Nat → Value) : ∀ (l : List Oper) (k : Nat) (a : Act),
    (∀ j, k ≤ j → j < k + l.length → listed.getD j false = listed'.getD j false ∧ (listed.getD j false = true → vs j = vs' j)) → putS listed vs l k a = putS listed' vs' l k a
  | [], _, _, _ => rfl
  | o :: r, k, a, h => by
    obtain ⟨h1, h2⟩ := h k (Nat.le_refl _) (by simp)
    simp only [putS]
    rw [putS_congr listed listed' vs vs' r (k + 1) _ (fun j h3 h4 => h j (by omega) (by simp at h4 ⊢; omega))]
    congr 1
    rw [← h1]
    split
    · rename_i hl; rw [h2 hl]
    · rfl

theorem put_comm_ne (a : Act) (d d' : Option Tmp) (u v : Value) (h : ∀ t, d = some t → d' ≠ some t) : (a.put d u).put d' v = (a.put d' v).put d u := by
  cases d with
  | none => rfl
  | some t =>
    cases d' with
    | none => rfl
    | some t' =>
      have hne : t ≠ t' := fun e => h t rfl (by rw [e])
      simp only [Act.put]
      rw [Array.setIfInBounds_comm _ _ hne]

/-- One put more, of a slot that none of these has, may come first. -/
theorem putS_put (listed : Array Bool) (vs : Nat → Value) (d : Option Tmp) (v : Value) : ∀ (l : List Oper) (k : Nat) (a : Act), (∀ o ∈ l, ∀ t, d = some t → o.dst ≠ some t) →
    putS listed vs l k (a.put d v) = (putS listed vs l k a).put d v
  | [], _, _, _ => rfl
  | o :: r, k, a, h => by
    simp only [putS]
    rw [← putS_put listed vs d v r (k + 1) _ (fun o' ho' => h o' (List.mem_cons_of_mem _ ho'))]
    congr 1
    split
    · rw [put_comm_ne _ _ _ _ _ (h o (List.mem_cons_self ..))]
    · rfl

/-- No two of these operations write one slot. -/
def distB : List Oper → Bool
  | [] => true
  | o :: r => (r.all fun o' => match o.dst, o'.dst with | some t, some t' => t != t' | _, _ => true) && distB r

theorem distB_cons {o : Oper} {r : List Oper} (h : distB (o :: r) = true) : (∀ o' ∈ r, ∀ t, o.dst = some t → o'.dst ≠ some t) ∧ distB r = true := by
  simp only [distB, Bool.and_eq_true, List.all_eq_true] at h
  refine ⟨fun o' ho' t ht ht' => ?_, h.2⟩
  have := h.1 o' ho'
  rw [ht, ht'] at this
  simp at this

def updV (vs : Nat → Value) (i : Nat) (v : Value) : Nat → Value := fun j => if j = i then v else vs j

theorem putS_set (listed : Array Bool) (vs : Nat → Value) (i : Nat) (v : Value) (hi : i < listed.size) (hl : listed.getD i false = false) : ∀ (l : List Oper) (k : Nat) (a : Act) (oi : Oper), distB l = true → k ≤ i → l[i - k]? = some oi →
    putS (listed.setIfInBounds i true) (updV vs i v) l k a = (putS listed vs l k a).put oi.dst v
  | [], _, _, _, _, _, h => by simp at h
  | o :: r, k, a, oi, hd, hk, h => by
    obtain ⟨hd1, hd2⟩ := distB_cons hd
    by_cases hki : k = i
    · subst hki
      simp at h
      subst h
      simp only [putS]
      rw [if_pos (by simp [hi]), if_neg (by rw [hl]; simp), updV, if_pos rfl]
      rw [putS_congr (listed.setIfInBounds k true) listed (updV vs k v) vs r (k + 1) _ (fun j h1 h2 => ⟨getD_set_ne false (by omega), fun _ => if_neg (by omega)⟩)]
      exact putS_put listed vs o.dst v r (k + 1) a (fun o' ho' t ht => hd1 o' ho' t ht)
    · simp only [putS]
      rw [getD_set_ne false (fun e => hki e.symm), show updV vs i v k = vs k from if_neg hki]
      exact putS_set listed vs i v hi hl r (k + 1) _ oi hd2 (by omega) (by rw [show i - k = (i - (k + 1)) + 1 by omega] at h; simpa using h)

theorem put_getD_ne (a : Act) (d : Option Tmp) (v : Value) (t : Tmp) (h : d ≠ some t) : (a.put d v).tmps.getD t undef = a.tmps.getD t undef := by
  cases d with
  | none => rfl
  | some t' =>
    have : t' ≠ t := fun e => h (by rw [e])
    simp [Act.put, Array.getElem?_setIfInBounds_ne this]

theorem put_size (a : Act) (d : Option Tmp) (v : Value) : (a.put d v).tmps.size = a.tmps.size := by cases d <;> simp [Act.put]

theorem putS_size (listed : Array Bool) (vs : Nat → Value) : ∀ (l : List Oper) (k : Nat) (a : Act), (putS listed vs l k a).tmps.size = a.tmps.size
  | [], _, _ => rfl
  | o :: r, k, a => by
    simp only [putS]
    rw [putS_size listed vs r]
    split
    · exact put_size _ _ _
    · rfl

theorem slot_other (listed : Array Bool) (vs : Nat → Value) (t : Tmp) : ∀ (l : List Oper) (k : Nat) (a : Act), (∀ o ∈ l, o.dst ≠ some t) → (putS listed vs l k a).tmps.getD t undef = a.tmps.getD t undef
  | [], _, _, _ => rfl
  | o :: r, k, a, h => by
    simp only [putS]
    rw [slot_other listed vs t r (k + 1) _ (fun o' ho' => h o' (List.mem_cons_of_mem _ ho'))]
    split
    · exact put_getD_ne _ _ _ _ (h o (List.mem_cons_self ..))
    · rfl

theorem slot_of (listed : Array Bool) (vs : Nat → Value) (j : Nat) (t : Tmp) (hl : listed.getD j false = true) : ∀ (l : List Oper) (k : Nat) (a : Act) (oj : Oper), distB l = true → k ≤ j → l[j - k]? = some oj → oj.dst = some t → t < a.tmps.size →
    (putS listed vs l k a).tmps.getD t undef = vs j
  | [], _, _, _, _, _, h, _, _ => by simp at h
  | o :: r, k, a, oj, hd, hk, h, ht, hs => by
    obtain ⟨hd1, hd2⟩ := distB_cons hd
    by_cases hkj : k = j
    · subst hkj
      simp at h
      subst h
      simp only [putS]
      rw [if_pos hl, slot_other listed vs t r (k + 1) _ (fun o' ho' => hd1 o' ho' t ht), ht]
      simp [Act.put, hs]
    · simp only [putS]
      refine slot_of listed vs j t hl r (k + 1) _ oj hd2 (by omega) (by rw [show j - k = (j - (k + 1)) + 1 by omega] at h; simpa using h) ht ?_
      split
      · rw [put_size]; exact hs
      · exact hs

theorem putS_defers (listed : Array Bool) (vs : Nat → Value) : ∀ (l : List Oper) (k : Nat) (a : Act), (putS listed vs l k a).defers = a.defers
  | [], _, _ => rfl
  | o :: r, k, a => by
    simp only [putS]
    rw [putS_defers listed vs r]
    split
    · cases o.dst <;> rfl
    · rfl

theorem putS_none (listed : Array Bool) (vs : Nat → Value) : ∀ (l : List Oper) (k : Nat) (a : Act), (∀ j, listed.getD j false = false) → putS listed vs l k a = a
  | [], _, _, _ => rfl
  | o :: r, k, a, h => by
    simp only [putS]
    rw [if_neg (by rw [h]; simp)]
    exact putS_none listed vs r (k + 1) a h

/-- Operation o waits for number j. -/
def waitsOn (o : Oper) (j : Nat) : Prop := ∃ e ∈ o.after, Region.binds .any e = true ∧ e.on = j

def headL (n m : Nat) : Array Bool := (Array.range m).map (fun i => decide (i < n))

theorem headL_lt {n m i : Nat} (h : i < n) (hm : n ≤ m) : (headL n m).getD i false = true := by simp [headL, h, show i < m by omega]

def backB (l : List Oper) (n : Nat) : Bool :=
  (List.range n).all fun i => match l[i]? with
    | some o => o.after.all fun e => !Region.binds .any e || decide (e.on < i)
    | none => true

def mixB (l : List Oper) (n : Nat) : Bool :=
  decide (n < l.length) && Region.sinkB .any l.toArray n && Region.chainB .any l.toArray n && distB (l.take n) && backB l n && Region.seqB .any l.toArray (l.length - n) n (headL n l.length)

def left (listed : Array Bool) (n : Nat) : Nat := ((List.range n).filter (fun i => !listed.getD i false)).length

theorem left_zero {listed : Array Bool} {n : Nat} (h : left listed n = 0) : ∀ i, i < n → listed.getD i false = true := by
  intro i hi
  unfold left at h
  rw [List.length_eq_zero_iff, List.filter_eq_nil_iff] at h
  have := h i (List.mem_range.2 hi)
  simpa using this

theorem filter_length_lt {α : Type} (p q : α → Bool) : ∀ (l : List α) (x : α), x ∈ l → (∀ y ∈ l, q y = true → p y = true) → p x = true → q x = false → (l.filter q).length < (l.filter p).length
  | [], _, h, _, _, _ => by cases h
  | y :: r, x, h, hpq, hp, hq => by
    have hle : (r.filter q).length ≤ (r.filter p).length := by
      rw [← List.countP_eq_length_filter, ← List.countP_eq_length_filter]
      exact List.countP_mono_left (fun z hz => hpq z (List.mem_cons_of_mem _ hz))
    rcases List.mem_cons.1 h with rfl | h
    · rw [List.filter_cons_of_pos hp, List.filter_cons_of_neg (by rw [hq]; simp)]
      simp only [List.length_cons]; omega
    · have ih := filter_length_lt p q r x h (fun z hz => hpq z (List.mem_cons_of_mem _ hz)) hp hq
      by_cases hy : q y = true
      · rw [List.filter_cons_of_pos hy, List.filter_cons_of_pos (hpq y (List.mem_cons_self ..) hy)]
        simp only [List.length_cons]; omega
      · rw [List.filter_cons_of_neg hy]
        by_cases hy2 : p y = true
        · rw [List.filter_cons_of_pos hy2]; simp only [List.length_cons]; omega
        · rw [List.filter_cons_of_neg hy2]; exact ih

theorem left_set {listed : Array Bool} {n i : Nat} (hi : i < n) (hs : i < listed.size) (hl : listed.getD i false = false) : left (listed.setIfInBounds i true) n < left listed n := by
  unfold left
  refine filter_length_lt _ _ _ i (List.mem_range.2 hi) (fun y _ hy => ?_) (by rw [hl]; rfl) (by simp [hs])
  cases hly : listed.getD y false
  · rfl
  · rw [getD_set_true hly] at hy; cases hy

theorem exists_ready {l : List Oper} {n : Nat} {listed : Array Bool} (hb : backB l n = true) (hn : n < l.length) (hsz : listed.size = l.length) (h : ¬ ∀ i, i < n → listed.getD i false = true) :
    ∃ i, i < n ∧ i ∈ Region.ready .any l.toArray listed := by
  have hex : ∃ i, i < n ∧ listed.getD i false = false := by
    apply Classical.byContradiction
    intro hne
    apply h
    intro i hi
    cases hl : listed.getD i false
    · exact absurd ⟨i, hi, hl⟩ hne
    · rfl
  have key : ∀ m i, i < n → listed.getD i false = false → i ≤ m → ∃ i, i < n ∧ i ∈ Region.ready .any l.toArray listed := by
    intro m
    induction m with
    | zero =>
      intro i hi hl hm
      obtain rfl : i = 0 := by omega
      refine ⟨0, hi, mem_ready.2 ⟨getD_in (by omega) hl, l[0]'(by omega), by simp, fun e he hbe => ?_⟩⟩
      have h1 := List.all_eq_true.1 hb 0 (List.mem_range.2 hi)
      rw [List.getElem?_eq_getElem (by omega)] at h1
      have h2 := Array.all_eq_true_iff_forall_mem.1 h1 e he
      simp [hbe] at h2
    | succ m ih =>
      intro i hi hl hm
      by_cases hr : ∀ e ∈ (l[i]'(by omega)).after, Region.binds .any e = true → listed.getD e.on false = true
      · exact ⟨i, hi, mem_ready.2 ⟨getD_in (by omega) hl, l[i]'(by omega), by simp [show i < l.length by omega], hr⟩⟩
      · have : ∃ e ∈ (l[i]'(by omega)).after, Region.binds .any e = true ∧ listed.getD e.on false = false := by
          apply Classical.byContradiction
          intro hne
          apply hr
          intro e he hbe
          cases hle : listed.getD e.on false
          · exact absurd ⟨e, he, hbe, hle⟩ hne
          · rfl
        obtain ⟨e, he, hbe, hle⟩ := this
        have h1 := List.all_eq_true.1 hb i (List.mem_range.2 hi)
        rw [List.getElem?_eq_getElem (by omega)] at h1
        have h2 := Array.all_eq_true_iff_forall_mem.1 h1 e he
        simp [hbe] at h2
        exact ih e.on (by omega) hle (by omega)
  obtain ⟨i, hi, hl⟩ := hex
  exact key i i hi hl (Nat.le_refl _)

theorem head_listed {l : List Oper} {n : Nat} {listed : Array Bool} (inv : HeadInv .any l.toArray n listed) (h : ∀ i, i < n → listed.getD i false = true) (hn : n < l.length) : listed = headL n l.length := by
  have hs : listed.size = l.length := by simpa using inv.size
  apply Array.ext
  · simp [headL, hs]
  · intro j h1 h2
    by_cases hj : j < n
    · have := h j hj
      simp [h1] at this
      simp [headL, this, hj]
    · have := inv.tail j (by omega) (by simpa [hs] using h1)
      simp [h1] at this
      simp [headL, this, hj]

/-- What the operation has to do that comes next: it is i, the listed ones have their values, w1 is the world. -/
def RunsAt (P : Program) (l : List Oper) (n : Nat) (Q : Exit → Act → World → Prop) (a : Act) (w : World) (V : Array Bool → Nat → Value → World → Prop) (i : Nat) (o : Oper) : Prop :=
  ∀ (listed : Array Bool) (b : Act) (w1 : World) (vs : Nat → Value), Below w.heap.size w w1 → b.defers = a.defers → listed.size = l.length → listed.getD i false = false →
    (∀ t, (∀ o' ∈ l.take n, o'.dst ≠ some t) → b.tmps.getD t undef = a.tmps.getD t undef) →
    (∀ j, waitsOn o j → listed.getD j false = true) →
    (∀ j oj k, l[j]? = some oj → listed.getD j false = true → waitsOn oj k → listed.getD k false = true) →
    (∀ j oj t, j < n → l[j]? = some oj → oj.dst = some t → listed.getD j false = true → b.tmps.getD t undef = vs j) →
    (∀ j, j < n → listed.getD j false = true → V listed j (vs j) w1) →
    if Region.wanted o (yielded l.toArray b.tmps) then
      o.wp P b w1 (fun b' w2 => ∃ v, b' = b.put o.dst v ∧ Below w.heap.size w w2 ∧ V (listed.setIfInBounds i true) i v w2 ∧ ∀ j, j < n → j ≠ i → listed.getD j false = true → V (listed.setIfInBounds i true) j (vs j) w2) Q
    else V (listed.setIfInBounds i true) i undef w1 ∧ ∀ j, j < n → j ≠ i → listed.getD j false = true → V (listed.setIfInBounds i true) j (vs j) w1

theorem mix_core {Q : Exit → Act → World → Prop} {a : Act} {w : World} {l : List Oper} {n : Nat} (hB : mixB l n = true) (V : Array Bool → Nat → Value → World → Prop)
    (hsz : ∀ o ∈ l.take n, ∀ t, o.dst = some t → t < a.tmps.size)
    (run : ∀ (i : Nat) (o : Oper), i < n → l[i]? = some o → RunsAt P l n Q a w V i o)
    (fin : ∀ vs w1, Below w.heap.size w w1 → (∀ i, i < n → V (headL n l.length) i (vs i) w1) → wpList P l.toArray Q (l.drop n) (putAll vs (l.take n) 0 a) w1) :
    ∀ (f : Nat) (listed : Array Bool) (vs : Nat → Value) (w1 : World), left listed n ≤ f → HeadInv .any l.toArray n listed → Below w.heap.size w w1 → (∀ j, j < n → listed.getD j false = true → V listed j (vs j) w1) →
      wpAny P .any l.toArray Q (f + (l.length - n)) listed (putS listed vs (l.take n) 0 a) w1 := by
  simp only [mixB, Bool.and_eq_true, decide_eq_true_eq] at hB
  obtain ⟨⟨⟨⟨⟨hn, hs⟩, hc⟩, hd⟩, hb⟩, hq⟩ := hB
  have key : ∀ (g : Nat) (l' : List Oper) (k : Nat) (ls : Array Bool) (b : Act) (u : World), (∀ j, l'[j]? = l.toArray[k + j]?) → Region.seqB .any l.toArray l'.length k ls = true → wpList P l.toArray Q l' b u → wpAny P .any l.toArray Q (l'.length + g) ls b u := by
    intro g l'
    induction l' with
    | nil =>
      intro k ls b u _ hB' h'
      have hr : Region.ready .any l.toArray ls = [] := by simpa [Region.seqB] using hB'
      exact wpAny_done hr h' _
    | cons o l' ih' =>
      intro k ls b u hl hB' h'
      have h0 : l.toArray[k]? = some o := by simpa using (hl 0).symm
      simp only [List.length_cons, Region.seqB, Bool.and_eq_true, decide_eq_true_eq] at hB'
      rw [show (o :: l').length + g = (l'.length + g) + 1 by simp; omega]
      refine ⟨fun h1 => (by rw [hB'.1] at h1; cases h1), fun i hi => ?_⟩
      rw [hB'.1] at hi
      have hik : i = k := by simpa using hi
      subst hik
      have hw : wpOp P l.toArray Q i (wpList P l.toArray Q l') b u := by unfold wpOp; simp only [h0]; exact h'
      exact wpOp_mono (fun b' u' h'' => ih' (i + 1) _ b' u' (fun j => by have := hl (j + 1); simpa [Nat.add_assoc, Nat.add_comm 1 j] using this) hB'.2 h'') hw
  have hdone : ∀ (g : Nat) (listed : Array Bool) (vs : Nat → Value) (w1 : World), HeadInv .any l.toArray n listed → Below w.heap.size w w1 → (∀ j, j < n → listed.getD j false = true → V listed j (vs j) w1) → (∀ i, i < n → listed.getD i false = true) →
      wpAny P .any l.toArray Q (g + (l.length - n)) listed (putS listed vs (l.take n) 0 a) w1 := by
    intro g listed vs w1 inv hbl hvs hall
    have he := head_listed inv hall hn
    have := key g (l.drop n) n listed (putS listed vs (l.take n) 0 a) w1 (fun j => by simp [List.getElem?_drop]) (by rw [he]; simpa using hq)
      (by
        rw [putS_all listed vs (l.take n) 0 a (fun j _ h2 => hall j (by simp at h2; omega))]
        exact fin vs w1 hbl (fun i hi => by rw [← he]; exact hvs i hi (hall i hi)))
    rw [Nat.add_comm]
    simpa using this
  intro f
  induction f with
  | zero =>
    intro listed vs w1 hf inv hbl hvs
    exact hdone 0 listed vs w1 inv hbl hvs (left_zero (by omega))
  | succ f ih =>
    intro listed vs w1 hf inv hbl hvs
    have hls : listed.size = l.length := by simpa using inv.size
    by_cases hall : ∀ i, i < n → listed.getD i false = true
    · exact hdone (f + 1) listed vs w1 inv hbl hvs hall
    · rw [show f + 1 + (l.length - n) = (f + (l.length - n)) + 1 by omega]
      obtain ⟨i0, hi0, hr0⟩ := exists_ready hb hn hls hall
      refine ⟨fun h0 => (by rw [h0] at hr0; cases hr0), fun i hi => ?_⟩
      have hin : i < n := by
        rcases Nat.lt_or_ge i n with h | h
        · exact h
        · exact absurd hi (tail_waits hs hc (by simpa using hn) inv _ i0 rfl hi0 (mem_ready.1 hr0).1 i h)
      obtain ⟨hun, o, ho, hdep⟩ := mem_ready.1 hi
      have hol : l[i]? = some o := by simpa using ho
      have hun' : listed.getD i false = false := getD_both hun
      have htk : (l.take n)[i - 0]? = some o := by rw [List.getElem?_take]; simp [hin, hol]
      have hother : ∀ t, (∀ o' ∈ l.take n, o'.dst ≠ some t) → (putS listed vs (l.take n) 0 a).tmps.getD t undef = a.tmps.getD t undef := fun t ht => slot_other listed vs t _ 0 a ht
      have hslots : ∀ j oj t, j < n → l[j]? = some oj → oj.dst = some t → listed.getD j false = true → (putS listed vs (l.take n) 0 a).tmps.getD t undef = vs j := by
        intro j oj t hj hoj ht hlj
        have htj : (l.take n)[j - 0]? = some oj := by rw [List.getElem?_take]; simp [hj, hoj]
        exact slot_of listed vs j t hlj _ 0 a oj hd (Nat.zero_le _) htj ht (hsz oj (List.mem_of_getElem? htj) t ht)
      have hrun := run i o hin hol listed (putS listed vs (l.take n) 0 a) w1 vs hbl (putS_defers _ _ _ _ _) hls hun' hother (fun j ⟨e, he, hbe, h⟩ => h ▸ hdep e he hbe) (fun j oj k hoj hlj ⟨e, he, hbe, h⟩ => h ▸ inv.closed j oj (by simpa using hoj) hlj e he hbe) hslots hvs
      have hleft : left (listed.setIfInBounds i true) n ≤ f := by
        have := left_set hin (by omega) hun'
        omega
      have next : ∀ v w2, Below w.heap.size w w2 → V (listed.setIfInBounds i true) i v w2 → (∀ j, j < n → j ≠ i → listed.getD j false = true → V (listed.setIfInBounds i true) j (vs j) w2) →
          wpAny P .any l.toArray Q (f + (l.length - n)) (listed.setIfInBounds i true) ((putS listed vs (l.take n) 0 a).put o.dst v) w2 := by
        intro v w2 hb2 hv hrest
        rw [← putS_set listed vs i v (by omega) hun' (l.take n) 0 a o hd (Nat.zero_le _) htk]
        refine ih _ _ w2 hleft (inv.set hi hin) hb2 (fun j hj hlj => ?_)
        by_cases hji : j = i
        · subst hji
          rw [show updV vs j v j = v from if_pos rfl]; exact hv
        · rw [show updV vs i v j = vs j from if_neg hji]
          rw [getD_set_ne false (fun e => hji e.symm)] at hlj
          exact hrest j hj hji hlj
      unfold wpOp
      simp only [ho]
      split
      · rename_i hw
        rw [if_pos hw] at hrun
        exact .inl (Oper.wp_mono (fun b' w2 ⟨v, hb', h2, hv, hr⟩ => by rw [hb']; exact next v w2 h2 hv hr) hrun)
      · rename_i hw
        rw [if_neg hw] at hrun
        exact next undef w1 hbl hrun.1 hrun.2

theorem wp_region_mix {id : Nat} {Q : Exit → Act → World → Prop} {a : Act} {w : World} {l : List Oper} (n : Nat) (hm : P.follows .mixedOrders = true) (hB : mixB l n = true) (V : Array Bool → Nat → Value → World → Prop)
    (hsz : ∀ o ∈ l.take n, ∀ t, o.dst = some t → t < a.tmps.size)
    (run : ∀ (i : Nat) (o : Oper), i < n → l[i]? = some o → RunsAt P l n Q a w V i o)
    (fin : ∀ vs w1, Below w.heap.size w w1 → (∀ i, i < n → V (headL n l.length) i (vs i) w1) → wpList P l.toArray Q (l.drop n) (putAll vs (l.take n) 0 a) w1) : (Code.region id l.toArray true).wp P Q a w := by
  have hn : n < l.length := by simp only [mixB, Bool.and_eq_true, decide_eq_true_eq] at hB; exact hB.1.1.1.1.1
  refine wp_region_any hm ?_
  have inv0 : HeadInv .any l.toArray n (Array.replicate l.toArray.size false) :=
    ⟨by simp, fun j oj _ hl => (by rw [getD_replicate_false] at hl; cases hl), fun t _ ht => getD_in (by simpa using ht) (getD_replicate_false _ _)⟩
  have H := mix_core hB V hsz run fin n (Array.replicate l.toArray.size false) (fun _ => undef) w.drew
    (by unfold left; exact Nat.le_trans (List.length_filter_le _ _) (by simp)) inv0 (Below.refl _ _).drew (fun j _ hl => by rw [getD_replicate_false] at hl; cases hl)
  rw [putS_none _ _ _ _ _ (fun j => getD_replicate_false _ _)] at H
  rw [show n + (l.length - n) = l.toArray.size by simp; omega] at H
  exact H

/-- A spec: what holds of an operation's value, by what is listed. -/
abbrev Spec := (Nat → Bool) → Value → World → Prop
def Stab (p : Spec) : Prop := ∀ f v w1 w2, p f v w1 → Below w1.heap.size w1 w2 → p f v w2
/-- It does not look at whether number i is listed. -/
def Blind (p : Spec) (i : Nat) : Prop := ∀ f g v w, (∀ j, j ≠ i → f j = g j) → p f v w → p g v w
/-- This very value. -/
def IsV (x : Value) : Spec := fun _ v _ => v = x
/-- A pointer to a block that the region made, with cells by what is listed. -/
def NewB (B : Nat) (T : TypeId) (cs : (Nat → Bool) → Array Value) : Spec := fun f v w => ∃ g, v = .pointer (some ⟨g, 0, none⟩) ∧ B ≤ g ∧ Blk w g T (cs f)
theorem stab_isV (x : Value) : Stab (IsV x) := fun _ _ _ _ h _ => h
theorem stab_newB (B : Nat) (T : TypeId) (cs) : Stab (NewB B T cs) := fun _ _ _ _ ⟨g, h1, h2, h3⟩ hb => ⟨g, h1, h2, h3.ext hb⟩
theorem blind_isV (x : Value) (i : Nat) : Blind (IsV x) i := fun _ _ _ _ _ h => h
theorem blind_newB (B : Nat) (T : TypeId) (cs : (Nat → Bool) → Array Value) (i : Nat) (h : ∀ f g : Nat → Bool, (∀ j, j ≠ i → f j = g j) → cs f = cs g) : Blind (NewB B T cs) i :=
  fun f g _ _ hfg ⟨p, h1, h2, h3⟩ => ⟨p, h1, h2, h f g hfg ▸ h3⟩

/-- The predicate of a list of specs. -/
def specV (specs : List Spec) : Array Bool → Nat → Value → World → Prop := fun listed i v w => (specs.getD i fun _ _ _ => True) (fun j => listed.getD j false) v w

/-- An operation that only lays blocks, and whose listing no spec looks at. -/
theorem runs_below {Q : Exit → Act → World → Prop} {a : Act} {w : World} {l : List Oper} {n : Nat} {specs : List Spec} {i : Nat} {o : Oper} (hst : ∀ p ∈ specs, Stab p) (hbl : ∀ p ∈ specs, Blind p i) (hi : i < n) (hn : n ≤ l.length)
    (h : ∀ (f : Nat → Bool) (b : Act) (w1 : World) (vs : Nat → Value), Below w.heap.size w w1 → b.defers = a.defers →
      (∀ t, (∀ o' ∈ l.take n, o'.dst ≠ some t) → b.tmps.getD t undef = a.tmps.getD t undef) →
      f i = false → (∀ j oj k, l[j]? = some oj → f j = true → waitsOn oj k → f k = true) →
      (∀ j oj t, j < n → l[j]? = some oj → oj.dst = some t → waitsOn o j → b.tmps.getD t undef = vs j ∧ (specs.getD j fun _ _ _ => True) f (vs j) w1) →
      if Region.wanted o (yielded l.toArray b.tmps) then
        o.wp P b w1 (fun b' w2 => ∃ v, b' = b.put o.dst v ∧ Below w1.heap.size w1 w2 ∧ (specs.getD i fun _ _ _ => True) f v w2) Q
      else (specs.getD i fun _ _ _ => True) f undef w1) : RunsAt P l n Q a w (specV specs) i o := by
  intro listed b w1 vs hb1 hdf hsz hun hoth hw hcl hslots hvs
  have hset : ∀ j, j ≠ i → (listed.getD j false) = ((listed.setIfInBounds i true).getD j false) := fun j hj => (getD_set_ne false (fun e => hj e.symm)).symm
  have hget : ∀ j, (specs.getD j fun _ _ _ => True) = (fun _ _ _ => True) ∨ (specs.getD j fun _ _ _ => True) ∈ specs := by
    intro j
    rcases Nat.lt_or_ge j specs.length with hj | hj
    · right; simp [hj]
    · left; simp [hj]
  have mv : ∀ j v w2, (specs.getD j fun _ _ _ => True) (fun k => listed.getD k false) v w2 → specV specs (listed.setIfInBounds i true) j v w2 := by
    intro j v w2 hp
    rcases hget j with h1 | h1
    · unfold specV; rw [h1]; trivial
    · exact hbl _ h1 _ _ _ _ hset hp
  have st : ∀ j v u1 u2, (specs.getD j fun _ _ _ => True) (fun k => listed.getD k false) v u1 → Below u1.heap.size u1 u2 → (specs.getD j fun _ _ _ => True) (fun k => listed.getD k false) v u2 := by
    intro j v u1 u2 hp hb
    rcases hget j with h1 | h1
    · rw [h1]; trivial
    · exact hst _ h1 _ _ _ _ hp hb
  have H := h (fun j => listed.getD j false) b w1 vs hb1 hdf hoth hun hcl (fun j oj t hj hoj ht hwj => ⟨hslots j oj t hj hoj ht (hw j hwj), hvs j hj (hw j hwj)⟩)
  split
  · rename_i hwd
    rw [if_pos hwd] at H
    refine Oper.wp_mono (fun b' w2 ⟨v, hb', h2, hv⟩ => ⟨v, hb', ext_trans hb1 h2, mv i v w2 hv, fun j hj _ hlj => mv j _ w2 (st j _ _ _ (hvs j hj hlj) h2)⟩) H
  · rename_i hwd
    rw [if_neg hwd] at H
    exact ⟨mv i _ _ H, fun j hj _ hlj => mv j _ _ (hvs j hj hlj)⟩

def noDstB (l : List Oper) (t : Tmp) : Bool := l.all fun o => match o.dst with | some t' => t' != t | none => true
theorem noDst {l : List Oper} {t : Tmp} (h : noDstB l t = true) : ∀ o ∈ l, o.dst ≠ some t := by
  intro o ho e
  have := List.all_eq_true.1 h o ho
  rw [e] at this; simp at this
def waitB (o : Oper) (j : Nat) : Bool := o.after.any fun e => Region.binds .any e && e.on == j
theorem waits_of {o : Oper} {j : Nat} (h : waitB o j = true) : waitsOn o j := by
  obtain ⟨e, he, hb⟩ := Array.any_eq_true'.1 h
  simp only [Bool.and_eq_true, beq_iff_eq] at hb
  exact ⟨e, he, hb.1, hb.2⟩
def boundB (l : List Oper) (n : Nat) : Bool := l.all fun o => match o.dst with | some t => decide (t < n) | none => true
theorem bound_of {l : List Oper} {n : Nat} (h : boundB l n = true) : ∀ o ∈ l, ∀ t, o.dst = some t → t < n := by
  intro o ho t e
  have := List.all_eq_true.1 h o ho
  rw [e] at this; simpa using this

end
end Go.Proofs.Ytlbacbhafmfbjaa
