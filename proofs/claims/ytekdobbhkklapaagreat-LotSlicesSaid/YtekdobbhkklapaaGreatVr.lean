/- Regions that draw their order: whatever the order is, they come to what the walk says. -/
import Derived.Test.YtekdobbhkklapaaGreatVo
namespace Go.Proofs.YtekdobbhkklapaaGreat
open Go Go.RowKit
set_option linter.unusedVariables false
set_option linter.unusedSimpArgs false
set_option linter.unnecessarySimpa false

inductive Md where
  | app
  | skip
  | kill
abbrev DR := Option Nat × Option Nat
/-- What is left where an operation with this effect may or may not have been run. -/
def softX (x : Fx) : Fx := match x.e with
  | none => ⟨.junk, none⟩
  | some (_, b) => ⟨.junk, some (.dead, b)⟩
/-- The description where of a list of operations some have been run, some not, and of some nothing is known. -/
def vw (md : Nat → Md) : List DR → List Fx → Nat → St → St
  | [], _, _, st => st
  | (d, r) :: l, xs, k, st => match md k with
    | .app => match xs with
      | x :: xs' => vw md l xs' (k + 1) (fxD d r x st)
      | [] => vw md l [] (k + 1) (killD d r st)
    | .kill => match xs with
      | x :: xs' => vw md l xs' (k + 1) (fxD d r (softX x) st)
      | [] => vw md l [] (k + 1) (killD d r st)
    | .skip => vw md l xs.tail (k + 1) st
def vwF (md : Nat → Md) : List DR → List Fx → Nat → SF → SF
  | [], _, _, s => s
  | (d, r) :: l, xs, k, s => match md k with
    | .app => match xs with
      | x :: xs' => vwF md l xs' (k + 1) (fxF d r x s)
      | [] => vwF md l [] (k + 1) (killF d r s)
    | .kill => match xs with
      | x :: xs' => vwF md l xs' (k + 1) (fxF d r (softX x) s)
      | [] => vwF md l [] (k + 1) (killF d r s)
    | .skip => vwF md l xs.tail (k + 1) s
theorem sf_vw (md : Nat → Md) : ∀ (l : List DR) (xs : List Fx) (k : Nat) (st : St), (vw md l xs k st).sf = vwF md l xs k st.sf
  | [], _, _, _ => rfl
  | (d, r) :: l, xs, k, st => by
    simp only [vw, vwF]
    cases md k with
    | app =>
      cases xs with
      | nil => show (vw md l [] (k + 1) (killD d r st)).sf = _; rw [sf_vw md l, sf_killD]
      | cons x xs' => show (vw md l xs' (k + 1) (fxD d r x st)).sf = _; rw [sf_vw md l, sf_fxD]
    | kill =>
      cases xs with
      | nil => show (vw md l [] (k + 1) (killD d r st)).sf = _; rw [sf_vw md l, sf_killD]
      | cons x xs' => show (vw md l xs' (k + 1) (fxD d r (softX x) st)).sf = _; rw [sf_vw md l, sf_fxD]
    | skip => exact sf_vw md l xs.tail (k + 1) st

def XLe : List Fx → List Fx → Prop
  | _, [] => True
  | [], _ :: _ => False
  | x :: xs, y :: ys => (SLe x.c y.c ∧ x.e = y.e) ∧ XLe xs ys
theorem XLe.nil (xs : List Fx) : XLe xs [] := by cases xs <;> trivial
theorem XLe.refl : ∀ l : List Fx, XLe l l
  | [] => trivial
  | x :: l => ⟨⟨SLe.refl _, rfl⟩, XLe.refl l⟩
theorem XLe.app (l m : List Fx) : XLe (l ++ m) l := by
  induction l with
  | nil => cases m <;> trivial
  | cons e l ih => exact ⟨⟨SLe.refl _, rfl⟩, ih⟩
theorem XLe.tail {xs ys : List Fx} (h : XLe xs ys) : XLe xs.tail ys.tail := by
  cases ys with
  | nil => exact XLe.nil _
  | cons y ys =>
    cases xs with
    | nil => exact h.elim
    | cons x xs => exact h.2
theorem XLe.set {es : List Fx} {j : Nat} {c c' : AV} {eo : Option (Ent × Bool)} (hj : es[j]? = some ⟨c, eo⟩) (hc : SLe c' c) : XLe (es.set j ⟨c', eo⟩) es := by
  induction es generalizing j with
  | nil => simp at hj
  | cons e l ih =>
    cases j with
    | zero => simp at hj; subst hj; exact ⟨⟨hc, rfl⟩, XLe.refl l⟩
    | succ j => exact ⟨⟨SLe.refl _, rfl⟩, ih (by simpa using hj)⟩

theorem killF_fx (d r : Option Nat) (s : SF) : killF d r s = fxF d r ⟨.junk, r.map fun _ => (.dead, true)⟩ s := by cases r <;> rfl
theorem Wk.kill {s s' : SF} (h : Wk s s') (d r : Option Nat) : Wk (killF d r s) (killF d r s') := by
  rw [killF_fx, killF_fx]
  exact h.fx d r (SLe.refl _) rfl
theorem softX_e (x : Fx) {y : Fx} (h : x.e = y.e) : softX x = softX y := by unfold softX; rw [h]
theorem Wk.fx_soft {s s' : SF} (h : Wk s s') (d r : Option Nat) (x : Fx) : Wk (fxF d r x s) (fxF d r (softX x) s') := by
  obtain ⟨c, e⟩ := x
  cases e with
  | none => exact h.fx d r (.inl rfl) rfl
  | some q =>
    obtain ⟨e, b⟩ := q
    have H := h.fx d r (x := ⟨c, some (e, b)⟩) (x' := ⟨.junk, some (e, b)⟩) (.inl rfl) rfl
    cases r with
    | none => exact H
    | some r =>
      cases b with
      | true =>
        refine ⟨H.g, fun k q hq => ?_⟩
        have hq' : (if r = k then some Ent.dead else (s'.h k).map (Ent.junkR r)) = some q := hq
        by_cases hk : r = k
        · rw [if_pos hk] at hq'; cases hq'; exact .inl rfl
        · rw [if_neg hk] at hq'
          exact H.h k q (by show (if r = k then some e else (s'.h k).map (Ent.junkR r)) = some q; rw [if_neg hk]; exact hq')
      | false =>
        refine ⟨H.g, fun k q hq => ?_⟩
        have hq' : (if r = k then some Ent.dead else s'.h k) = some q := hq
        by_cases hk : r = k
        · rw [if_pos hk] at hq'; cases hq'; exact .inl rfl
        · rw [if_neg hk] at hq'
          exact H.h k q (by show (if r = k then some e else s'.h k) = some q; rw [if_neg hk]; exact hq')
theorem Wk.skip_soft {s s' : SF} (h : Wk s s') (d r : Option Nat) (x : Fx) : Wk s (fxF d r (softX x) s') := by
  obtain ⟨c, e⟩ := x
  have hsl : ∀ t, SLe (s.g t) (slotF d .junk s'.g t) := fun t => by
    cases d with
    | none => exact h.g t
    | some u =>
      show SLe (s.g t) (if u = t then .junk else s'.g t)
      split
      · exact .inl rfl
      · exact h.g t
  cases e with
  | none => cases r <;> exact ⟨hsl, h.h⟩
  | some q =>
    obtain ⟨e, b⟩ := q
    cases r with
    | none => exact ⟨hsl, h.h⟩
    | some r =>
      cases b with
      | true => exact h.skip_kill d (some r)
      | false =>
        refine ⟨hsl, fun k q hq => ?_⟩
        have hq' : (if r = k then some Ent.dead else s'.h k) = some q := hq
        by_cases hk : r = k
        · rw [if_pos hk] at hq'; cases hq'; exact .inl rfl
        · rw [if_neg hk] at hq'; exact h.h k q hq'
theorem vwF_wk {m1 m2 : Nat → Md} : ∀ (l : List DR) (xs ys : List Fx) (k : Nat) (s s' : SF), (∀ j, k ≤ j → j < k + l.length → (m2 j = .app → m1 j = .app) ∧ (m2 j = .skip → m1 j = .skip)) → XLe xs ys → Wk s s' → Wk (vwF m1 l xs k s) (vwF m2 l ys k s')
  | [], _, _, _, _, _, _, _, h => h
  | (d, r) :: l, xs, ys, k, s, s', hm, hx, hw => by
    have hm' : ∀ j, k + 1 ≤ j → j < k + 1 + l.length → (m2 j = .app → m1 j = .app) ∧ (m2 j = .skip → m1 j = .skip) := fun j h1 h2 => hm j (by omega) (by simp; omega)
    obtain ⟨ha, hs⟩ := hm k (Nat.le_refl _) (by simp)
    simp only [vwF]
    cases h2 : m2 k with
    | app =>
      rw [ha h2]
      cases ys with
      | nil =>
        cases xs with
        | nil => exact vwF_wk l [] [] (k + 1) _ _ hm' trivial (hw.kill d r)
        | cons x xs' => exact vwF_wk l xs' [] (k + 1) _ _ hm' (by cases xs' <;> trivial) (hw.fx_kill d r x)
      | cons y ys' =>
        cases xs with
        | nil => exact hx.elim
        | cons x xs' => exact vwF_wk l xs' ys' (k + 1) _ _ hm' hx.2 (hw.fx d r hx.1.1 hx.1.2)
    | skip =>
      rw [hs h2]
      exact vwF_wk l xs.tail ys.tail (k + 1) _ _ hm' hx.tail hw
    | kill =>
      cases ys with
      | nil =>
        cases h1 : m1 k with
        | app =>
          cases xs with
          | nil => exact vwF_wk l [] [] (k + 1) _ _ hm' trivial (hw.kill d r)
          | cons x xs' => exact vwF_wk l xs' [] (k + 1) _ _ hm' (by cases xs' <;> trivial) (hw.fx_kill d r x)
        | kill =>
          cases xs with
          | nil => exact vwF_wk l [] [] (k + 1) _ _ hm' trivial (hw.kill d r)
          | cons x xs' => exact vwF_wk l xs' [] (k + 1) _ _ hm' (by cases xs' <;> trivial) (hw.fx_kill d r (softX x))
        | skip => exact vwF_wk l xs.tail [] (k + 1) _ _ hm' hx.tail (hw.skip_kill d r)
      | cons y ys' =>
        cases xs with
        | nil => exact hx.elim
        | cons x xs' =>
          have he : softX x = softX y := softX_e x hx.1.2
          cases h1 : m1 k with
          | app => exact vwF_wk l xs' ys' (k + 1) _ _ hm' hx.2 (by rw [← he]; exact hw.fx_soft d r x)
          | kill => exact vwF_wk l xs' ys' (k + 1) _ _ hm' hx.2 (by rw [← he]; exact hw.fx d r (SLe.refl _) rfl)
          | skip => exact vwF_wk l xs' ys' (k + 1) _ _ hm' hx.2 (hw.skip_soft d r y)
theorem vw_wk {m1 m2 : Nat → Md} (l : List DR) (xs ys : List Fx) (st : St) (hm : ∀ j, j < l.length → (m2 j = .app → m1 j = .app) ∧ (m2 j = .skip → m1 j = .skip)) (hx : XLe xs ys) : Wk (vw m1 l xs 0 st).sf (vw m2 l ys 0 st).sf := by
  rw [sf_vw, sf_vw]
  exact vwF_wk l xs ys 0 _ _ (fun j _ h => hm j (by simpa using h)) hx (Wk.refl _)

/-- The view of operation i. -/
def mdI (ms : List Nat) (i k : Nat) : Md := match (ms.getD i 0).testBit k with
  | true => .app
  | false => match Nat.beq k i with
    | true => .skip
    | false => match (ms.getD k 0).testBit i with
      | true => .skip
      | false => .kill
def mdL (listed : Array Bool) (k : Nat) : Md := match listed.getD k false with
  | true => .app
  | false => .skip

/-- An effect put in its place goes past all those that it does not meet. -/
theorem vwF_past {listed : Array Bool} {d r : Option Nat} {x : Fx} : ∀ (l : List DR) (xs : List Fx) (k : Nat) (s : SF), (∀ (j : Nat) (d' r' : Option Nat) (x' : Fx), l[j]? = some (d', r') → xs[j]? = some x' → listed.getD (k + j) false = true → apartFx d r x d' r' x' = true) → l.length ≤ xs.length →
    vwF (mdL listed) l xs k (fxF d r x s) = fxF d r x (vwF (mdL listed) l xs k s)
  | [], _, _, _, _, _ => rfl
  | (d', r') :: l, [], k, s, _, hl => by simp at hl
  | (d', r') :: l, x' :: xs, k, s, h, hl => by
    have h' : ∀ (j : Nat) (d'' r'' : Option Nat) (x'' : Fx), l[j]? = some (d'', r'') → xs[j]? = some x'' → listed.getD (k + 1 + j) false = true → apartFx d r x d'' r'' x'' = true := fun j d'' r'' x'' h1 h2 h3 => h (j + 1) d'' r'' x'' (by simpa using h1) (by simpa using h2) (by rw [show k + (j + 1) = k + 1 + j by omega]; exact h3)
    have hl' : l.length ≤ xs.length := by simpa using hl
    simp only [vwF]
    cases hk : listed.getD k false with
    | true =>
      have hmd : mdL listed k = .app := by unfold mdL; rw [hk]
      rw [hmd]
      show vwF (mdL listed) l xs (k + 1) (fxF d' r' x' (fxF d r x s)) = fxF d r x (vwF (mdL listed) l xs (k + 1) (fxF d' r' x' s))
      rw [← fx_comm (h 0 d' r' x' rfl rfl (by simpa using hk)) s]
      exact vwF_past l xs (k + 1) _ h' hl'
    | false =>
      have hmd : mdL listed k = .skip := by unfold mdL; rw [hk]
      rw [hmd]
      exact vwF_past l xs (k + 1) s h' hl'
theorem vwF_set {listed : Array Bool} {i : Nat} (hi : i < listed.size) (hun : listed.getD i false = false) : ∀ (l : List DR) (xs : List Fx) (k : Nat) (s : SF) (d r : Option Nat) (x : Fx), k ≤ i → l[i - k]? = some (d, r) → xs[i - k]? = some x → l.length ≤ xs.length →
    (∀ (j : Nat) (d' r' : Option Nat) (x' : Fx), i < k + j → l[j]? = some (d', r') → xs[j]? = some x' → listed.getD (k + j) false = true → apartFx d r x d' r' x' = true) →
    vwF (mdL (listed.setIfInBounds i true)) l xs k s = fxF d r x (vwF (mdL listed) l xs k s)
  | [], _, _, _, _, _, _, _, h, _, _, _ => by simp at h
  | (d', r') :: l, [], k, s, d, r, x, _, _, h, _, _ => by simp at h
  | (d', r') :: l, x' :: xs, k, s, d, r, x, hk, hl, hx, hlen, hap => by
    by_cases hki : k = i
    · subst hki
      simp at hl hx
      obtain ⟨rfl, rfl⟩ := hl
      subst hx
      have h1 : mdL (listed.setIfInBounds k true) k = .app := by unfold mdL; simp [hi]
      have h2 : mdL listed k = .skip := by unfold mdL; rw [hun]
      simp only [vwF, h1, h2]
      have hsame : ∀ (l : List DR) (xs : List Fx) (j : Nat) (s : SF), k < j → vwF (mdL (listed.setIfInBounds k true)) l xs j s = vwF (mdL listed) l xs j s := by
        intro l
        induction l with
        | nil => intro _ _ _ _; rfl
        | cons q l ih =>
          intro xs j s hj
          obtain ⟨d'', r''⟩ := q
          have hm : mdL (listed.setIfInBounds k true) j = mdL listed j := by
            unfold mdL
            rw [getD_set_ne false (by omega)]
          simp only [vwF, hm]
          cases mdL listed j with
          | app => cases xs <;> exact ih _ (j + 1) _ (by omega)
          | kill => cases xs <;> exact ih _ (j + 1) _ (by omega)
          | skip => exact ih _ (j + 1) _ (by omega)
      rw [hsame l xs (k + 1) _ (by omega)]
      exact vwF_past l xs (k + 1) s (fun j d'' r'' x'' h1 h2 h3 => hap (j + 1) d'' r'' x'' (by omega) (by simpa using h1) (by simpa using h2) (by rw [show k + (j + 1) = k + 1 + j by omega]; exact h3)) (by simpa using hlen)
    · have hm : mdL (listed.setIfInBounds i true) k = mdL listed k := by
        unfold mdL
        rw [getD_set_ne false (fun e => hki e.symm)]
      have e1 : i - k = (i - (k + 1)) + 1 := by omega
      rw [e1] at hl hx
      have ih := fun s => vwF_set hi hun l xs (k + 1) s d r x (by omega) (by simpa using hl) (by simpa using hx) (by simpa using hlen) (fun j d'' r'' x'' h0 h1 h2 h3 => hap (j + 1) d'' r'' x'' (by omega) (by simpa using h1) (by simpa using h2) (by rw [show k + (j + 1) = k + 1 + j by omega]; exact h3))
      simp only [vwF, hm]
      cases mdL listed k with
      | app => exact ih _
      | kill => exact ih _
      | skip => exact ih _

/-- A call in a region. -/
structure CallK (X : Cx) (st : St) (d : Option Nat) (f : FuncId) (cs : List AV) (K : Option Nat → Fx → Prop) : Prop where
  ex : ∃ r x, (∀ (o : Oper) (cl : Operand) (args : Array Operand) (ts : Array TypeId), o.op = .call { callee := .value cl, args := args, argTypes := ts } → st.ev X cl = .dat (.val (.func (.func f) #[] #[])) → args.toList.map (st.ev X) = cs → o.dst = d → FStep X st o r x) ∧ K r x
theorem CallK.by {X : Cx} {st : St} {d : Option Nat} {f : FuncId} {cs : List AV} {K : Option Nat → Fx → Prop} {r : AV} (h : CallA X st f cs r) (hk : K none ⟨r, none⟩) : CallK X st d f cs K :=
  ⟨none, ⟨r, none⟩, fun o cl args ts ho hcl hcs hd => FStep.quiet (ne := none) (.inl rfl) (h.out o cl args ts ho hcl hcs), hk⟩

def neK (d : Option Nat) (c : AV) (ne : Option Ent) (K : Option Nat → Fx → Prop) : Prop := match ne with
  | none => K none ⟨c, none⟩
  | some e => match d with
    | none => False
    | some t => K (some t) ⟨c, some (e, true)⟩
def exX (X : Cx) (st : St) (o : Oper) (K : Option Nat → Fx → Prop) : Prop := match o.op with
  | .store t p x => match o.dst with
    | none => stX X st t p x fun r e => K (some r) ⟨.junk, some (e, false)⟩
    | some _ => False
  | .call c => match c with
    | ⟨.value cl, args, _⟩ => match st.ev X cl with
      | .dat (.val (.func (.func f) ⟨[]⟩ ⟨[]⟩)) => CallK X st o.dst f (args.toList.map (st.ev X)) K
      | _ => False
    | ⟨.builtin .append, ⟨[x, y]⟩, ⟨[t, t']⟩⟩ => match Nat.beq t t' with
      | true => apX X st o.dst t x y fun r c e => K (some r) ⟨c, some (e, true)⟩
      | false => False
    | _ => (evq X st o).to fun c ne => neK o.dst c ne K
  | _ => (evq X st o).to fun c ne => neK o.dst c ne K
theorem exq_x {X : Cx} (hX : X.ok) {st : St} {o : Oper} {K : Option Nat → Fx → Prop} (h : (evq X st o).to fun c ne => neK o.dst c ne K) : ∃ r x, K r x ∧ FStep X st o r x := by
  obtain ⟨c, ne, h1, h2⟩ := Res.to_sound (evq_sound hX) h
  unfold neK at h1
  split at h1
  · exact ⟨_, _, h1, FStep.quiet (ne := none) (.inl rfl) h2⟩
  · rename_i e
    split at h1
    · exact h1.elim
    · rename_i t ht
      have := FStep.quiet (ne := some e) (.inr (by rw [ht]; simp)) h2
      refine ⟨_, _, h1, ?_⟩
      have e1 : neR o.dst (some e) = some t := ht
      rw [e1] at this
      exact this
theorem exX_ok {X : Cx} (hX : X.ok) {st : St} {o : Oper} {K : Option Nat → Fx → Prop} (h : exX X st o K) : ∃ r x, K r x ∧ FStep X st o r x := by
  unfold exX at h
  split at h
  · rename_i ho
    split at h
    · rename_i hd
      obtain ⟨r, e, h1, h2⟩ := s_storeX hX ho hd h
      exact ⟨_, _, h1, h2⟩
    · exact h.elim
  · rename_i ho
    split at h
    · split at h
      · rename_i hcl
        obtain ⟨r, x, h1, h2⟩ := h.ex
        exact ⟨r, x, h2, h1 o _ _ _ ho hcl rfl rfl⟩
      · exact h.elim
    · split at h
      · rename_i hb
        obtain rfl := Nat.eq_of_beq_eq_true hb
        obtain ⟨r, c, e, h1, h2⟩ := s_appendX hX ho h
        exact ⟨_, _, h1, h2⟩
      · exact h.elim
    · exact exq_x hX h
  · exact exq_x hX h

def eqO : Option Nat → Option Nat → Bool
  | none, none => true
  | some a, some b => Nat.beq a b
  | _, _ => false
theorem eqO_eq {a b : Option Nat} (h : eqO a b = true) : a = b := by
  cases a <;> cases b <;> first | rfl | (cases h) | exact congrArg some (Nat.eq_of_beq_eq_true h)
def forceX (x : Fx) (K : Fx → Prop) : Prop := match x with
  | ⟨c, eo⟩ => force c fun c => match eo with
    | none => K ⟨c, none⟩
    | some (e, b) => forceE e fun e => K ⟨c, some (e, b)⟩
theorem forceX_eq (x : Fx) (K : Fx → Prop) : forceX x K = K x := by
  obtain ⟨c, eo⟩ := x
  unfold forceX
  simp only [force_eq]
  cases eo with
  | none => rfl
  | some q => obtain ⟨e, b⟩ := q; exact forceE_eq e _

/-- Whether the slot says yes, no, or nothing that is known. -/
def gdS (c : AV) (b : Bool) (yes no : Prop) : Prop := match c with
  | .tt => match b with
    | true => yes
    | false => no
  | .ff => match b with
    | true => no
    | false => yes
  | .dat (.val (.tuple _)) => no
  | _ => False
/-- A list with one more; a list with one changed: written out. -/
def snocK (l : List Fx) (x : Fx) (K : List Fx → Prop) : Prop := match l with
  | [] => K [x]
  | y :: l => snocK l x fun l' => K (y :: l')
theorem snocK_eq : ∀ (l : List Fx) (x : Fx) (K : List Fx → Prop), snocK l x K = K (l ++ [x])
  | [], x, K => rfl
  | y :: l, x, K => snocK_eq l x _
def setK (l : List Fx) (j : Nat) (x : Fx) (K : List Fx → Prop) : Prop := match l with
  | [] => K []
  | y :: l => match j with
    | 0 => K (x :: l)
    | j + 1 => setK l j x fun l' => K (y :: l')
theorem setK_eq : ∀ (l : List Fx) (j : Nat) (x : Fx) (K : List Fx → Prop), setK l j x K = K (l.set j x)
  | [], j, x, K => rfl
  | y :: l, 0, x, K => rfl
  | y :: l, j + 1, x, K => setK_eq l j x _
/-- The view of operation i whose mask is m. -/
def vwE (m i : Nat) : List DR → List Nat → List Fx → Nat → St → St
  | [], _, _, _, st => st
  | (d, r) :: l, ms, xs, k, st => match m.testBit k with
    | true => match xs with
      | x :: xs' => vwE m i l ms.tail xs' (k + 1) (fxD d r x st)
      | [] => vwE m i l ms.tail [] (k + 1) (killD d r st)
    | false => match Nat.beq k i with
      | true => vwE m i l ms.tail xs.tail (k + 1) st
      | false => match (ms.headD 0).testBit i with
        | true => vwE m i l ms.tail xs.tail (k + 1) st
        | false => match xs with
          | x :: xs' => vwE m i l ms.tail xs' (k + 1) (fxD d r (softX x) st)
          | [] => vwE m i l ms.tail [] (k + 1) (killD d r st)
theorem vwE_eq (ms0 : List Nat) (i : Nat) : ∀ (l : List DR) (xs : List Fx) (k : Nat) (st : St), vwE (ms0.getD i 0) i l (ms0.drop k) xs k st = vw (mdI ms0 i) l xs k st
  | [], _, _, _ => rfl
  | (d, r) :: l, xs, k, st => by
    have ht : (ms0.drop k).tail = ms0.drop (k + 1) := by rw [List.tail_drop]
    have hh : (ms0.drop k).headD 0 = ms0.getD k 0 := by
      rw [List.headD_eq_head?_getD, List.head?_drop, List.getD_eq_getElem?_getD]
    simp only [vwE, vw, ht, hh]
    unfold mdI
    cases (ms0.getD i 0).testBit k with
    | true => cases xs <;> exact vwE_eq ms0 i l _ (k + 1) _
    | false =>
      cases Nat.beq k i with
      | true => exact vwE_eq ms0 i l _ (k + 1) _
      | false =>
        cases (ms0.getD k 0).testBit i with
        | true => exact vwE_eq ms0 i l _ (k + 1) _
        | false => cases xs <;> exact vwE_eq ms0 i l _ (k + 1) _
/-- A description, written out. -/
def stK (s : St) (K : St → Prop) : Prop := match s with
  | ⟨fr, hp⟩ => K ⟨fr, hp⟩
/-- The operations, one after the other, each in its own view. -/
def exD (X : Cx) (n : Nat) (ops : List Oper) (ms : List Nat) (drs : List DR) (st : St) : List Oper → List Nat → List DR → Nat → List Fx → (List Fx → Prop) → Prop
  | [], _, _, _, effs, K => K effs
  | _ :: _, [], _, _, _, _ => False
  | _ :: _, _ :: _, [], _, _, _ => False
  | o :: r, m :: mr, (_, ri) :: dr, i, effs, K => match o.guard with
    | none => stK (vwE m i drs ms effs 0 st) fun V => exX X V o fun rr x => match eqO rr ri with
      | true => forceX x fun x => snocK effs x fun effs' => exD X n ops ms drs st r mr dr (i + 1) effs' K
      | false => False
    | some (j, b) => match ops[j]? with
      | none => False
      | some oj => match oj.dst with
        | none => False
        | some t => stK (vwE m i drs ms effs 0 st) fun V => match V.get t with
          | .dat (.val (.bool _)) => match effs[j]? with
            | some ⟨.dat (.val (.bool e)), eo⟩ => BrK e
                (setK effs j ⟨.tt, eo⟩ fun effs => stK (vwE m i drs ms effs 0 st) fun V => gdS (V.get t) b
                  (exX X V o fun rr x => match eqO rr ri with
                    | true => forceX x fun x => snocK effs x fun effs' => exD X n ops ms drs st r mr dr (i + 1) effs' K
                    | false => False)
                  (snocK effs ⟨und, none⟩ fun effs' => exD X n ops ms drs st r mr dr (i + 1) effs' K))
                (setK effs j ⟨.ff, eo⟩ fun effs => stK (vwE m i drs ms effs 0 st) fun V => gdS (V.get t) b
                  (exX X V o fun rr x => match eqO rr ri with
                    | true => forceX x fun x => snocK effs x fun effs' => exD X n ops ms drs st r mr dr (i + 1) effs' K
                    | false => False)
                  (snocK effs ⟨und, none⟩ fun effs' => exD X n ops ms drs st r mr dr (i + 1) effs' K))
            | _ => False
          | c => gdS c b
              (exX X V o fun rr x => match eqO rr ri with
                | true => forceX x fun x => snocK effs x fun effs' => exD X n ops ms drs st r mr dr (i + 1) effs' K
                | false => False)
              (snocK effs ⟨und, none⟩ fun effs' => exD X n ops ms drs st r mr dr (i + 1) effs' K)

/-- What is known of an operation's effect. -/
def StepOk (X : Cx) (n : Nat) (ops : List Oper) (ms : List Nat) (drs : List DR) (st : St) (effs : List Fx) (i : Nat) (o : Oper) (x : Fx) : Prop :=
  (FStep X (vw (mdI ms i) drs effs 0 st) o (drs.getD i (none, none)).2 x ∧ ∀ R : Run, R.n = n → ∀ ρ M a w, Sim X R ρ M (vw (mdI ms i) drs effs 0 st) a w → Region.wanted o (yielded ops.toArray a.tmps) = true) ∨
  ((x.e = none ∧ AVle und x.c) ∧ ∀ R : Run, R.n = n → ∀ ρ M a w, Sim X R ρ M (vw (mdI ms i) drs effs 0 st) a w → Region.wanted o (yielded ops.toArray a.tmps) = false)
theorem StepOk.le {X : Cx} {n : Nat} {ops : List Oper} {ms : List Nat} {drs : List DR} {st : St} {effs effs' : List Fx} {i : Nat} {o : Oper} {x : Fx} (h : StepOk X n ops ms drs st effs' i o x) (hle : XLe effs effs') : StepOk X n ops ms drs st effs i o x := by
  have hw : Wk (vw (mdI ms i) drs effs 0 st).sf (vw (mdI ms i) drs effs' 0 st).sf := vw_wk drs effs effs' st (fun j _ => ⟨id, id⟩) hle
  rcases h with ⟨h1, h2⟩ | ⟨h1, h2⟩
  · exact .inl ⟨h1.wk hw, fun R hn ρ M a w hs => h2 R hn ρ M a w (hs.wk hw)⟩
  · exact .inr ⟨h1, fun R hn ρ M a w hs => h2 R hn ρ M a w (hs.wk hw)⟩
def AllOk (X : Cx) (n : Nat) (ops : List Oper) (ms : List Nat) (drs : List DR) (st : St) (effs : List Fx) : Prop :=
  ∀ (i : Nat) (o : Oper) (x : Fx), ops[i]? = some o → effs[i]? = some x → StepOk X n ops ms drs st effs i o x
theorem AllOk.snoc {X : Cx} {n : Nat} {ops : List Oper} {ms : List Nat} {drs : List DR} {st : St} {effs : List Fx} (h : AllOk X n ops ms drs st effs) {o : Oper} {x : Fx} (ho : ops[effs.length]? = some o) (hx : StepOk X n ops ms drs st effs effs.length o x) : AllOk X n ops ms drs st (effs ++ [x]) := by
  intro i o' x' hi hei
  rcases Nat.lt_or_ge i effs.length with hlt | hge
  · rw [List.getElem?_append_left hlt] at hei
    exact (h i o' x' hi hei).le (XLe.app _ _)
  · rw [List.getElem?_append_right hge] at hei
    have : i = effs.length := by
      have := (List.getElem?_eq_some_iff.1 hei).1
      simp at this; omega
    subst this
    simp at hei
    subst hei
    rw [ho] at hi; cases hi
    exact hx.le (XLe.app _ _)
theorem AllOk.set {X : Cx} {n : Nat} {ops : List Oper} {ms : List Nat} {drs : List DR} {st : St} {effs : List Fx} (h : AllOk X n ops ms drs st effs) {j : Nat} {c c' : AV} {eo : Option (Ent × Bool)} (hj : effs[j]? = some ⟨c, eo⟩) (hc : SLe c' c) (hc' : AVle c c') (hu : AVle und c → AVle und c') : AllOk X n ops ms drs st (effs.set j ⟨c', eo⟩) := by
  intro i o x hi hx
  by_cases hij : j = i
  · subst hij
    have hlt : j < effs.length := (List.getElem?_eq_some_iff.1 hj).1
    rw [List.getElem?_set_self hlt] at hx
    cases hx
    have h1 := (h j o _ hi hj).le (XLe.set hj hc)
    rcases h1 with ⟨h2, h3⟩ | ⟨h2, h3⟩
    · exact .inl ⟨h2.le hc', h3⟩
    · exact .inr ⟨⟨h2.1, hu h2.2⟩, h3⟩
  · rw [List.getElem?_set_ne hij] at hx
    exact (h i o x hi hx).le (XLe.set hj hc)

theorem exD_ok {X : Cx} (hX : X.ok) {n : Nat} {ops : List Oper} {ms : List Nat} {drs : List DR} {st : St} {K : List Fx → Prop} : ∀ (r : List Oper) (mr : List Nat) (dr : List DR) (i : Nat) (effs : List Fx), effs.length = i → mr = ms.drop i → dr = drs.drop i → (∀ (j : Nat) (o : Oper), r[j]? = some o → ops[i + j]? = some o) → AllOk X n ops ms drs st effs → exD X n ops ms drs st r mr dr i effs K → ∃ effs', K effs' ∧ effs'.length = i + r.length ∧ AllOk X n ops ms drs st effs'
  | [], _, _, i, effs, hl, _, _, _, ha, h => ⟨effs, h, by simp [hl], ha⟩
  | _ :: _, [], _, _, _, _, _, _, _, _, h => h.elim
  | _ :: _, _ :: _, [], _, _, _, _, _, _, _, h => h.elim
  | o :: r, m :: mr, (d0, ri) :: dr, i, effs, hl, hmr, hdr, hr, ha, h => by
    have hm : ms.getD i 0 = m := by
      rw [List.getD_eq_getElem?_getD, ← List.head?_drop, ← hmr]; rfl
    have hri : (drs.getD i (none, none)).2 = ri := by
      rw [List.getD_eq_getElem?_getD, ← List.head?_drop, ← hdr]; rfl
    have hmr' : mr = ms.drop (i + 1) := by
      have := congrArg List.tail hmr
      rwa [List.tail_cons, List.tail_drop] at this
    have hdr' : dr = drs.drop (i + 1) := by
      have := congrArg List.tail hdr
      rwa [List.tail_cons, List.tail_drop] at this
    have hV : ∀ es : List Fx, vwE m i drs ms es 0 st = vw (mdI ms i) drs es 0 st := fun es => by
      have := vwE_eq ms i drs es 0 st
      rw [hm, List.drop_zero] at this
      exact this
    have ho : ∀ es : List Fx, es.length = i → ops[es.length]? = some o := fun es he => by
      have := hr 0 o rfl
      rw [he]; exact this
    have hr' : ∀ (j : Nat) (o : Oper), r[j]? = some o → ops[i + 1 + j]? = some o := fun j o' hj => by
      have := hr (j + 1) o' (by simpa using hj)
      rw [show i + 1 + j = i + (j + 1) by omega]; exact this
    have fin : ∀ {es : List Fx} {x : Fx}, es.length = i → AllOk X n ops ms drs st es → StepOk X n ops ms drs st es es.length o x → (snocK es x fun es' => exD X n ops ms drs st r mr dr (i + 1) es' K) → ∃ effs', K effs' ∧ effs'.length = i + (o :: r).length ∧ AllOk X n ops ms drs st effs' := fun {es x} h1 h2 h3 h4 => by
      rw [snocK_eq] at h4
      obtain ⟨es', k1, k2, k3⟩ := exD_ok hX r mr dr (i + 1) (es ++ [x]) (by simp [h1]) hmr' hdr' hr' (h2.snoc (ho es h1) h3) h4
      exact ⟨es', k1, by simp [k2]; omega, k3⟩
    have run : ∀ {es : List Fx}, es.length = i → AllOk X n ops ms drs st es → (∀ R : Run, R.n = n → ∀ ρ M a w, Sim X R ρ M (vw (mdI ms i) drs es 0 st) a w → Region.wanted o (yielded ops.toArray a.tmps) = true) →
        (exX X (vwE m i drs ms es 0 st) o fun rr x => match eqO rr ri with
          | true => forceX x fun x => snocK es x fun es' => exD X n ops ms drs st r mr dr (i + 1) es' K
          | false => False) → ∃ effs', K effs' ∧ effs'.length = i + (o :: r).length ∧ AllOk X n ops ms drs st effs' := fun {es} h1 h2 hw h3 => by
      obtain ⟨rr, x, h4, h5⟩ := exX_ok hX h3
      split at h4
      · rename_i heq
        have heq := eqO_eq heq
        subst heq
        rw [forceX_eq] at h4
        rw [hV] at h5
        refine fin h1 h2 (.inl ⟨?_, ?_⟩) h4
        · rw [h1, hri]; exact h5
        · rw [h1]; exact hw
      · exact h4.elim
    have skp : ∀ {es : List Fx}, es.length = i → AllOk X n ops ms drs st es → (∀ R : Run, R.n = n → ∀ ρ M a w, Sim X R ρ M (vw (mdI ms i) drs es 0 st) a w → Region.wanted o (yielded ops.toArray a.tmps) = false) →
        (snocK es ⟨und, none⟩ fun es' => exD X n ops ms drs st r mr dr (i + 1) es' K) → ∃ effs', K effs' ∧ effs'.length = i + (o :: r).length ∧ AllOk X n ops ms drs st effs' := fun {es} h1 h2 hw h3 => by
      refine fin h1 h2 (.inr ⟨⟨rfl, AVle.refl _⟩, ?_⟩) h3
      rw [h1]; exact hw
    simp only [exD] at h
    split at h
    · rename_i hg
      exact run hl ha (fun R hn ρ M a w hs => by simp [Region.wanted, hg]) h
    rename_i j b hg
    split at h
    · exact h.elim
    rename_i oj hoj
    split at h
    · exact h.elim
    rename_i t hdt
    have hw : ∀ {a : Act} {v : Value}, a.tmps.getD t undef = v → Region.wanted o (yielded ops.toArray a.tmps) = (boolY v == some b) := fun hv => by
      simp [Region.wanted, hg, yielded_of hoj hdt hv]
    have dec : ∀ {es : List Fx} {c : AV}, es.length = i → AllOk X n ops ms drs st es → (vwE m i drs ms es 0 st).get t = c → gdS c b
        (exX X (vwE m i drs ms es 0 st) o fun rr x => match eqO rr ri with
          | true => forceX x fun x => snocK es x fun es' => exD X n ops ms drs st r mr dr (i + 1) es' K
          | false => False)
        (snocK es ⟨und, none⟩ fun es' => exD X n ops ms drs st r mr dr (i + 1) es' K) → ∃ effs', K effs' ∧ effs'.length = i + (o :: r).length ∧ AllOk X n ops ms drs st effs' := fun {es c} h1 h2 hc h3 => by
      rw [hV] at hc
      have hsl : ∀ R : Run, ∀ ρ M a w, Sim X R ρ M (vw (mdI ms i) drs es 0 st) a w → DenA ρ M c (a.tmps.getD t undef) := fun R ρ M a w hs => by rw [← hc]; exact hs.slots t
      unfold gdS at h3
      split at h3
      · have hv : ∀ R : Run, ∀ ρ M a w, Sim X R ρ M (vw (mdI ms i) drs es 0 st) a w → Region.wanted o (yielded ops.toArray a.tmps) = (some true == some b) := fun R ρ M a w hs => by
          have h4 := hsl R ρ M a w hs
          generalize hvv : a.tmps.getD t undef = v at h4
          cases h4
          exact hw hvv
        split at h3
        · exact run h1 h2 (fun R _ ρ M a w hs => hv R ρ M a w hs) h3
        · exact skp h1 h2 (fun R _ ρ M a w hs => hv R ρ M a w hs) h3
      · have hv : ∀ R : Run, ∀ ρ M a w, Sim X R ρ M (vw (mdI ms i) drs es 0 st) a w → Region.wanted o (yielded ops.toArray a.tmps) = (some false == some b) := fun R ρ M a w hs => by
          have h4 := hsl R ρ M a w hs
          generalize hvv : a.tmps.getD t undef = v at h4
          cases h4
          exact hw hvv
        split at h3
        · exact skp h1 h2 (fun R _ ρ M a w hs => hv R ρ M a w hs) h3
        · exact run h1 h2 (fun R _ ρ M a w hs => hv R ρ M a w hs) h3
      · exact skp h1 h2 (fun R _ ρ M a w hs => by
          have h4 := val_of (hsl R ρ M a w hs)
          rw [hw h4]; rfl) h3
      · exact h3.elim
    have nr : ∀ {b : Bool}, noRef (bv b) := fun r => rfl
    have nt : noRef .tt := fun r => rfl
    have nf : noRef .ff := fun r => rfl
    change (match (vwE m i drs ms effs 0 st).get t with
      | .dat (.val (.bool _)) => _
      | c => _) at h
    split at h
    · split at h
      · rename_i e eo hej
        cases e with
        | true =>
          have h1 := h.yes rfl
          rw [setK_eq] at h1
          have ha' := ha.set hej (c' := .tt) (.inr (.inr ⟨nt, nr, AVle.tt_ (b := true) rfl⟩)) (AVle.of_tt rfl) (fun hu => hu.trans (AVle.of_tt rfl))
          exact dec (by simp [hl]) ha' rfl h1
        | false =>
          have h1 := h.no rfl
          rw [setK_eq] at h1
          have ha' := ha.set hej (c' := .ff) (.inr (.inr ⟨nf, nr, AVle.ff_ (b := false) rfl⟩)) (AVle.of_ff rfl) (fun hu => hu.trans (AVle.of_ff rfl))
          exact dec (by simp [hl]) ha' rfl h1
      · exact h.elim
    · exact dec hl ha rfl h

def maskOf (ms : List Nat) (es : List Edge) (s : Nat) : Nat := match es with
  | [] => s
  | e :: r => match Region.binds .any e with
    | true => maskOf ms r (s ||| (2 ^ e.on ||| ms.getD e.on 0))
    | false => maskOf ms r s
theorem maskOf_bit {ms : List Nat} {k : Nat} : ∀ (es : List Edge) (s : Nat), (maskOf ms es s).testBit k = true → s.testBit k = true ∨ ∃ e ∈ es, Region.binds .any e = true ∧ (k = e.on ∨ (ms.getD e.on 0).testBit k = true)
  | [], s, h => .inl h
  | e :: r, s, h => by
    simp only [maskOf] at h
    split at h
    · rename_i hb
      rcases maskOf_bit r _ h with h1 | ⟨e', he', h2⟩
      · rw [Nat.testBit_or, Nat.testBit_or, Bool.or_eq_true, Bool.or_eq_true] at h1
        rcases h1 with h1 | h1 | h1
        · exact .inl h1
        · refine .inr ⟨e, List.mem_cons_self .., hb, .inl ?_⟩
          rw [Nat.testBit_two_pow] at h1
          have := of_decide_eq_true h1
          exact this.symm
        · exact .inr ⟨e, List.mem_cons_self .., hb, .inr h1⟩
      · exact .inr ⟨e', List.mem_cons_of_mem _ he', h2⟩
    · rcases maskOf_bit r _ h with h1 | ⟨e', he', h2⟩
      · exact .inl h1
      · exact .inr ⟨e', List.mem_cons_of_mem _ he', h2⟩

/-- The masks are those of the operations; every operation waits for earlier ones alone. -/
def masksB (ms : List Nat) : List Oper → Nat → Bool
  | [], _ => true
  | o :: r, i => Nat.beq (ms.getD i 0) (maskOf ms o.after.toList 0) && o.after.toList.all (fun e => !Region.binds .any e || Nat.ble (e.on + 1) i) && masksB ms r (i + 1)
theorem masksB_at {ms : List Nat} : ∀ {l : List Oper} {i : Nat}, masksB ms l i = true → ∀ (j : Nat) (o : Oper), l[j]? = some o → ms.getD (i + j) 0 = maskOf ms o.after.toList 0 ∧ ∀ e ∈ o.after, Region.binds .any e = true → e.on < i + j
  | [], _, _, j, o, h => by simp at h
  | o0 :: r, i, h, j, o, hj => by
    simp only [masksB, Bool.and_eq_true] at h
    cases j with
    | zero =>
      simp at hj
      subst hj
      refine ⟨Nat.eq_of_beq_eq_true h.1.1, fun e he hb => ?_⟩
      have := List.all_eq_true.1 h.1.2 e (by simpa using he)
      simp [hb] at this
      omega
    | succ j =>
      have := masksB_at h.2 j o (by simpa using hj)
      rw [show i + 1 + j = i + (j + 1) by omega] at this
      exact this
def boundD (n : Nat) : List DR → Bool
  | [] => true
  | (d, _) :: r => match d with
    | none => boundD n r
    | some t => match Nat.ble (t + 1) n with
      | true => boundD n r
      | false => false
theorem boundD_at {n : Nat} : ∀ {ds : List DR}, boundD n ds = true → ∀ (i t : Nat) (r : Option Nat), ds[i]? = some (some t, r) → t < n
  | [], _, i, t, r, h => by simp at h
  | (d, r0) :: l, h, i, t, r, hi => by
    cases i with
    | zero =>
      simp at hi
      obtain ⟨rfl, _⟩ := hi
      simp only [boundD] at h
      split at h
      · rename_i hb; have := Nat.le_of_ble_eq_true hb; omega
      · cases h
    | succ i =>
      cases d with
      | none => exact boundD_at (ds := l) h i t r (by simpa using hi)
      | some t' =>
        simp only [boundD] at h
        split at h
        · exact boundD_at h i t r (by simpa using hi)
        · cases h
/-- The slots of the list are those of the operations. -/
def dstB : List Oper → List DR → Bool
  | [], [] => true
  | o :: l, (d, _) :: r => eqO o.dst d && dstB l r
  | _, _ => false
theorem dstB_at : ∀ {l : List Oper} {ds : List DR}, dstB l ds = true → ds.length = l.length ∧ ∀ (i : Nat) (o : Oper), l[i]? = some o → ∃ r, ds[i]? = some (o.dst, r)
  | [], [], _ => ⟨rfl, fun i o h => by simp at h⟩
  | o :: l, (d, r) :: ds, h => by
    simp only [dstB, Bool.and_eq_true] at h
    obtain ⟨h1, h2⟩ := dstB_at h.2
    refine ⟨by simp [h1], fun i o' hi => ?_⟩
    cases i with
    | zero => simp at hi; subst hi; exact ⟨r, by rw [eqO_eq h.1]; rfl⟩
    | succ i => obtain ⟨r', e⟩ := h2 i o' (by simpa using hi); exact ⟨r', by simpa using e⟩
  | [], _ :: _, h => by cases h
  | _ :: _, [], h => by cases h
def drawB (n : Nat) (l : List Oper) (ms : List Nat) (ds : List DR) : Bool := masksB ms l 0 && boundD n ds && dstB l ds
/-- Effects of operations of which none waits for the other do not meet. -/
def apart1 (ms : List Nat) (i : Nat) (x : Fx) (d r : Option Nat) : List Fx → List DR → Nat → Bool
  | x' :: xs, (d', r') :: ds, k => (match (ms.getD k 0).testBit i with
    | true => true
    | false => apartFx d r x d' r' x') && apart1 ms i x d r xs ds (k + 1)
  | _, _, _ => true
def apartB (ms : List Nat) : List Fx → List DR → Nat → Bool
  | x :: xs, (d, r) :: ds, i => apart1 ms i x d r xs ds (i + 1) && apartB ms xs ds (i + 1)
  | _, _, _ => true
theorem apart1_at {ms : List Nat} {i : Nat} {x : Fx} {d r : Option Nat} : ∀ {xs : List Fx} {ds : List DR} {k : Nat}, apart1 ms i x d r xs ds k = true → ∀ (j : Nat) (d' r' : Option Nat) (x' : Fx), ds[j]? = some (d', r') → xs[j]? = some x' → (ms.getD (k + j) 0).testBit i = false → apartFx d r x d' r' x' = true
  | [], _, _, _, j, d', r', x', _, h, _ => by simp at h
  | _ :: _, [], _, _, j, d', r', x', h, _, _ => by simp at h
  | x0 :: xs, (d0, r0) :: ds, k, h, j, d', r', x', hd, hx, hb => by
    simp only [apart1, Bool.and_eq_true] at h
    cases j with
    | zero =>
      simp at hd hx
      obtain ⟨rfl, rfl⟩ := hd
      subst hx
      have h1 := h.1
      rw [Nat.add_zero] at hb
      rw [hb] at h1
      exact h1
    | succ j => exact apart1_at h.2 j d' r' x' (by simpa using hd) (by simpa using hx) (by rw [show k + 1 + j = k + (j + 1) by omega]; exact hb)
theorem apartB_at {ms : List Nat} : ∀ {xs : List Fx} {ds : List DR} {i0 : Nat}, apartB ms xs ds i0 = true → ∀ (i j : Nat) (d r d' r' : Option Nat) (x x' : Fx), i < j → ds[i]? = some (d, r) → xs[i]? = some x → ds[j]? = some (d', r') → xs[j]? = some x' → (ms.getD (i0 + j) 0).testBit (i0 + i) = false → apartFx d r x d' r' x' = true
  | [], _, _, _, i, j, d, r, d', r', x, x', _, _, h, _, _, _ => by simp at h
  | _ :: _, [], _, _, i, j, d, r, d', r', x, x', _, h, _, _, _, _ => by simp at h
  | x0 :: xs, (d0, r0) :: ds, i0, h, i, j, d, r, d', r', x, x', hij, hd, hx, hd', hx', hb => by
    simp only [apartB, Bool.and_eq_true] at h
    cases j with
    | zero => omega
    | succ j =>
      cases i with
      | zero =>
        simp at hd hx
        obtain ⟨rfl, rfl⟩ := hd
        subst hx
        exact apart1_at h.1 j d' r' x' (by simpa using hd') (by simpa using hx') (by rw [show i0 + 1 + j = i0 + (j + 1) by omega]; exact hb)
      | succ i => exact apartB_at h.2 i j d r d' r' x x' (by omega) (by simpa using hd) (by simpa using hx) (by simpa using hd') (by simpa using hx') (by rw [show i0 + 1 + j = i0 + (j + 1) by omega, show i0 + 1 + i = i0 + (i + 1) by omega]; exact hb)

/-- Free operations that are still to be listed. -/
def leftN (listed : Array Bool) (n : Nat) : Nat := ((List.range n).filter (fun i => !listed.getD i false)).length
theorem leftN_zero {listed : Array Bool} {n : Nat} (h : leftN listed n = 0) : ∀ i, i < n → listed.getD i false = true := by
  intro i hi
  unfold leftN at h
  rw [List.length_eq_zero_iff, List.filter_eq_nil_iff] at h
  have := h i (List.mem_range.2 hi)
  simpa using this
theorem filter_lt {α : Type} (p q : α → Bool) : ∀ (l : List α) (x : α), x ∈ l → (∀ y ∈ l, q y = true → p y = true) → p x = true → q x = false → (l.filter q).length < (l.filter p).length
  | [], _, h, _, _, _ => by cases h
  | y :: r, x, h, hpq, hp, hq => by
    have hle : (r.filter q).length ≤ (r.filter p).length := by
      rw [← List.countP_eq_length_filter, ← List.countP_eq_length_filter]
      exact List.countP_mono_left (fun z hz => hpq z (List.mem_cons_of_mem _ hz))
    rcases List.mem_cons.1 h with rfl | h
    · rw [List.filter_cons_of_pos hp, List.filter_cons_of_neg (by rw [hq]; simp)]
      simp only [List.length_cons]; omega
    · have ih := filter_lt p q r x h (fun z hz => hpq z (List.mem_cons_of_mem _ hz)) hp hq
      by_cases hy : q y = true
      · rw [List.filter_cons_of_pos hy, List.filter_cons_of_pos (hpq y (List.mem_cons_self ..) hy)]
        simp only [List.length_cons]; omega
      · rw [List.filter_cons_of_neg hy]
        by_cases hy2 : p y = true
        · rw [List.filter_cons_of_pos hy2]; simp only [List.length_cons]; omega
        · rw [List.filter_cons_of_neg hy2]; exact ih
theorem leftN_set {listed : Array Bool} {n i : Nat} (hi : i < n) (hs : i < listed.size) (hl : listed.getD i false = false) : leftN (listed.setIfInBounds i true) n < leftN listed n := by
  unfold leftN
  refine filter_lt _ _ _ i (List.mem_range.2 hi) (fun y _ hy => ?_) (by rw [hl]; rfl) (by simp [hs])
  cases hly : listed.getD y false
  · rfl
  · rw [getD_set_true hly] at hy; cases hy


/-- The walk of a region that draws its order: its last description. -/
theorem W.draw {X : Cx} {n : Nat} {st : St} {Q : Exit → St → Prop} {id : Nat} {l : List Oper} (ms : List Nat) (drs : List DR) (hm : X.P.follows .mixedOrders = true) (hB : drawB n l ms drs = true)
    (h : exD X n l ms drs st l ms drs 0 [] fun effs => CndK (apartB ms effs drs 0 = true) (Q .normal (vw (fun _ => .app) drs effs 0 st))) : W X n (.region id l.toArray true) st Q := ⟨fun hX R hn ρ M a w hs => by
  simp only [drawB, Bool.and_eq_true] at hB
  obtain ⟨⟨hmask, hbound⟩, hdst⟩ := hB
  obtain ⟨hdl, hdi⟩ := dstB_at hdst
  obtain ⟨effs, ⟨hap, hfin⟩, hel, hall⟩ := exD_ok hX l ms drs 0 [] rfl rfl rfl (fun j o hj => by rw [Nat.zero_add]; exact hj) (fun i o x _ hx => by simp at hx) h
  have hel' : effs.length = l.length := by rw [hel]; omega
  subst hn
  refine wp_region_any hm ?_
  -- what is listed is closed, so it has all that an operation waits for
  have closedAll : ∀ (listed : Array Bool), (∀ j oj, l.toArray[j]? = some oj → listed.getD j false = true → ∀ e ∈ oj.after, Region.binds .any e = true → listed.getD e.on false = true) →
      ∀ (m i : Nat) (o : Oper), i ≤ m → l[i]? = some o → (∀ e ∈ o.after, Region.binds .any e = true → listed.getD e.on false = true) → ∀ k, (ms.getD i 0).testBit k = true → listed.getD k false = true := by
    intro listed hcl m
    induction m with
    | zero =>
      intro i o him ho hdep k hk
      obtain ⟨h1, h2⟩ := masksB_at hmask i o ho
      rw [Nat.zero_add] at h1
      rw [h1] at hk
      rcases maskOf_bit _ _ hk with h3 | ⟨e, he, hb, h3⟩
      · simp at h3
      · have := h2 e (by simpa using he) hb
        omega
    | succ m ih =>
      intro i o him ho hdep k hk
      obtain ⟨h1, h2⟩ := masksB_at hmask i o ho
      rw [Nat.zero_add] at h1
      rw [h1] at hk
      rcases maskOf_bit _ _ hk with h3 | ⟨e, he, hb, h3⟩
      · simp at h3
      · have he' : e ∈ o.after := by simpa using he
        have hlt := h2 e he' hb
        have hon := hdep e he' hb
        rcases h3 with rfl | h3
        · exact hon
        · have hol : e.on < l.length := by
            have := (List.getElem?_eq_some_iff.1 ho).1
            omega
          have hoe : l[e.on]? = some l[e.on] := List.getElem?_eq_getElem hol
          exact ih e.on l[e.on] (by omega) hoe (fun e2 he2 hb2 => hcl e.on l[e.on] (by simpa using hoe) hon e2 he2 hb2) k h3
  have main : ∀ (f : Nat) (listed : Array Bool) (ρ : Env) (M : Mem) (b : Act) (w1 : World), leftN listed l.length ≤ f → HeadInv .any l.toArray l.length listed → Sim X R ρ M (vw (mdL listed) drs effs 0 st) b w1 →
      wpAny X.P .any l.toArray (fun e a' w' => ∃ st' ρ' M', Q e st' ∧ Sim X R ρ' M' st' a' w') f listed b w1 := by
    have hdone : ∀ (g : Nat) (listed : Array Bool) (ρ : Env) (M : Mem) (b : Act) (w1 : World), HeadInv .any l.toArray l.length listed → Sim X R ρ M (vw (mdL listed) drs effs 0 st) b w1 → (∀ i, i < l.length → listed.getD i false = true) →
        wpAny X.P .any l.toArray (fun e a' w' => ∃ st' ρ' M', Q e st' ∧ Sim X R ρ' M' st' a' w') g listed b w1 := by
      intro g listed ρ M b w1 inv hs hall'
      have hs2 : Sim X R ρ M (vw (fun _ => .app) drs effs 0 st) b w1 := by
        refine hs.wk (vw_wk drs effs effs st (fun j hj => ⟨fun _ => ?_, fun h => by cases h⟩) (XLe.refl _))
        unfold mdL
        rw [hall' j (by omega)]
      have hr : Region.ready .any l.toArray listed = [] := by
        apply List.eq_nil_iff_forall_not_mem.2
        intro i hi
        obtain ⟨hun, o, ho, _⟩ := mem_ready.1 hi
        have hil : i < l.length := by
          have := (Array.getElem?_eq_some_iff.1 ho).1
          simpa using this
        have := hall' i hil
        rw [getD_both hun] at this
        cases this
      exact wpAny_done hr ⟨_, ρ, M, hfin, hs2⟩ g
    intro f
    induction f with
    | zero =>
      intro listed ρ M b w1 hf inv hs
      exact hdone 0 listed ρ M b w1 inv hs (leftN_zero (by omega))
    | succ f ih =>
      intro listed ρ M b w1 hf inv hs
      have hls : listed.size = l.length := by simpa using inv.size
      by_cases hall' : ∀ i, i < l.length → listed.getD i false = true
      · exact hdone (f + 1) listed ρ M b w1 inv hs hall'
      · refine ⟨fun h0 => ?_, fun i hi => ?_⟩
        · exfalso
          have hex : ∃ i, i < l.length ∧ listed.getD i false = false := by
            apply Classical.byContradiction
            intro hne
            apply hall'
            intro i hi
            cases hl : listed.getD i false
            · exact absurd ⟨i, hi, hl⟩ hne
            · rfl
          have hrd : ∀ m i, i < l.length → listed.getD i false = false → i ≤ m → ∃ i, i ∈ Region.ready .any l.toArray listed := by
            intro m
            induction m with
            | zero =>
              intro i hi hl hm
              obtain rfl : i = 0 := by omega
              have ho : l[0]? = some l[0] := List.getElem?_eq_getElem (by omega)
              refine ⟨0, mem_ready.2 ⟨getD_in (by omega) hl, l[0], by simpa using ho, fun e he hb => ?_⟩⟩
              have := (masksB_at hmask 0 _ ho).2 e he hb
              omega
            | succ m ihm =>
              intro i hi hl hm
              have ho : l[i]? = some l[i] := List.getElem?_eq_getElem (by omega)
              by_cases hr : ∀ e ∈ (l[i]).after, Region.binds .any e = true → listed.getD e.on false = true
              · exact ⟨i, mem_ready.2 ⟨getD_in (by omega) hl, l[i], by simpa using ho, hr⟩⟩
              · have : ∃ e ∈ (l[i]).after, Region.binds .any e = true ∧ listed.getD e.on false = false := by
                  apply Classical.byContradiction
                  intro hne
                  apply hr
                  intro e he hb
                  cases hle : listed.getD e.on false
                  · exact absurd ⟨e, he, hb, hle⟩ hne
                  · rfl
                obtain ⟨e, he, hb, hle⟩ := this
                have := (masksB_at hmask i _ ho).2 e he hb
                exact ihm e.on (by omega) hle (by omega)
          obtain ⟨i, hi, hl⟩ := hex
          obtain ⟨j, hj⟩ := hrd i i hi hl (Nat.le_refl _)
          rw [h0] at hj
          cases hj
        · obtain ⟨hun, o, ho, hdep⟩ := mem_ready.1 hi
          have hol : l[i]? = some o := by simpa using ho
          have hin : i < l.length := (List.getElem?_eq_some_iff.1 hol).1
          have hun' : listed.getD i false = false := getD_both hun
          obtain ⟨r, hdr⟩ := hdi i o hol
          have hdrD : drs.getD i (none, none) = (o.dst, r) := by rw [List.getD_eq_getElem?_getD, hdr]; rfl
          have hei : effs[i]? = some (effs[i]'(by omega)) := List.getElem?_eq_getElem (by omega)
          generalize hedef : effs[i]'(by omega) = x at hei
          have hmaskL : ∀ k, (ms.getD i 0).testBit k = true → listed.getD k false = true := closedAll listed inv.closed i i o (Nat.le_refl _) hol hdep
          have hafter : ∀ k, k < l.length → listed.getD k false = true → (ms.getD k 0).testBit i = false := fun k hk hl => by
            cases hb : (ms.getD k 0).testBit i
            · rfl
            · have hok : l[k]? = some l[k] := List.getElem?_eq_getElem hk
              have := closedAll listed inv.closed k k l[k] (Nat.le_refl _) hok (fun e he hbe => inv.closed k l[k] (by simpa using hok) hl e he hbe) i hb
              rw [hun'] at this; cases this
          have hview : Wk (vw (mdL listed) drs effs 0 st).sf (vw (mdI ms i) drs effs 0 st).sf := by
            refine vw_wk drs effs effs st (fun j hj => ⟨fun hj2 => ?_, fun hj2 => ?_⟩) (XLe.refl _)
            · unfold mdI at hj2
              unfold mdL
              split at hj2
              · rename_i hb; rw [hmaskL j hb]
              · split at hj2
                · cases hj2
                · split at hj2 <;> cases hj2
            · unfold mdI at hj2
              unfold mdL
              split at hj2
              · cases hj2
              · split at hj2
                · rename_i hb
                  have := Nat.eq_of_beq_eq_true hb
                  subst this
                  rw [hun']
                · split at hj2
                  · rename_i hb
                    cases hl : listed.getD j false
                    · rfl
                    · have := hafter j (by omega) hl
                      rw [this] at hb; cases hb
                  · cases hj2
          have hsi := hs.wk hview
          have hleft : leftN (listed.setIfInBounds i true) l.length ≤ f := by
            have := leftN_set hin (by omega) hun'
            omega
          have hset : (vw (mdL (listed.setIfInBounds i true)) drs effs 0 st).sf = fxF o.dst r x (vw (mdL listed) drs effs 0 st).sf := by
            rw [sf_vw, sf_vw]
            refine vwF_set (by omega) hun' drs effs 0 _ o.dst r x (Nat.zero_le _) (by simpa using hdr) (by simpa using hei) (by omega) fun j d' r' x' hij hj hxj hlj => ?_
            rw [Nat.zero_add] at hij hlj
            have hjl : j < l.length := by
              have := (List.getElem?_eq_some_iff.1 hxj).1
              omega
            exact apartB_at hap i j o.dst r d' r' x x' hij hdr hei hj hxj (by rw [Nat.zero_add, Nat.zero_add]; exact hafter j hjl hlj)
          have next : ∀ {ρ' : Env} {M' : Mem} {w2 : World} {v : Value}, Sim X R ρ' M' (fxD o.dst r x (vw (mdL listed) drs effs 0 st)) (b.put o.dst v) w2 → wpAny X.P .any l.toArray (fun e a' w' => ∃ st' ρ' M', Q e st' ∧ Sim X R ρ' M' st' a' w') f (listed.setIfInBounds i true) (b.put o.dst v) w2 := by
            intro ρ' M' w2 v hq
            refine ih _ ρ' M' _ w2 hleft (inv.set hi hin) ?_
            exact hq.congr (by rw [sf_fxD, hset])
          have hbd : ∀ t, o.dst = some t → t < R.n := fun t ht => by
            rw [ht] at hdr
            exact boundD_at hbound i t r hdr
          have hst := hall i o x hol hei
          rw [StepOk, hdrD] at hst
          unfold wpOp
          simp only [ho]
          rcases hst with ⟨hF, hw⟩ | ⟨⟨hxe, hxc⟩, hw⟩
          · rw [if_pos (hw R rfl ρ M b w1 hsi)]
            obtain ⟨hfit, hmv, lo, hlx, hlo, hout⟩ := hF
            refine .inl (hout R ρ M b w1 hsi _ _ fun v ρ' M' w' hx => next (hs.fx hx hbd hfit hlx (fun hl => ?_) hmv))
            obtain ⟨q, e0, k1, k2, k3⟩ := hlo hl
            rcases hview.h q e0 k2 with rfl | ⟨e1, k4, k5⟩
            · cases k3
            · exact ⟨q, e1, k1, k4, k5.owned k3⟩
          · rw [if_neg (by rw [hw R rfl ρ M b w1 hsi]; simp)]
            refine next (ρ' := ρ) (M' := M) (hs.fx (lo := false) (v := undef) ⟨fun _ _ => rfl, fun _ => rfl, Mem.le_refl _, fun _ _ h => .inl h, fun _ _ h => .inl h, rfl, rfl, rfl, Nat.le_refl _, fun _ _ _ => rfl, hxc _ _ _ (.dat (.val undef)), fun q e b _ he => (by rw [hxe] at he; cases he), fun _ => Nat.le_refl _⟩ hbd (fun _ => hxe) (fun h => by cases h) (fun h => by cases h) (fun e q h => by rw [hxe] at h; cases h))
  have inv0 : HeadInv .any l.toArray l.length (Array.replicate l.toArray.size false) :=
    ⟨by simp, fun j oj _ hl => (by rw [getD_replicate_false] at hl; cases hl), fun t _ ht => getD_in (by simpa using ht) (getD_replicate_false _ _)⟩
  have hdraw : Sim X R ρ M st a { w with drawn := w.drawn + 1 } :=
    ⟨hs.size, hs.defers, hs.chg.trans (bs := R.bs) (cs := []) ⟨rfl, rfl, rfl, Nat.le_refl _, fun _ _ _ => rfl⟩ (fun g hg => by cases hg), hs.m0, hs.g0, hs.fresh, hs.pub, hs.slots, hs.ents, hs.own, hs.apart, hs.sep, hs.fix, fun hd => Nat.le_trans (hs.drn hd) (Nat.le_succ _)⟩
  have hskip : ∀ (l' : List DR) (xs : List Fx) (k : Nat) (s : SF), vwF (mdL (Array.replicate l.toArray.size false)) l' xs k s = s := by
    intro l'
    induction l' with
    | nil => intro _ _ _; rfl
    | cons q l' ih =>
      intro xs k s
      obtain ⟨d, r⟩ := q
      have hm : mdL (Array.replicate l.toArray.size false) k = .skip := by unfold mdL; rw [getD_replicate_false]
      simp only [vwF, hm]
      exact ih _ _ _
  have hstart : Sim X R ρ M (vw (mdL (Array.replicate l.toArray.size false)) drs effs 0 st) a { w with drawn := w.drawn + 1 } := hdraw.congr (by rw [sf_vw, hskip])
  have H := main l.length _ ρ M a _ (by unfold leftN; exact Nat.le_trans (List.length_filter_le _ _) (by simp)) inv0 hstart
  rw [show l.length = l.toArray.size by simp] at H
  exact H⟩

end Go.Proofs.YtekdobbhkklapaaGreat
