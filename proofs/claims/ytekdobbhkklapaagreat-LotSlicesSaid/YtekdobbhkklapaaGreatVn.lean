/- The effect of one operation, by itself: on its slot and on one own block; effects that do not meet commute. -/
import Derived.Test.YtekdobbhkklapaaGreatVm
import Derived.StillTail
namespace Go.Proofs.YtekdobbhkklapaaGreat
open Go Go.RowKit
set_option linter.unusedVariables false
set_option linter.unusedSimpArgs false
set_option linter.unnecessarySimpa false

/-- An effect: what the slot has; what own block it names then holds, and whether who named that block before must forget it. -/
structure Fx where
  c : AV
  e : Option (Ent × Bool)

/-- A description as functions. -/
structure SF where
  g : Nat → AV
  h : Nat → Option Ent
def St.sf (s : St) : SF := ⟨s.get, s.ent⟩
def slotF (d : Option Nat) (c : AV) (g : Nat → AV) : Nat → AV := match d with
  | none => g
  | some t => fun u => if t = u then c else g u
def fxF (d r : Option Nat) (x : Fx) (s : SF) : SF := match r with
  | none => ⟨slotF d x.c s.g, s.h⟩
  | some r => match x.e with
    | none => ⟨slotF d x.c s.g, s.h⟩
    | some (e, true) => ⟨slotF d x.c fun u => AV.junkR r (s.g u), fun k => if r = k then some e else (s.h k).map (Ent.junkR r)⟩
    | some (e, false) => ⟨slotF d x.c s.g, fun k => if r = k then some e else s.h k⟩
def killF (d r : Option Nat) (s : SF) : SF := match r with
  | none => ⟨slotF d .junk s.g, s.h⟩
  | some r => ⟨slotF d .junk fun u => AV.junkR r (s.g u), fun k => if r = k then some .dead else (s.h k).map (Ent.junkR r)⟩

/-- The same on lists. -/
def slotL (d : Option Nat) (c : AV) (fr : List (Nat × AV)) : List (Nat × AV) := match d with
  | none => fr
  | some t => (t, c) :: fr
def fxD (d r : Option Nat) (x : Fx) (s : St) : St := match s with
  | ⟨fr, hp⟩ => match x with
    | ⟨c, eo⟩ => match r with
      | none => match d with
        | none => ⟨fr, hp⟩
        | some t => ⟨(t, c) :: fr, hp⟩
      | some r => match eo with
        | none => match d with
          | none => ⟨fr, hp⟩
          | some t => ⟨(t, c) :: fr, hp⟩
        | some (e, b) => match b with
          | true => match d with
            | none => ⟨junkF r fr, (r, e) :: junkH r hp⟩
            | some t => ⟨(t, c) :: junkF r fr, (r, e) :: junkH r hp⟩
          | false => match d with
            | none => ⟨fr, (r, e) :: hp⟩
            | some t => ⟨(t, c) :: fr, (r, e) :: hp⟩
def killD (d r : Option Nat) (s : St) : St := match s with
  | ⟨fr, hp⟩ => match r with
    | none => match d with
      | none => ⟨fr, hp⟩
      | some t => ⟨(t, .junk) :: fr, hp⟩
    | some r => match d with
      | none => ⟨junkF r fr, (r, .dead) :: junkH r hp⟩
      | some t => ⟨(t, .junk) :: junkF r fr, (r, .dead) :: junkH r hp⟩
theorem fxD_eq (d r : Option Nat) (x : Fx) (s : St) : fxD d r x s = match s with
  | ⟨fr, hp⟩ => match r with
    | none => ⟨slotL d x.c fr, hp⟩
    | some r => match x.e with
      | none => ⟨slotL d x.c fr, hp⟩
      | some (e, true) => ⟨slotL d x.c (junkF r fr), (r, e) :: junkH r hp⟩
      | some (e, false) => ⟨slotL d x.c fr, (r, e) :: hp⟩ := by
  obtain ⟨fr, hp⟩ := s
  obtain ⟨c, eo⟩ := x
  cases r with
  | none => cases d <;> rfl
  | some r =>
    cases eo with
    | none => cases d <;> rfl
    | some q => obtain ⟨e, b⟩ := q; cases b <;> cases d <;> rfl
theorem killD_eq (d r : Option Nat) (s : St) : killD d r s = match s with
  | ⟨fr, hp⟩ => match r with
    | none => ⟨slotL d .junk fr, hp⟩
    | some r => ⟨slotL d .junk (junkF r fr), (r, .dead) :: junkH r hp⟩ := by
  obtain ⟨fr, hp⟩ := s
  cases r <;> cases d <;> rfl
theorem sf_slot (d : Option Nat) (c : AV) (fr : List (Nat × AV)) (hp : List (Nat × Ent)) : (⟨slotL d c fr, hp⟩ : St).sf.g = slotF d c (⟨fr, hp⟩ : St).sf.g := by
  cases d with
  | none => rfl
  | some t =>
    funext u
    exact St.get_cons ⟨fr, hp⟩ t c hp u
theorem sf_junk (r : Nat) (fr : List (Nat × AV)) (hp hp' : List (Nat × Ent)) : (⟨junkF r fr, hp'⟩ : St).sf.g = fun u => AV.junkR r ((⟨fr, hp⟩ : St).sf.g u) := by
  funext u
  exact get_junk r ⟨fr, hp⟩ hp' u
theorem sf_ent (r : Nat) (e : Ent) (fr : List (Nat × AV)) (hp : List (Nat × Ent)) : (⟨fr, (r, e) :: hp⟩ : St).sf.h = fun k => if r = k then some e else (⟨fr, hp⟩ : St).sf.h k := by
  funext k
  show lk k ((r, e) :: hp) = _
  rw [lk_cons]
  rfl
theorem sf_junkH (r : Nat) (fr : List (Nat × AV)) (hp : List (Nat × Ent)) : (⟨fr, junkH r hp⟩ : St).sf.h = fun k => ((⟨fr, hp⟩ : St).sf.h k).map (Ent.junkR r) := by
  funext k
  show lk k (junkH r hp) = _
  unfold junkH
  rw [lk_map]
  rfl
theorem sf_fxD (d r : Option Nat) (x : Fx) (s : St) : (fxD d r x s).sf = fxF d r x s.sf := by
  rw [fxD_eq]
  obtain ⟨fr, hp⟩ := s
  unfold fxF
  cases r with
  | none =>
    show SF.mk _ _ = SF.mk _ _
    congr 1
    exact sf_slot d x.c fr hp
  | some r =>
    obtain ⟨c, e⟩ := x
    cases e with
    | none =>
      show SF.mk _ _ = SF.mk _ _
      congr 1
      exact sf_slot d c fr hp
    | some q =>
      obtain ⟨e, b⟩ := q
      cases b with
      | true =>
        show SF.mk _ _ = SF.mk _ _
        congr 1
        · exact (sf_slot d c (junkF r fr) _).trans (by rw [sf_junk r fr hp])
        · exact (sf_ent r e _ _).trans (by
            funext k
            by_cases hk : r = k
            · rw [if_pos hk, if_pos hk]
            · rw [if_neg hk, if_neg hk]
              exact congrFun (sf_junkH r fr hp) k)
      | false =>
        show SF.mk _ _ = SF.mk _ _
        congr 1
        · exact sf_slot d c fr _
        · exact sf_ent r e _ _
theorem sf_killD (d r : Option Nat) (s : St) : (killD d r s).sf = killF d r s.sf := by
  rw [killD_eq]
  obtain ⟨fr, hp⟩ := s
  unfold killF
  cases r with
  | none =>
    show SF.mk _ _ = SF.mk _ _
    congr 1
    exact sf_slot d .junk fr hp
  | some r =>
    show SF.mk _ _ = SF.mk _ _
    congr 1
    · exact (sf_slot d .junk (junkF r fr) _).trans (by rw [sf_junk r fr hp])
    · exact (sf_ent r .dead _ _).trans (by
        funext k
        by_cases hk : r = k
        · rw [if_pos hk, if_pos hk]
        · rw [if_neg hk, if_neg hk]
          exact congrFun (sf_junkH r fr hp) k)

theorem Sim.congr {X : Cx} {R : Run} {ρ : Env} {M : Mem} {s s' : St} {a : Act} {w : World} (h : Sim X R ρ M s a w) (he : s.sf = s'.sf) : Sim X R ρ M s' a w := by
  have hg : ∀ t, s'.get t = s.get t := fun t => by have := congrArg (fun q => SF.g q t) he; exact this.symm
  have hh : ∀ r, s'.ent r = s.ent r := fun r => by have := congrArg (fun q => SF.h q r) he; exact this.symm
  exact ⟨h.size, h.defers, h.chg, h.m0, h.g0, h.fresh, h.pub, fun t => by rw [hg]; exact h.slots t, fun r e => by rw [hh]; exact h.ents r e, fun r e g => by rw [hh]; exact h.own r e g, fun r r' e e' => by rw [hh, hh]; exact h.apart r r' e e', fun r e g p v => by rw [hh]; exact h.sep r e g p v, h.fix, h.drn⟩

/-! ### Weaker descriptions -/
def noRef (c : AV) : Prop := ∀ r, AV.uses r c = false
def SLe (c c' : AV) : Prop := c' = .junk ∨ c = c' ∨ (noRef c ∧ noRef c' ∧ AVle c c')
theorem SLe.refl (c : AV) : SLe c c := .inr (.inl rfl)
theorem SLe.av {c c' : AV} (h : SLe c c') : AVle c c' := by
  rcases h with rfl | rfl | ⟨_, _, h⟩
  · exact AVle.junk _
  · exact AVle.refl _
  · exact h
theorem junkR_no {r : Nat} {c : AV} (h : AV.uses r c = false) : AV.junkR r c = c := by unfold AV.junkR; rw [h]
theorem junkR_junk (r : Nat) : AV.junkR r .junk = .junk := rfl
theorem SLe.junkR {c c' : AV} (h : SLe c c') (r : Nat) : SLe (AV.junkR r c) (AV.junkR r c') := by
  rcases h with rfl | rfl | ⟨h1, h2, h3⟩
  · exact .inl rfl
  · exact SLe.refl _
  · rw [junkR_no (h1 r), junkR_no (h2 r)]; exact .inr (.inr ⟨h1, h2, h3⟩)
theorem SLe.to_junkR {c c' : AV} (h : SLe c c') (r : Nat) : SLe c (AV.junkR r c') := by
  unfold AV.junkR
  split
  · exact .inl rfl
  · exact h
def SLes (cs cs' : List AV) : Prop := cs.length = cs'.length ∧ ∀ (i : Nat) (c c' : AV), cs[i]? = some c → cs'[i]? = some c' → SLe c c'
def ELe (e e' : Ent) : Prop := match e' with
  | .dead => True
  | .blk t cs' => ∃ cs, e = .blk t cs ∧ SLes cs cs'
  | .row E s n f => e = .row E s n f
  | .pub s n f => e = .pub s n f
theorem SLes.refl (cs : List AV) : SLes cs cs := ⟨rfl, fun i c c' h h' => by rw [h] at h'; cases h'; exact SLe.refl _⟩
theorem ELe.refl (e : Ent) : ELe e e := by cases e <;> first | trivial | rfl | exact ⟨_, rfl, SLes.refl _⟩
theorem ELe.junkR {e e' : Ent} (h : ELe e e') (r : Nat) : ELe (Ent.junkR r e) (Ent.junkR r e') := by
  cases e' with
  | dead => trivial
  | blk t cs' =>
    obtain ⟨cs, rfl, h1, h2⟩ := h
    refine ⟨_, rfl, by simp [h1], fun i c c' hc hc' => ?_⟩
    rw [List.getElem?_map] at hc hc'
    cases hci : cs[i]? with
    | none => rw [hci] at hc; cases hc
    | some q =>
      cases hci' : cs'[i]? with
      | none => rw [hci'] at hc'; cases hc'
      | some q' =>
        rw [hci] at hc; rw [hci'] at hc'; cases hc; cases hc'
        exact (h2 i q q' hci hci').junkR r
  | row E s n f => cases h; rfl
  | pub s n f => cases h; rfl
theorem ELe.to_junkR {e e' : Ent} (h : ELe e e') (r : Nat) : ELe e (Ent.junkR r e') := by
  cases e' with
  | dead => trivial
  | blk t cs' =>
    obtain ⟨cs, rfl, h1, h2⟩ := h
    refine ⟨cs, rfl, by simp [h1], fun i c c' hc hc' => ?_⟩
    rw [List.getElem?_map] at hc'
    cases hci' : cs'[i]? with
    | none => rw [hci'] at hc'; cases hc'
    | some q' =>
      rw [hci'] at hc'; cases hc'
      exact (h2 i c q' hc hci').to_junkR r
  | row E s n f => exact h
  | pub s n f => exact h
structure Wk (s s' : SF) : Prop where
  g : ∀ t, SLe (s.g t) (s'.g t)
  h : ∀ r e, s'.h r = some e → e = .dead ∨ ∃ e0, s.h r = some e0 ∧ ELe e0 e
theorem Wk.refl (s : SF) : Wk s s := ⟨fun _ => SLe.refl _, fun r e he => .inr ⟨e, he, ELe.refl e⟩⟩
theorem ELe.ent {e e' : Ent} (h : ELe e e') : EntLe e e' := by
  cases e' with
  | dead => exact fun _ _ _ _ _ => trivial
  | blk t cs' =>
    obtain ⟨cs, rfl, h1, h2⟩ := h
    intro ρ M w r ⟨g, vs, e1, e2, e3, e4⟩
    refine ⟨g, vs, e1, e2, by omega, fun i c' v hc' hv => ?_⟩
    have hlt : i < cs.length := by
      have := (List.getElem?_eq_some_iff.1 hc').1
      omega
    exact (h2 i cs[i] c' (List.getElem?_eq_getElem hlt) hc').av _ _ _ (e4 i _ v (List.getElem?_eq_getElem hlt) hv)
  | row E s n f => cases h; exact EntLe.refl _
  | pub s n f => cases h; exact EntLe.refl _
theorem ELe.owned {e e' : Ent} (h : ELe e e') (ho : e'.owned = true) : e.owned = true := by
  cases e' with
  | dead => cases ho
  | blk t cs' => obtain ⟨cs, rfl, _⟩ := h; rfl
  | row E s n f => cases h; rfl
  | pub s n f => cases ho
theorem Sim.wk {X : Cx} {R : Run} {ρ : Env} {M : Mem} {s s' : St} {a : Act} {w : World} (h : Sim X R ρ M s a w) (hw : Wk s.sf s'.sf) : Sim X R ρ M s' a w := by
  have hown : ∀ r e, s'.ent r = some e → e.owned = true → ∃ e0, s.ent r = some e0 ∧ e0.owned = true := fun r e he ho => by
    rcases hw.h r e he with rfl | ⟨e0, h1, h2⟩
    · cases ho
    · exact ⟨e0, h1, h2.owned ho⟩
  refine ⟨h.size, h.defers, h.chg, h.m0, h.g0, h.fresh, h.pub, fun t => (hw.g t).av _ _ _ (h.slots t), fun r e he => ?_, fun r e g he ho => ?_, fun r r' e e' he he' ho ho' => ?_, fun r e g p v he ho => ?_, h.fix, h.drn⟩
  · rcases hw.h r e he with rfl | ⟨e0, h1, h2⟩
    · trivial
    · exact h2.ent _ _ _ _ (h.ents r e0 h1)
  · obtain ⟨e0, h1, h2⟩ := hown r e he ho
    exact h.own r e0 g h1 h2
  · obtain ⟨e0, h1, h2⟩ := hown r e he ho
    obtain ⟨e0', h1', h2'⟩ := hown r' e' he' ho'
    exact h.apart r r' e0 e0' h1 h1' h2 h2'
  · obtain ⟨e0, h1, h2⟩ := hown r e he ho
    exact h.sep r e0 g p v h1 h2

theorem slotF_le {d : Option Nat} {c c' : AV} {g g' : Nat → AV} (hc : SLe c c') (h : ∀ t, SLe (g t) (g' t)) : ∀ t, SLe (slotF d c g t) (slotF d c' g' t) := fun t => by
  cases d with
  | none => exact h t
  | some u =>
    show SLe (if u = t then c else g t) (if u = t then c' else g' t)
    split
    · exact hc
    · exact h t
/-- Kinds of effects that go with a name. -/
def Fx.fits (x : Fx) (r : Option Nat) : Prop := x.e = none ↔ r = none
theorem Wk.fx {s s' : SF} (h : Wk s s') (d r : Option Nat) {x x' : Fx} (hc : SLe x.c x'.c) (he : x.e = x'.e) : Wk (fxF d r x s) (fxF d r x' s') := by
  unfold fxF
  cases r with
  | none => exact ⟨slotF_le hc h.g, h.h⟩
  | some r =>
    rw [he]
    cases x'.e with
    | none => exact ⟨slotF_le hc h.g, h.h⟩
    | some q =>
      obtain ⟨e, b⟩ := q
      cases b with
      | true =>
        refine ⟨slotF_le hc fun t => (h.g t).junkR r, fun k q hq => ?_⟩
        have hq' : (if r = k then some e else (s'.h k).map (Ent.junkR r)) = some q := hq
        by_cases hk : r = k
        · rw [if_pos hk] at hq'
          right
          exact ⟨e, if_pos hk, by cases hq'; exact ELe.refl e⟩
        · rw [if_neg hk] at hq'
          cases hs : s'.h k with
          | none => rw [hs] at hq'; cases hq'
          | some q0 =>
            rw [hs] at hq'; cases hq'
            rcases h.h k q0 hs with rfl | ⟨e0, h1, h2⟩
            · exact .inl rfl
            · exact .inr ⟨Ent.junkR r e0, by show (if r = k then some e else (s.h k).map (Ent.junkR r)) = _; rw [if_neg hk, h1]; rfl, h2.junkR r⟩
      | false =>
        refine ⟨slotF_le hc h.g, fun k q hq => ?_⟩
        have hq' : (if r = k then some e else s'.h k) = some q := hq
        by_cases hk : r = k
        · rw [if_pos hk] at hq'
          right
          exact ⟨e, if_pos hk, by cases hq'; exact ELe.refl e⟩
        · rw [if_neg hk] at hq'
          rcases h.h k q hq' with rfl | ⟨e0, h1, h2⟩
          · exact .inl rfl
          · exact .inr ⟨e0, by show (if r = k then some e else s.h k) = _; rw [if_neg hk]; exact h1, h2⟩
theorem Wk.fx_kill {s s' : SF} (h : Wk s s') (d r : Option Nat) (x : Fx) : Wk (fxF d r x s) (killF d r s') := by
  unfold fxF killF
  cases r with
  | none => exact ⟨slotF_le (.inl rfl) h.g, h.h⟩
  | some r =>
    have hh : ∀ (hs : Nat → Option Ent), (∀ k e0, r ≠ k → s.h k = some e0 → ∃ e1, hs k = some e1 ∧ (e1 = e0 ∨ e1 = Ent.junkR r e0)) → ∀ k q, (if r = k then some Ent.dead else (s'.h k).map (Ent.junkR r)) = some q → q = .dead ∨ ∃ e0, hs k = some e0 ∧ ELe e0 q := by
      intro hs hhs k q hq
      by_cases hk : r = k
      · rw [if_pos hk] at hq; cases hq; exact .inl rfl
      · rw [if_neg hk] at hq
        cases hs' : s'.h k with
        | none => rw [hs'] at hq; cases hq
        | some q0 =>
          rw [hs'] at hq; cases hq
          rcases h.h k q0 hs' with rfl | ⟨e0, h1, h2⟩
          · exact .inl rfl
          · obtain ⟨e1, h3, h4⟩ := hhs k e0 hk h1
            rcases h4 with rfl | rfl
            · exact .inr ⟨_, h3, h2.to_junkR r⟩
            · exact .inr ⟨_, h3, h2.junkR r⟩
    cases x.e with
    | none => exact ⟨slotF_le (.inl rfl) fun t => (h.g t).to_junkR r, hh s.h (fun k e0 _ h0 => ⟨e0, h0, .inl rfl⟩)⟩
    | some q =>
      obtain ⟨e, b⟩ := q
      cases b with
      | true => exact ⟨slotF_le (.inl rfl) fun t => (h.g t).junkR r, hh _ (fun k e0 hk h0 => ⟨Ent.junkR r e0, by show (if r = k then some e else (s.h k).map (Ent.junkR r)) = _; rw [if_neg hk, h0]; rfl, .inr rfl⟩)⟩
      | false => exact ⟨slotF_le (.inl rfl) fun t => (h.g t).to_junkR r, hh _ (fun k e0 hk h0 => ⟨e0, by show (if r = k then some e else s.h k) = _; rw [if_neg hk]; exact h0, .inl rfl⟩)⟩
theorem Wk.skip_kill {s s' : SF} (h : Wk s s') (d r : Option Nat) : Wk s (killF d r s') := by
  unfold killF
  have hsl : ∀ g' : Nat → AV, (∀ t, SLe (s.g t) (g' t)) → ∀ t, SLe (s.g t) (slotF d .junk g' t) := fun g' hg t => by
    cases d with
    | none => exact hg t
    | some u =>
      show SLe (s.g t) (if u = t then .junk else g' t)
      split
      · exact .inl rfl
      · exact hg t
  cases r with
  | none => exact ⟨hsl _ h.g, h.h⟩
  | some r =>
    refine ⟨hsl _ fun t => (h.g t).to_junkR r, fun k q hq => ?_⟩
    have hq' : (if r = k then some Ent.dead else (s'.h k).map (Ent.junkR r)) = some q := hq
    by_cases hk : r = k
    · rw [if_pos hk] at hq'; cases hq'; exact .inl rfl
    · rw [if_neg hk] at hq'
      cases hs' : s'.h k with
      | none => rw [hs'] at hq'; cases hq'
      | some q0 =>
        rw [hs'] at hq'; cases hq'
        rcases h.h k q0 hs' with rfl | ⟨e0, h1, h2⟩
        · exact .inl rfl
        · exact .inr ⟨e0, h1, h2.to_junkR r⟩

/-! ### Effects that do not meet -/
def usesE (r : Nat) (x : Fx) : Bool := AV.uses r x.c || (match x.e with
  | some (e, _) => Ent.uses r e
  | none => false)
/-- Whether the block may go elsewhere. -/
def movesB (x : Fx) : Bool := match x.e with
  | some (_, true) => true
  | _ => false
def apartFx (d r : Option Nat) (x : Fx) (d' r' : Option Nat) (x' : Fx) : Bool :=
  (match d with
    | none => true
    | some t => match d' with
      | none => true
      | some t' => !Nat.beq t t') &&
  (match r with
    | none => true
    | some k => (!movesB x || !usesE k x') && (match r' with
      | none => true
      | some k' => !Nat.beq k k')) &&
  (match r' with
    | none => true
    | some k' => !movesB x' || !usesE k' x)
theorem Ent.junkR_no {r : Nat} {e : Ent} (h : Ent.uses r e = false) : Ent.junkR r e = e := by
  cases e with
  | blk t cs =>
    show Ent.blk t (cs.map (AV.junkR r)) = _
    congr 1
    have : ∀ cs : List AV, AV.uses.usesL r cs = false → cs.map (AV.junkR r) = cs := by
      intro cs
      induction cs with
      | nil => intro _; rfl
      | cons c l ih =>
        intro h
        simp only [AV.uses.usesL, Bool.or_eq_false_iff] at h
        rw [List.map_cons, Go.Proofs.YtekdobbhkklapaaGreat.junkR_no h.1, ih h.2]
    exact this cs h
  | _ => rfl
theorem junkR_comm (r k : Nat) (c : AV) : AV.junkR r (AV.junkR k c) = AV.junkR k (AV.junkR r c) := by
  cases h1 : AV.uses r c <;> cases h2 : AV.uses k c <;> simp [AV.junkR, h1, h2, AV.uses]
theorem Ent.junkR_comm (r k : Nat) (e : Ent) : Ent.junkR r (Ent.junkR k e) = Ent.junkR k (Ent.junkR r e) := by
  cases e with
  | blk t cs =>
    show Ent.blk t ((cs.map (AV.junkR k)).map (AV.junkR r)) = Ent.blk t ((cs.map (AV.junkR r)).map (AV.junkR k))
    rw [List.map_map, List.map_map]
    congr 1
    apply List.map_congr_left
    intro c _
    exact Go.Proofs.YtekdobbhkklapaaGreat.junkR_comm r k c
  | _ => rfl
theorem slotF_comm {d d' : Option Nat} {c c' : AV} {g : Nat → AV} (h : ∀ t, d = some t → d' ≠ some t) : slotF d c (slotF d' c' g) = slotF d' c' (slotF d c g) := by
  cases d with
  | none => rfl
  | some t =>
    cases d' with
    | none => rfl
    | some t' =>
      have hne : t ≠ t' := fun e => h t rfl (by rw [e])
      funext u
      show (if t = u then c else if t' = u then c' else g u) = (if t' = u then c' else if t = u then c else g u)
      by_cases h1 : t = u
      · rw [if_pos h1, if_neg (by omega), if_pos h1]
      · rw [if_neg h1, if_neg h1]
theorem slotF_map {d : Option Nat} {c : AV} {g : Nat → AV} {φ : AV → AV} (h : φ c = c) : (fun u => φ (slotF d c g u)) = slotF d c fun u => φ (g u) := by
  cases d with
  | none => rfl
  | some t =>
    funext u
    show φ (if t = u then c else g u) = (if t = u then c else φ (g u))
    split
    · exact h
    · rfl
theorem fx_comm {d r d' r' : Option Nat} {x x' : Fx} (h : apartFx d r x d' r' x' = true) (s : SF) : fxF d r x (fxF d' r' x' s) = fxF d' r' x' (fxF d r x s) := by
  simp only [apartFx, Bool.and_eq_true] at h
  obtain ⟨⟨hd, hr⟩, hr'⟩ := h
  have hdd : ∀ t, d = some t → d' ≠ some t := fun t e1 e2 => by
    subst e1 e2
    simp [Nat.beq_refl] at hd
  obtain ⟨c, e⟩ := x
  obtain ⟨c', e'⟩ := x'
  have hu : ∀ k, r = some k → movesB ⟨c, e⟩ = true → AV.uses k c' = false ∧ ∀ q b, e' = some (q, b) → Ent.uses k q = false := fun k hk hm => by
    subst hk
    simp only [Bool.and_eq_true, Bool.not_eq_true', usesE, Bool.or_eq_false_iff, Bool.or_eq_true, hm, Bool.true_eq_false, false_or] at hr
    exact ⟨hr.1.1, fun q b hq => by subst hq; exact hr.1.2⟩
  have hu' : ∀ k, r' = some k → movesB ⟨c', e'⟩ = true → AV.uses k c = false ∧ ∀ q b, e = some (q, b) → Ent.uses k q = false := fun k hk hm => by
    subst hk
    simp only [Bool.not_eq_true', usesE, Bool.or_eq_false_iff, Bool.or_eq_true, hm, Bool.true_eq_false, false_or] at hr'
    exact ⟨hr'.1, fun q b hq => by subst hq; exact hr'.2⟩
  have hrr : ∀ k k', r = some k → r' = some k' → k ≠ k' := fun k k' e1 e2 e3 => by
    subst e1 e2 e3
    simp [Nat.beq_refl] at hr
  cases r with
  | none =>
    cases r' with
    | none => exact congrArg (fun q => SF.mk q _) (slotF_comm hdd)
    | some k' =>
      have h2 := hu' k' rfl
      cases e' with
      | none => exact congrArg (fun q => SF.mk q _) (slotF_comm hdd)
      | some q =>
        obtain ⟨q, b⟩ := q
        cases b with
        | true =>
          show SF.mk (slotF d c (slotF d' c' fun u => AV.junkR k' (s.g u))) _ = SF.mk (slotF d' c' fun u => AV.junkR k' (slotF d c s.g u)) _
          rw [slotF_map (φ := AV.junkR k') (junkR_no (h2 rfl).1), slotF_comm hdd]
          rfl
        | false => exact congrArg (fun q => SF.mk q _) (slotF_comm hdd)
  | some k =>
    have h1 := hu k rfl
    cases e with
    | none =>
      cases r' with
      | none => exact congrArg (fun q => SF.mk q _) (slotF_comm hdd)
      | some k' =>
        have h2 := hu' k' rfl
        cases e' with
        | none => exact congrArg (fun q => SF.mk q _) (slotF_comm hdd)
        | some q =>
          obtain ⟨q, b⟩ := q
          cases b with
          | true =>
            show SF.mk (slotF d c (slotF d' c' fun u => AV.junkR k' (s.g u))) _ = SF.mk (slotF d' c' fun u => AV.junkR k' (slotF d c s.g u)) _
            rw [slotF_map (φ := AV.junkR k') (junkR_no (h2 rfl).1), slotF_comm hdd]
            rfl
          | false => exact congrArg (fun q => SF.mk q _) (slotF_comm hdd)
    | some p =>
      obtain ⟨p, b⟩ := p
      cases r' with
      | none =>
        cases b with
        | true =>
          show SF.mk (slotF d c fun u => AV.junkR k (slotF d' c' s.g u)) _ = SF.mk (slotF d' c' (slotF d c fun u => AV.junkR k (s.g u))) _
          rw [slotF_map (φ := AV.junkR k) (junkR_no (h1 rfl).1), slotF_comm hdd]
          rfl
        | false => exact congrArg (fun q => SF.mk q _) (slotF_comm hdd)
      | some k' =>
        have h2 := hu' k' rfl
        have hkk := hrr k k' rfl rfl
        cases e' with
        | none =>
          cases b with
          | true =>
            show SF.mk (slotF d c fun u => AV.junkR k (slotF d' c' s.g u)) _ = SF.mk (slotF d' c' (slotF d c fun u => AV.junkR k (s.g u))) _
            rw [slotF_map (φ := AV.junkR k) (junkR_no (h1 rfl).1), slotF_comm hdd]
            rfl
          | false => exact congrArg (fun q => SF.mk q _) (slotF_comm hdd)
        | some q =>
          obtain ⟨q, b'⟩ := q
          have hq : b = true → Ent.uses k q = false := fun hb => (h1 (by subst hb; rfl)).2 q b' rfl
          have hp : b' = true → Ent.uses k' p = false := fun hb => (h2 (by subst hb; rfl)).2 p b rfl
          have hent : ∀ (φ ψ : Ent → Ent), φ q = q → ψ p = p → (∀ e, φ (ψ e) = ψ (φ e)) → (fun j => if k = j then some p else (if k' = j then some q else (s.h j).map ψ).map φ) = (fun j => if k' = j then some q else (if k = j then some p else (s.h j).map φ).map ψ) := by
            intro φ ψ e1 e2 e3
            funext j
            by_cases hj : k = j
            · subst hj
              rw [if_pos rfl, if_neg (fun e => hkk e.symm), if_pos rfl]
              show some p = some (ψ p)
              rw [e2]
            · rw [if_neg hj]
              by_cases hj' : k' = j
              · rw [if_pos hj', if_pos hj']
                show some (φ q) = some q
                rw [e1]
              · rw [if_neg hj', if_neg hj', if_neg hj]
                cases s.h j with
                | none => rfl
                | some e => show some (φ (ψ e)) = some (ψ (φ e)); rw [e3]
          have hid : ∀ o : Option Ent, o.map (fun e => e) = o := fun o => by cases o <;> rfl
          cases b with
          | true =>
            cases b' with
            | true =>
              show SF.mk (slotF d c fun u => AV.junkR k (slotF d' c' (fun u => AV.junkR k' (s.g u)) u)) _ = SF.mk (slotF d' c' fun u => AV.junkR k' (slotF d c (fun u => AV.junkR k (s.g u)) u)) _
              rw [slotF_map (φ := AV.junkR k) (junkR_no (h1 rfl).1), slotF_map (φ := AV.junkR k') (junkR_no (h2 rfl).1), slotF_comm hdd]
              congr 1
              · congr 2
                funext u
                exact junkR_comm k k' _
              · exact hent _ _ (Ent.junkR_no (hq rfl)) (Ent.junkR_no (hp rfl)) (Ent.junkR_comm k k')
            | false =>
              show SF.mk (slotF d c fun u => AV.junkR k (slotF d' c' s.g u)) _ = SF.mk (slotF d' c' (slotF d c fun u => AV.junkR k (s.g u))) _
              rw [slotF_map (φ := AV.junkR k) (junkR_no (h1 rfl).1), slotF_comm hdd]
              congr 1
              have := hent (Ent.junkR k) (fun e => e) (Ent.junkR_no (hq rfl)) rfl (fun _ => rfl)
              simp only [hid] at this
              exact this
          | false =>
            cases b' with
            | true =>
              show SF.mk (slotF d c (slotF d' c' fun u => AV.junkR k' (s.g u))) _ = SF.mk (slotF d' c' fun u => AV.junkR k' (slotF d c s.g u)) _
              rw [slotF_map (φ := AV.junkR k') (junkR_no (h2 rfl).1), slotF_comm hdd]
              congr 1
              have := hent (fun e => e) (Ent.junkR k') rfl (Ent.junkR_no (hp rfl)) (fun _ => rfl)
              simp only [hid] at this
              exact this
            | false =>
              show SF.mk (slotF d c (slotF d' c' s.g)) _ = SF.mk (slotF d' c' (slotF d c s.g)) _
              rw [slotF_comm hdd]
              congr 1
              have := hent (fun e => e) (fun e => e) rfl rfl (fun _ => rfl)
              simp only [hid] at this
              exact this

end Go.Proofs.YtekdobbhkklapaaGreat
