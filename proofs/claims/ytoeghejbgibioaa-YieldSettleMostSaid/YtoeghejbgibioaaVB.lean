/- The walk by descriptions, second part: regions that draw, rules, blocks handed over. -/
import Derived.Test.YtoeghejbgibioaaVA
import Derived.StillTail

namespace Go.Proofs.Ytoeghejbgibioaa
open Go Go.RowKit
set_option linter.unusedVariables false
set_option linter.unusedSimpArgs false
set_option linter.unnecessarySimpa false

structure Fx where
  c : AV
  e : Option (Ent × Bool)

structure SF where
  g : Nat → AV
  h : Nat → Option Ent
def St.sf (s : St) : SF := ⟨s.get, s.ent⟩
def slotF (d : Option Nat) (c : AV) (g : Nat → AV) : Nat → AV := match d with
  | none => g
  | some t => fun u => if t = u then c else g u
def fxF (d r : Option Nat) (x : Fx) (s : SF) : SF := match r with
  | none => ⟨slotF d x.c s.g, s.h⟩
  | some r => match x.e with
    | none => ⟨slotF d x.c s.g, s.h⟩
    | some (e, true) => ⟨slotF d x.c fun u => AV.junkR r (s.g u), fun k => if r = k then some e else (s.h k).map (Ent.junkR r)⟩
    | some (e, false) => ⟨slotF d x.c s.g, fun k => if r = k then some e else s.h k⟩
def killF (d r : Option Nat) (s : SF) : SF := match r with
  | none => ⟨slotF d .junk s.g, s.h⟩
  | some r => ⟨slotF d .junk fun u => AV.junkR r (s.g u), fun k => if r = k then some .dead else (s.h k).map (Ent.junkR r)⟩

def slotL (d : Option Nat) (c : AV) (fr : List (Nat × AV)) : List (Nat × AV) := match d with
  | none => fr
  | some t => (t, c) :: fr
def fxD (d r : Option Nat) (x : Fx) (s : St) : St := match s with
  | ⟨fr, hp⟩ => match x with
    | ⟨c, eo⟩ => match r with
      | none => match d with
        | none => ⟨fr, hp⟩
        | some t => ⟨(t, c) :: fr, hp⟩
      | some r => match eo with
        | none => match d with
          | none => ⟨fr, hp⟩
          | some t => ⟨(t, c) :: fr, hp⟩
        | some (e, b) => match b with
          | true => match d with
            | none => ⟨junkF r fr, (r, e) :: junkH r hp⟩
            | some t => ⟨(t, c) :: junkF r fr, (r, e) :: junkH r hp⟩
          | false => match d with
            | none => ⟨fr, (r, e) :: hp⟩
            | some t => ⟨(t, c) :: fr, (r, e) :: hp⟩
def killD (d r : Option Nat) (s : St) : St := match s with
  | ⟨fr, hp⟩ => match r with
    | none => match d with
      | none => ⟨fr, hp⟩
      | some t => ⟨(t, .junk) :: fr, hp⟩
    | some r => match d with
      | none => ⟨junkF r fr, (r, .dead) :: junkH r hp⟩
      | some t => ⟨(t, .junk) :: junkF r fr, (r, .dead) :: junkH r hp⟩
theorem fxD_eq (d r : Option Nat) (x : Fx) (s : St) : fxD d r x s = match s with
  | ⟨fr, hp⟩ => match r with
    | none => ⟨slotL d x.c fr, hp⟩
    | some r => match x.e with
      | none => ⟨slotL d x.c fr, hp⟩
      | some (e, true) => ⟨slotL d x.c (junkF r fr), (r, e) :: junkH r hp⟩
      | some (e, false) => ⟨slotL d x.c fr, (r, e) :: hp⟩ := by
  obtain ⟨fr, hp⟩ := s
  obtain ⟨c, eo⟩ := x
  cases r with
  | none => cases d <;> rfl
  | some r =>
    cases eo with
    | none => cases d <;> rfl
    | some q => obtain ⟨e, b⟩ := q; cases b <;> cases d <;> rfl
theorem killD_eq (d r : Option Nat) (s : St) : killD d r s = match s with
  | ⟨fr, hp⟩ => match r with
    | none => ⟨slotL d .junk fr, hp⟩
    | some r => ⟨slotL d .junk (junkF r fr), (r, .dead) :: junkH r hp⟩ := by
  obtain ⟨fr, hp⟩ := s
  cases r <;> cases d <;> rfl
theorem sf_slot (d : Option Nat) (c : AV) (fr : List (Nat × AV)) (hp : List (Nat × Ent)) : (⟨slotL d c fr, hp⟩ : St).sf.g = slotF d c (⟨fr, hp⟩ : St).sf.g := by
  cases d with
  | none => rfl
  | some t =>
    funext u
    exact St.get_cons ⟨fr, hp⟩ t c hp u
theorem sf_junk (r : Nat) (fr : List (Nat × AV)) (hp hp' : List (Nat × Ent)) : (⟨junkF r fr, hp'⟩ : St).sf.g = fun u => AV.junkR r ((⟨fr, hp⟩ : St).sf.g u) := by
  funext u
  exact get_junk r ⟨fr, hp⟩ hp' u
theorem sf_ent (r : Nat) (e : Ent) (fr : List (Nat × AV)) (hp : List (Nat × Ent)) : (⟨fr, (r, e) :: hp⟩ : St).sf.h = fun k => if r = k then some e else (⟨fr, hp⟩ : St).sf.h k := by
  funext k
  show lk k ((r, e) :: hp) = _
  rw [lk_cons]
  rfl
theorem sf_junkH (r : Nat) (fr : List (Nat × AV)) (hp : List (Nat × Ent)) : (⟨fr, junkH r hp⟩ : St).sf.h = fun k => ((⟨fr, hp⟩ : St).sf.h k).map (Ent.junkR r) := by
  funext k
  show lk k (junkH r hp) = _
  unfold junkH
  rw [lk_map]
  rfl
theorem sf_fxD (d r : Option Nat) (x : Fx) (s : St) : (fxD d r x s).sf = fxF d r x s.sf := by
  rw [fxD_eq]
  obtain ⟨fr, hp⟩ := s
  unfold fxF
  cases r with
  | none =>
    show SF.mk _ _ = SF.mk _ _
    congr 1
    exact sf_slot d x.c fr hp
  | some r =>
    obtain ⟨c, e⟩ := x
    cases e with
    | none =>
      show SF.mk _ _ = SF.mk _ _
      congr 1
      exact sf_slot d c fr hp
    | some q =>
      obtain ⟨e, b⟩ := q
      cases b with
      | true =>
        show SF.mk _ _ = SF.mk _ _
        congr 1
        · exact (sf_slot d c (junkF r fr) _).trans (by rw [sf_junk r fr hp])
        · exact (sf_ent r e _ _).trans (by
            funext k
            by_cases hk : r = k
            · rw [if_pos hk, if_pos hk]
            · rw [if_neg hk, if_neg hk]
              exact congrFun (sf_junkH r fr hp) k)
      | false =>
        show SF.mk _ _ = SF.mk _ _
        congr 1
        · exact sf_slot d c fr _
        · exact sf_ent r e _ _
theorem sf_killD (d r : Option Nat) (s : St) : (killD d r s).sf = killF d r s.sf := by
  rw [killD_eq]
  obtain ⟨fr, hp⟩ := s
  unfold killF
  cases r with
  | none =>
    show SF.mk _ _ = SF.mk _ _
    congr 1
    exact sf_slot d .junk fr hp
  | some r =>
    show SF.mk _ _ = SF.mk _ _
    congr 1
    · exact (sf_slot d .junk (junkF r fr) _).trans (by rw [sf_junk r fr hp])
    · exact (sf_ent r .dead _ _).trans (by
        funext k
        by_cases hk : r = k
        · rw [if_pos hk, if_pos hk]
        · rw [if_neg hk, if_neg hk]
          exact congrFun (sf_junkH r fr hp) k)

theorem Sim.congr {X : Cx} {R : Run} {ρ : Env} {M : Mem} {s s' : St} {a : Act} {w : World} (h : Sim X R ρ M s a w) (he : s.sf = s'.sf) : Sim X R ρ M s' a w := by
  have hg : ∀ t, s'.get t = s.get t := fun t => by have := congrArg (fun q => SF.g q t) he; exact this.symm
  have hh : ∀ r, s'.ent r = s.ent r := fun r => by have := congrArg (fun q => SF.h q r) he; exact this.symm
  exact ⟨h.size, h.defers, h.chg, h.m0, h.g0, h.fresh, h.pub, fun t => by rw [hg]; exact h.slots t, fun r e => by rw [hh]; exact h.ents r e, fun r e g => by rw [hh]; exact h.own r e g, fun r r' e e' => by rw [hh, hh]; exact h.apart r r' e e', fun r e g p v => by rw [hh]; exact h.sep r e g p v, h.fix, h.drn, h.kn⟩

def noRef (c : AV) : Prop := ∀ r, AV.uses r c = false
def SLe (c c' : AV) : Prop := c' = .junk ∨ c = c' ∨ (noRef c ∧ noRef c' ∧ AVle c c')
theorem SLe.refl (c : AV) : SLe c c := .inr (.inl rfl)
theorem SLe.av {c c' : AV} (h : SLe c c') : AVle c c' := by
  rcases h with rfl | rfl | ⟨_, _, h⟩
  · exact AVle.junk _
  · exact AVle.refl _
  · exact h
theorem junkR_no {r : Nat} {c : AV} (h : AV.uses r c = false) : AV.junkR r c = c := by unfold AV.junkR; rw [h]
theorem junkR_junk (r : Nat) : AV.junkR r .junk = .junk := rfl
theorem SLe.junkR {c c' : AV} (h : SLe c c') (r : Nat) : SLe (AV.junkR r c) (AV.junkR r c') := by
  rcases h with rfl | rfl | ⟨h1, h2, h3⟩
  · exact .inl rfl
  · exact SLe.refl _
  · rw [junkR_no (h1 r), junkR_no (h2 r)]; exact .inr (.inr ⟨h1, h2, h3⟩)
theorem SLe.to_junkR {c c' : AV} (h : SLe c c') (r : Nat) : SLe c (AV.junkR r c') := by
  unfold AV.junkR
  split
  · exact .inl rfl
  · exact h
def SLes (cs cs' : List AV) : Prop := cs.length = cs'.length ∧ ∀ (i : Nat) (c c' : AV), cs[i]? = some c → cs'[i]? = some c' → SLe c c'
def ELe (e e' : Ent) : Prop := match e' with
  | .dead => True
  | .blk t cs' => ∃ cs, e = .blk t cs ∧ SLes cs cs'
  | .row E s n f => e = .row E s n f
  | .pub s n f => e = .pub s n f
  | .mp P k t L => e = .mp P k t L
  | .mpx P k t L es clock gm => e = .mpx P k t L es clock gm
  | .it rm gm es clock left cur => e = .it rm gm es clock left cur
theorem SLes.refl (cs : List AV) : SLes cs cs := ⟨rfl, fun i c c' h h' => by rw [h] at h'; cases h'; exact SLe.refl _⟩
theorem ELe.refl (e : Ent) : ELe e e := by cases e <;> first | trivial | rfl | exact ⟨_, rfl, SLes.refl _⟩
theorem ELe.junkR {e e' : Ent} (h : ELe e e') (r : Nat) : ELe (Ent.junkR r e) (Ent.junkR r e') := by
  cases e' with
  | dead => trivial
  | blk t cs' =>
    obtain ⟨cs, rfl, h1, h2⟩ := h
    refine ⟨_, rfl, by simp [h1], fun i c c' hc hc' => ?_⟩
    rw [List.getElem?_map] at hc hc'
    cases hci : cs[i]? with
    | none => rw [hci] at hc; cases hc
    | some q =>
      cases hci' : cs'[i]? with
      | none => rw [hci'] at hc'; cases hc'
      | some q' =>
        rw [hci] at hc; rw [hci'] at hc'; cases hc; cases hc'
        exact (h2 i q q' hci hci').junkR r
  | row E s n f => cases h; rfl
  | pub s n f => cases h; rfl
  | mp P k t L => cases h; rfl
  | mpx => cases h; rfl
  | it => cases h; rfl
theorem ELe.to_junkR {e e' : Ent} (h : ELe e e') (r : Nat) : ELe e (Ent.junkR r e') := by
  cases e' with
  | dead => trivial
  | blk t cs' =>
    obtain ⟨cs, rfl, h1, h2⟩ := h
    refine ⟨cs, rfl, by simp [h1], fun i c c' hc hc' => ?_⟩
    rw [List.getElem?_map] at hc'
    cases hci' : cs'[i]? with
    | none => rw [hci'] at hc'; cases hc'
    | some q' =>
      rw [hci'] at hc'; cases hc'
      exact (h2 i c q' hc hci').to_junkR r
  | row E s n f => exact h
  | pub s n f => exact h
  | mp P k t L => exact h
  | mpx => exact h
  | it => exact h
structure Wk (s s' : SF) : Prop where
  g : ∀ t, SLe (s.g t) (s'.g t)
  h : ∀ r e, s'.h r = some e → e = .dead ∨ ∃ e0, s.h r = some e0 ∧ ELe e0 e
theorem Wk.refl (s : SF) : Wk s s := ⟨fun _ => SLe.refl _, fun r e he => .inr ⟨e, he, ELe.refl e⟩⟩
theorem ELe.ent {e e' : Ent} (h : ELe e e') : EntLe e e' := by
  cases e' with
  | dead => exact fun _ _ _ _ _ => trivial
  | blk t cs' =>
    obtain ⟨cs, rfl, h1, h2⟩ := h
    intro ρ M w r ⟨g, vs, e1, e2, e3, e4⟩
    refine ⟨g, vs, e1, e2, by omega, fun i c' v hc' hv => ?_⟩
    have hlt : i < cs.length := by
      have := (List.getElem?_eq_some_iff.1 hc').1
      omega
    exact (h2 i cs[i] c' (List.getElem?_eq_getElem hlt) hc').av _ _ _ (e4 i _ v (List.getElem?_eq_getElem hlt) hv)
  | row E s n f => cases h; exact EntLe.refl _
  | pub s n f => cases h; exact EntLe.refl _
  | mp P k t L => cases h; exact EntLe.refl _
  | mpx => cases h; exact EntLe.refl _
  | it => cases h; exact EntLe.refl _
theorem ELe.owned {e e' : Ent} (h : ELe e e') (ho : e'.owned = true) : e.owned = true := by
  cases e' with
  | dead => cases ho
  | blk t cs' => obtain ⟨cs, rfl, _⟩ := h; rfl
  | row E s n f => cases h; rfl
  | pub s n f => cases ho
  | mp P k t L => cases h; rfl
  | mpx => cases h; rfl
  | it => cases h; rfl
theorem Sim.wk {X : Cx} {R : Run} {ρ : Env} {M : Mem} {s s' : St} {a : Act} {w : World} (h : Sim X R ρ M s a w) (hw : Wk s.sf s'.sf) : Sim X R ρ M s' a w := by
  have hown : ∀ r e, s'.ent r = some e → e.owned = true → ∃ e0, s.ent r = some e0 ∧ e0.owned = true := fun r e he ho => by
    rcases hw.h r e he with rfl | ⟨e0, h1, h2⟩
    · cases ho
    · exact ⟨e0, h1, h2.owned ho⟩
  refine ⟨h.size, h.defers, h.chg, h.m0, h.g0, h.fresh, h.pub, fun t => (hw.g t).av _ _ _ (h.slots t), fun r e he => ?_, fun r e g he ho => ?_, fun r r' e e' he he' ho ho' => ?_, fun r e g p v he ho => ?_, h.fix, h.drn, h.kn⟩
  · rcases hw.h r e he with rfl | ⟨e0, h1, h2⟩
    · trivial
    · exact h2.ent _ _ _ _ (h.ents r e0 h1)
  · obtain ⟨e0, h1, h2⟩ := hown r e he ho
    exact h.own r e0 g h1 h2
  · obtain ⟨e0, h1, h2⟩ := hown r e he ho
    obtain ⟨e0', h1', h2'⟩ := hown r' e' he' ho'
    exact h.apart r r' e0 e0' h1 h1' h2 h2'
  · obtain ⟨e0, h1, h2⟩ := hown r e he ho
    exact h.sep r e0 g p v h1 h2

theorem slotF_le {d : Option Nat} {c c' : AV} {g g' : Nat → AV} (hc : SLe c c') (h : ∀ t, SLe (g t) (g' t)) : ∀ t, SLe (slotF d c g t) (slotF d c' g' t) := fun t => by
  cases d with
  | none => exact h t
  | some u =>
    show SLe (if u = t then c else g t) (if u = t then c' else g' t)
    split
    · exact hc
    · exact h t
def Fx.fits (x : Fx) (r : Option Nat) : Prop := x.e = none ↔ r = none
theorem Wk.fx {s s' : SF} (h : Wk s s') (d r : Option Nat) {x x' : Fx} (hc : SLe x.c x'.c) (he : x.e = x'.e) : Wk (fxF d r x s) (fxF d r x' s') := by
  unfold fxF
  cases r with
  | none => exact ⟨slotF_le hc h.g, h.h⟩
  | some r =>
    rw [he]
    cases x'.e with
    | none => exact ⟨slotF_le hc h.g, h.h⟩
    | some q =>
      obtain ⟨e, b⟩ := q
      cases b with
      | true =>
        refine ⟨slotF_le hc fun t => (h.g t).junkR r, fun k q hq => ?_⟩
        have hq' : (if r = k then some e else (s'.h k).map (Ent.junkR r)) = some q := hq
        by_cases hk : r = k
        · rw [if_pos hk] at hq'
          right
          exact ⟨e, if_pos hk, by cases hq'; exact ELe.refl e⟩
        · rw [if_neg hk] at hq'
          cases hs : s'.h k with
          | none => rw [hs] at hq'; cases hq'
          | some q0 =>
            rw [hs] at hq'; cases hq'
            rcases h.h k q0 hs with rfl | ⟨e0, h1, h2⟩
            · exact .inl rfl
            · exact .inr ⟨Ent.junkR r e0, by show (if r = k then some e else (s.h k).map (Ent.junkR r)) = _; rw [if_neg hk, h1]; rfl, h2.junkR r⟩
      | false =>
        refine ⟨slotF_le hc h.g, fun k q hq => ?_⟩
        have hq' : (if r = k then some e else s'.h k) = some q := hq
        by_cases hk : r = k
        · rw [if_pos hk] at hq'
          right
          exact ⟨e, if_pos hk, by cases hq'; exact ELe.refl e⟩
        · rw [if_neg hk] at hq'
          rcases h.h k q hq' with rfl | ⟨e0, h1, h2⟩
          · exact .inl rfl
          · exact .inr ⟨e0, by show (if r = k then some e else s.h k) = _; rw [if_neg hk]; exact h1, h2⟩
theorem Wk.fx_kill {s s' : SF} (h : Wk s s') (d r : Option Nat) (x : Fx) : Wk (fxF d r x s) (killF d r s') := by
  unfold fxF killF
  cases r with
  | none => exact ⟨slotF_le (.inl rfl) h.g, h.h⟩
  | some r =>
    have hh : ∀ (hs : Nat → Option Ent), (∀ k e0, r ≠ k → s.h k = some e0 → ∃ e1, hs k = some e1 ∧ (e1 = e0 ∨ e1 = Ent.junkR r e0)) → ∀ k q, (if r = k then some Ent.dead else (s'.h k).map (Ent.junkR r)) = some q → q = .dead ∨ ∃ e0, hs k = some e0 ∧ ELe e0 q := by
      intro hs hhs k q hq
      by_cases hk : r = k
      · rw [if_pos hk] at hq; cases hq; exact .inl rfl
      · rw [if_neg hk] at hq
        cases hs' : s'.h k with
        | none => rw [hs'] at hq; cases hq
        | some q0 =>
          rw [hs'] at hq; cases hq
          rcases h.h k q0 hs' with rfl | ⟨e0, h1, h2⟩
          · exact .inl rfl
          · obtain ⟨e1, h3, h4⟩ := hhs k e0 hk h1
            rcases h4 with rfl | rfl
            · exact .inr ⟨_, h3, h2.to_junkR r⟩
            · exact .inr ⟨_, h3, h2.junkR r⟩
    cases x.e with
    | none => exact ⟨slotF_le (.inl rfl) fun t => (h.g t).to_junkR r, hh s.h (fun k e0 _ h0 => ⟨e0, h0, .inl rfl⟩)⟩
    | some q =>
      obtain ⟨e, b⟩ := q
      cases b with
      | true => exact ⟨slotF_le (.inl rfl) fun t => (h.g t).junkR r, hh _ (fun k e0 hk h0 => ⟨Ent.junkR r e0, by show (if r = k then some e else (s.h k).map (Ent.junkR r)) = _; rw [if_neg hk, h0]; rfl, .inr rfl⟩)⟩
      | false => exact ⟨slotF_le (.inl rfl) fun t => (h.g t).to_junkR r, hh _ (fun k e0 hk h0 => ⟨e0, by show (if r = k then some e else s.h k) = _; rw [if_neg hk]; exact h0, .inl rfl⟩)⟩
theorem Wk.skip_kill {s s' : SF} (h : Wk s s') (d r : Option Nat) : Wk s (killF d r s') := by
  unfold killF
  have hsl : ∀ g' : Nat → AV, (∀ t, SLe (s.g t) (g' t)) → ∀ t, SLe (s.g t) (slotF d .junk g' t) := fun g' hg t => by
    cases d with
    | none => exact hg t
    | some u =>
      show SLe (s.g t) (if u = t then .junk else g' t)
      split
      · exact .inl rfl
      · exact hg t
  cases r with
  | none => exact ⟨hsl _ h.g, h.h⟩
  | some r =>
    refine ⟨hsl _ fun t => (h.g t).to_junkR r, fun k q hq => ?_⟩
    have hq' : (if r = k then some Ent.dead else (s'.h k).map (Ent.junkR r)) = some q := hq
    by_cases hk : r = k
    · rw [if_pos hk] at hq'; cases hq'; exact .inl rfl
    · rw [if_neg hk] at hq'
      cases hs' : s'.h k with
      | none => rw [hs'] at hq'; cases hq'
      | some q0 =>
        rw [hs'] at hq'; cases hq'
        rcases h.h k q0 hs' with rfl | ⟨e0, h1, h2⟩
        · exact .inl rfl
        · exact .inr ⟨e0, h1, h2.to_junkR r⟩

def usesE (r : Nat) (x : Fx) : Bool := AV.uses r x.c || (match x.e with
  | some (e, _) => Ent.uses r e
  | none => false)
def movesB (x : Fx) : Bool := match x.e with
  | some (_, true) => true
  | _ => false
def apartFx (d r : Option Nat) (x : Fx) (d' r' : Option Nat) (x' : Fx) : Bool :=
  (match d with
    | none => true
    | some t => match d' with
      | none => true
      | some t' => !Nat.beq t t') &&
  (match r with
    | none => true
    | some k => (!movesB x || !usesE k x') && (match r' with
      | none => true
      | some k' => !Nat.beq k k')) &&
  (match r' with
    | none => true
    | some k' => !movesB x' || !usesE k' x)
theorem Ent.junkR_no {r : Nat} {e : Ent} (h : Ent.uses r e = false) : Ent.junkR r e = e := by
  cases e with
  | blk t cs =>
    show Ent.blk t (cs.map (AV.junkR r)) = _
    congr 1
    have : ∀ cs : List AV, AV.uses.usesL r cs = false → cs.map (AV.junkR r) = cs := by
      intro cs
      induction cs with
      | nil => intro _; rfl
      | cons c l ih =>
        intro h
        simp only [AV.uses.usesL, Bool.or_eq_false_iff] at h
        rw [List.map_cons, Go.Proofs.Ytoeghejbgibioaa.junkR_no h.1, ih h.2]
    exact this cs h
  | _ => rfl
theorem junkR_comm (r k : Nat) (c : AV) : AV.junkR r (AV.junkR k c) = AV.junkR k (AV.junkR r c) := by
  cases h1 : AV.uses r c <;> cases h2 : AV.uses k c <;> simp [AV.junkR, h1, h2, AV.uses]
theorem Ent.junkR_comm (r k : Nat) (e : Ent) : Ent.junkR r (Ent.junkR k e) = Ent.junkR k (Ent.junkR r e) := by
  cases e with
  | blk t cs =>
    show Ent.blk t ((cs.map (AV.junkR k)).map (AV.junkR r)) = Ent.blk t ((cs.map (AV.junkR r)).map (AV.junkR k))
    rw [List.map_map, List.map_map]
    congr 1
    apply List.map_congr_left
    intro c _
    exact Go.Proofs.Ytoeghejbgibioaa.junkR_comm r k c
  | _ => rfl
theorem slotF_comm {d d' : Option Nat} {c c' : AV} {g : Nat → AV} (h : ∀ t, d = some t → d' ≠ some t) : slotF d c (slotF d' c' g) = slotF d' c' (slotF d c g) := by
  cases d with
  | none => rfl
  | some t =>
    cases d' with
    | none => rfl
    | some t' =>
      have hne : t ≠ t' := fun e => h t rfl (by rw [e])
      funext u
      show (if t = u then c else if t' = u then c' else g u) = (if t' = u then c' else if t = u then c else g u)
      by_cases h1 : t = u
      · rw [if_pos h1, if_neg (by omega), if_pos h1]
      · rw [if_neg h1, if_neg h1]
theorem slotF_map {d : Option Nat} {c : AV} {g : Nat → AV} {φ : AV → AV} (h : φ c = c) : (fun u => φ (slotF d c g u)) = slotF d c fun u => φ (g u) := by
  cases d with
  | none => rfl
  | some t =>
    funext u
    show φ (if t = u then c else g u) = (if t = u then c else φ (g u))
    split
    · exact h
    · rfl
theorem fx_comm {d r d' r' : Option Nat} {x x' : Fx} (h : apartFx d r x d' r' x' = true) (s : SF) : fxF d r x (fxF d' r' x' s) = fxF d' r' x' (fxF d r x s) := by
  simp only [apartFx, Bool.and_eq_true] at h
  obtain ⟨⟨hd, hr⟩, hr'⟩ := h
  have hdd : ∀ t, d = some t → d' ≠ some t := fun t e1 e2 => by
    subst e1 e2
    simp [Nat.beq_refl] at hd
  obtain ⟨c, e⟩ := x
  obtain ⟨c', e'⟩ := x'
  have hu : ∀ k, r = some k → movesB ⟨c, e⟩ = true → AV.uses k c' = false ∧ ∀ q b, e' = some (q, b) → Ent.uses k q = false := fun k hk hm => by
    subst hk
    simp only [Bool.and_eq_true, Bool.not_eq_true', usesE, Bool.or_eq_false_iff, Bool.or_eq_true, hm, Bool.true_eq_false, false_or] at hr
    exact ⟨hr.1.1, fun q b hq => by subst hq; exact hr.1.2⟩
  have hu' : ∀ k, r' = some k → movesB ⟨c', e'⟩ = true → AV.uses k c = false ∧ ∀ q b, e = some (q, b) → Ent.uses k q = false := fun k hk hm => by
    subst hk
    simp only [Bool.not_eq_true', usesE, Bool.or_eq_false_iff, Bool.or_eq_true, hm, Bool.true_eq_false, false_or] at hr'
    exact ⟨hr'.1, fun q b hq => by subst hq; exact hr'.2⟩
  have hrr : ∀ k k', r = some k → r' = some k' → k ≠ k' := fun k k' e1 e2 e3 => by
    subst e1 e2 e3
    simp [Nat.beq_refl] at hr
  cases r with
  | none =>
    cases r' with
    | none => exact congrArg (fun q => SF.mk q _) (slotF_comm hdd)
    | some k' =>
      have h2 := hu' k' rfl
      cases e' with
      | none => exact congrArg (fun q => SF.mk q _) (slotF_comm hdd)
      | some q =>
        obtain ⟨q, b⟩ := q
        cases b with
        | true =>
          show SF.mk (slotF d c (slotF d' c' fun u => AV.junkR k' (s.g u))) _ = SF.mk (slotF d' c' fun u => AV.junkR k' (slotF d c s.g u)) _
          rw [slotF_map (φ := AV.junkR k') (junkR_no (h2 rfl).1), slotF_comm hdd]
          rfl
        | false => exact congrArg (fun q => SF.mk q _) (slotF_comm hdd)
  | some k =>
    have h1 := hu k rfl
    cases e with
    | none =>
      cases r' with
      | none => exact congrArg (fun q => SF.mk q _) (slotF_comm hdd)
      | some k' =>
        have h2 := hu' k' rfl
        cases e' with
        | none => exact congrArg (fun q => SF.mk q _) (slotF_comm hdd)
        | some q =>
          obtain ⟨q, b⟩ := q
          cases b with
          | true =>
            show SF.mk (slotF d c (slotF d' c' fun u => AV.junkR k' (s.g u))) _ = SF.mk (slotF d' c' fun u => AV.junkR k' (slotF d c s.g u)) _
            rw [slotF_map (φ := AV.junkR k') (junkR_no (h2 rfl).1), slotF_comm hdd]
            rfl
          | false => exact congrArg (fun q => SF.mk q _) (slotF_comm hdd)
    | some p =>
      obtain ⟨p, b⟩ := p
      cases r' with
      | none =>
        cases b with
        | true =>
          show SF.mk (slotF d c fun u => AV.junkR k (slotF d' c' s.g u)) _ = SF.mk (slotF d' c' (slotF d c fun u => AV.junkR k (s.g u))) _
          rw [slotF_map (φ := AV.junkR k) (junkR_no (h1 rfl).1), slotF_comm hdd]
          rfl
        | false => exact congrArg (fun q => SF.mk q _) (slotF_comm hdd)
      | some k' =>
        have h2 := hu' k' rfl
        have hkk := hrr k k' rfl rfl
        cases e' with
        | none =>
          cases b with
          | true =>
            show SF.mk (slotF d c fun u => AV.junkR k (slotF d' c' s.g u)) _ = SF.mk (slotF d' c' (slotF d c fun u => AV.junkR k (s.g u))) _
            rw [slotF_map (φ := AV.junkR k) (junkR_no (h1 rfl).1), slotF_comm hdd]
            rfl
          | false => exact congrArg (fun q => SF.mk q _) (slotF_comm hdd)
        | some q =>
          obtain ⟨q, b'⟩ := q
          have hq : b = true → Ent.uses k q = false := fun hb => (h1 (by subst hb; rfl)).2 q b' rfl
          have hp : b' = true → Ent.uses k' p = false := fun hb => (h2 (by subst hb; rfl)).2 p b rfl
          have hent : ∀ (φ ψ : Ent → Ent), φ q = q → ψ p = p → (∀ e, φ (ψ e) = ψ (φ e)) → (fun j => if k = j then some p else (if k' = j then some q else (s.h j).map ψ).map φ) = (fun j => if k' = j then some q else (if k = j then some p else (s.h j).map φ).map ψ) := by
            intro φ ψ e1 e2 e3
            funext j
            by_cases hj : k = j
            · subst hj
              rw [if_pos rfl, if_neg (fun e => hkk e.symm), if_pos rfl]
              show some p = some (ψ p)
              rw [e2]
            · rw [if_neg hj]
              by_cases hj' : k' = j
              · rw [if_pos hj', if_pos hj']
                show some (φ q) = some q
                rw [e1]
              · rw [if_neg hj', if_neg hj', if_neg hj]
                cases s.h j with
                | none => rfl
                | some e => show some (φ (ψ e)) = some (ψ (φ e)); rw [e3]
          have hid : ∀ o : Option Ent, o.map (fun e => e) = o := fun o => by cases o <;> rfl
          cases b with
          | true =>
            cases b' with
            | true =>
              show SF.mk (slotF d c fun u => AV.junkR k (slotF d' c' (fun u => AV.junkR k' (s.g u)) u)) _ = SF.mk (slotF d' c' fun u => AV.junkR k' (slotF d c (fun u => AV.junkR k (s.g u)) u)) _
              rw [slotF_map (φ := AV.junkR k) (junkR_no (h1 rfl).1), slotF_map (φ := AV.junkR k') (junkR_no (h2 rfl).1), slotF_comm hdd]
              congr 1
              · congr 2
                funext u
                exact junkR_comm k k' _
              · exact hent _ _ (Ent.junkR_no (hq rfl)) (Ent.junkR_no (hp rfl)) (Ent.junkR_comm k k')
            | false =>
              show SF.mk (slotF d c fun u => AV.junkR k (slotF d' c' s.g u)) _ = SF.mk (slotF d' c' (slotF d c fun u => AV.junkR k (s.g u))) _
              rw [slotF_map (φ := AV.junkR k) (junkR_no (h1 rfl).1), slotF_comm hdd]
              congr 1
              have := hent (Ent.junkR k) (fun e => e) (Ent.junkR_no (hq rfl)) rfl (fun _ => rfl)
              simp only [hid] at this
              exact this
          | false =>
            cases b' with
            | true =>
              show SF.mk (slotF d c (slotF d' c' fun u => AV.junkR k' (s.g u))) _ = SF.mk (slotF d' c' fun u => AV.junkR k' (slotF d c s.g u)) _
              rw [slotF_map (φ := AV.junkR k') (junkR_no (h2 rfl).1), slotF_comm hdd]
              congr 1
              have := hent (fun e => e) (Ent.junkR k') rfl (Ent.junkR_no (hp rfl)) (fun _ => rfl)
              simp only [hid] at this
              exact this
            | false =>
              show SF.mk (slotF d c (slotF d' c' s.g)) _ = SF.mk (slotF d' c' (slotF d c s.g)) _
              rw [slotF_comm hdd]
              congr 1
              have := hent (fun e => e) (fun e => e) rfl rfl (fun _ => rfl)
              simp only [hid] at this
              exact this

end Go.Proofs.Ytoeghejbgibioaa

namespace Go.Proofs.Ytoeghejbgibioaa
open Go Go.RowKit
set_option linter.unusedVariables false
set_option linter.unusedSimpArgs false
set_option linter.unnecessarySimpa false

structure FExt (dr : Bool) (ρ : Env) (M : Mem) (w : World) (ρ' : Env) (M' : Mem) (w' : World) (d r : Option Nat) (x : Fx) (lo : Bool) (v : Value) : Prop where
  env : ∀ k, r ≠ some k → ρ' k = ρ k
  keep : (∀ e, x.e ≠ some (e, true)) → ρ' = ρ
  mem : Mem.le M M'
  fresh : ∀ p u, M' p = some u → M p = some u ∨ w.heap.size ≤ p.block
  pubN : ∀ p u, M' p = some u → M p = some u ∨ (w'.cell? p = some u ∧ u.oneCell' = true)
  os : w'.os = w.os
  tape : w'.tape = w.tape
  output : w'.output = w.output
  size : w.heap.size ≤ w'.heap.size
  block : ∀ k, k < w.heap.size → (lo = true → ∀ q, r = some q → (ρ q).1 ≠ some k) → w'.heap[k]? = w.heap[k]?
  den : DenA ρ' M' x.c v
  ent : ∀ q e b, r = some q → x.e = some (e, b) → EntOk ρ' M' w' q e ∧ (e.owned = true → ∀ g, (ρ' q).1 = some g → (w.heap.size ≤ g ∧ ∀ p u, M' p = some u → p.block ≠ g) ∨ (lo = true ∧ (ρ q).1 = some g))
  drn : dr = true → w.drawn ≤ w'.drawn

theorem sfd_get (d r : Option Nat) (x : Fx) (s : St) (t : Nat) : (fxD d r x s).get t = (fxF d r x s.sf).g t := congrArg (fun q => SF.g q t) (sf_fxD d r x s)
theorem sfd_ent (d r : Option Nat) (x : Fx) (s : St) (k : Nat) : (fxD d r x s).ent k = (fxF d r x s.sf).h k := congrArg (fun q => SF.h q k) (sf_fxD d r x s)

theorem slotF_den {X : Cx} {R : Run} {ρ ρ' : Env} {M M' : Mem} {s : St} {a : Act} {w : World} (h : Sim X R ρ M s a w) {d : Option Nat} {c : AV} {v : Value} {g : Nat → AV} (hd : ∀ t, d = some t → t < R.n) (hc : DenA ρ' M' c v) (hg : ∀ t, DenA ρ' M' (g t) (a.tmps.getD t undef)) (t : Nat) :
    DenA ρ' M' (slotF d c g t) ((a.put d v).tmps.getD t undef) := by
  cases d with
  | none => exact hg t
  | some u =>
    rw [put_get a u v (by rw [h.size]; exact hd u rfl)]
    show DenA ρ' M' (if u = t then c else g t) _
    by_cases hu : u = t
    · rw [if_pos hu, if_pos hu]; exact hc
    · rw [if_neg hu, if_neg hu]; exact hg t

theorem Sim.fx {X : Cx} {R : Run} {ρ ρ' : Env} {M M' : Mem} {s : St} {a : Act} {w w' : World} {d r : Option Nat} {x : Fx} {lo : Bool} {v : Value} (h : Sim X R ρ M s a w) (hx : FExt X.dr ρ M w ρ' M' w' d r x lo v) (hd : ∀ t, d = some t → t < R.n) (hfit : r = none → x.e = none)
    (hlx : lo = true → x.e ≠ none) (hlo : lo = true → ∃ q e0, r = some q ∧ s.ent q = some e0 ∧ e0.owned = true) (hmv : ∀ e q, x.e = some (e, true) → r = some q → kp q = false ∨ d = some q) : Sim X R ρ' M' (fxD d r x s) (a.put d v) w' := by
  have hblk : ∀ k q, s.ent k = some q → q.owned = true → (∀ j, r = some j → j ≠ k) → ∀ g, (ρ k).1 = some g → g < w.heap.size → w'.heap[g]? = w.heap[g]? := fun k q hk ho hjk g hg hlt => hx.block g hlt fun hl j hj hgj => by
    obtain ⟨q', e0, h1, h2, h3⟩ := hlo hl
    rw [hj] at h1; cases h1
    exact h.apart j k e0 q h2 hk h3 ho (hjk j hj) g hgj hg
  have hpub : PubOk M' w' := fun p u hp => by
    rcases hx.pubN p u hp with h1 | h1
    · obtain ⟨h2, h3⟩ := h.pub p u h1
      refine ⟨(World.cell?_of_block (hx.block p.block (cell_lt h2) fun hl j hj hgj => ?_)).trans h2, h3⟩
      obtain ⟨q', e0, k1, k2, k3⟩ := hlo hl
      rw [hj] at k1; cases k1
      exact h.sep j e0 p.block p u k2 k3 hgj h1 rfl
    · exact h1
  have hchg : Chg R.bs R.w0 w' := by
    refine ⟨hx.os.trans h.chg.os, hx.tape.trans h.chg.tape, hx.output.trans h.chg.output, Nat.le_trans h.chg.size hx.size, fun k hk hn => (hx.block k (Nat.lt_of_lt_of_le hk h.chg.size) fun hl j hj hgj => ?_).trans (h.chg.block k hk hn)⟩
    obtain ⟨q', e0, k1, k2, k3⟩ := hlo hl
    rw [hj] at k1; cases k1
    rcases h.own j e0 k k2 k3 hgj with h4 | h4
    · omega
    · exact hn (R.hsub _ _ h4.2)
  have hfresh : ∀ p u, M' p = some u → R.M0 p = some u ∨ R.w0.heap.size ≤ p.block := fun p u hp => by
    rcases hx.fresh p u hp with h1 | h1
    · exact h.fresh p u h1
    · have := h.chg.size; exact .inr (by omega)
  -- own blocks: which they are
  have hents : ∀ k e, (fxD d r x s).ent k = some e → (∃ b, r = some k ∧ x.e = some (e, b)) ∨ (∃ e0, s.ent k = some e0 ∧ e.owned = e0.owned ∧ ρ' k = ρ k ∧ (x.e = none ∨ r ≠ some k) ∧ (e = e0 ∧ ρ' = ρ ∨ ∃ q, r = some q ∧ e = Ent.junkR q e0)) := by
    intro k e he
    rw [sfd_ent] at he
    unfold fxF at he
    cases hr : r with
    | none =>
      rw [hr] at he
      have hxe := hfit hr
      have hρ := hx.keep fun e h => by rw [hxe] at h; cases h
      exact .inr ⟨e, he, rfl, by rw [hρ], .inl hxe, .inl ⟨rfl, hρ⟩⟩
    | some q =>
      rw [hr] at he
      cases hxe : x.e with
      | none =>
        rw [hxe] at he
        have hρ := hx.keep fun e h => by rw [hxe] at h; cases h
        exact .inr ⟨e, he, rfl, by rw [hρ], .inl rfl, .inl ⟨rfl, hρ⟩⟩
      | some p =>
        obtain ⟨e1, b⟩ := p
        rw [hxe] at he
        cases b with
        | true =>
          have h' : (if q = k then some e1 else (s.ent k).map (Ent.junkR q)) = some e := he
          by_cases hk : q = k
          · rw [if_pos hk] at h'
            cases h'
            exact .inl ⟨true, by rw [hk], rfl⟩
          · rw [if_neg hk] at h'
            cases hs : s.ent k with
            | none => rw [hs] at h'; cases h'
            | some e0 =>
              rw [hs] at h'
              cases h'
              exact .inr ⟨e0, rfl, Ent.junkR_owned q e0, hx.env k (by rw [hr]; exact fun e => hk (Option.some.inj e)), .inr fun e => hk (Option.some.inj e), .inr ⟨q, rfl, rfl⟩⟩
        | false =>
          have h' : (if q = k then some e1 else s.ent k) = some e := he
          have hρ := hx.keep fun e h => by rw [hxe] at h; cases h
          by_cases hk : q = k
          · rw [if_pos hk] at h'
            cases h'
            exact .inl ⟨false, by rw [hk], rfl⟩
          · rw [if_neg hk] at h'
            exact .inr ⟨e, h', rfl, by rw [hρ], .inr fun e => hk (Option.some.inj e), .inl ⟨rfl, hρ⟩⟩
  have hnewg : ∀ k e b, r = some k → x.e = some (e, b) → e.owned = true → ∀ g, (ρ' k).1 = some g → (w.heap.size ≤ g ∧ ∀ p u, M' p = some u → p.block ≠ g) ∨ ∃ e0, s.ent k = some e0 ∧ e0.owned = true ∧ (ρ k).1 = some g := fun k e b hr he ho g hg => by
    rcases (hx.ent k e b hr he).2 ho g hg with h1 | ⟨h1, h2⟩
    · exact .inl h1
    · obtain ⟨q', e0, k1, k2, k3⟩ := hlo h1
      rw [hr] at k1; cases k1
      exact .inr ⟨e0, k2, k3, h2⟩
  refine ⟨by rw [put_sz]; exact h.size, by rw [put_df]; exact h.defers, hchg, Mem.le_trans h.m0 hx.mem, h.g0, hfresh, hpub, fun t => ?_, fun k e he => ?_, fun k e g he ho hg => ?_, fun k k' e e' he he' ho ho' hne g hg hg' => ?_, fun k e g p u he ho hg hp => ?_, fun k hk => ?_, fun hd => Nat.le_trans (h.drn hd) (hx.drn hd), h.kn⟩
  rotate_right
  · have hkk : ρ' k = ρ k := by
      by_cases hr : r = some k
      · by_cases hxe : ∃ e, x.e = some (e, true)
        · obtain ⟨e, hxe⟩ := hxe
          rcases hmv e k hxe hr with h1 | h1
          · rw [hk] at h1; cases h1
          · have h2 := kp_small (k := k) (Nat.lt_of_lt_of_le (hd k h1) R.n5)
            rw [hk] at h2; cases h2
        · exact congrFun (hx.keep fun e h => hxe ⟨e, h⟩) k
      · exact hx.env k hr
    exact hkk.trans (h.fix k hk)
  · rw [sfd_get]
    unfold fxF
    cases hr : r with
    | none =>
      have hρ := hx.keep fun e h => by rw [hfit hr] at h; cases h
      exact slotF_den h hd hx.den (fun t => by rw [hρ]; exact (h.slots t).keep hx.mem fun _ _ => rfl) t
    | some q =>
      cases hxe : x.e with
      | none =>
        have hρ := hx.keep fun e h => by rw [hxe] at h; cases h
        exact slotF_den h hd hx.den (fun t => by rw [hρ]; exact (h.slots t).keep hx.mem fun _ _ => rfl) t
      | some p =>
        obtain ⟨e1, b⟩ := p
        cases b with
        | true => exact slotF_den h hd hx.den (fun t => AV.junkR_den hx.mem (fun k hk => hx.env k (by rw [hr]; exact fun e => hk (Option.some.inj e).symm)) (h.slots t)) t
        | false =>
          have hρ := hx.keep fun e h => by rw [hxe] at h; cases h
          exact slotF_den h hd hx.den (fun t => by rw [hρ]; exact (h.slots t).keep hx.mem fun _ _ => rfl) t
  · rcases hents k e he with ⟨b, h1, h2⟩ | ⟨e0, h1, h2, h3, h4, h5⟩
    · exact (hx.ent k e b h1 h2).1
    · have hb : ∀ g, e0.owned = true → (ρ k).1 = some g → g < w.heap.size → w'.heap[g]? = w.heap[g]? := fun g ho hg hlt => by
        rcases h4 with h4 | h4
        · exact hx.block g hlt fun hl j hj hgj => absurd h4 (hlx hl)
        · exact hblk k e0 h1 ho (fun j hj e => h4 (by rw [hj, e])) g hg hlt
      rcases h5 with ⟨rfl, hρ⟩ | ⟨q, hq, rfl⟩
      · exact (h.ents k e h1).keep hx.mem h3 (fun j _ => by rw [hρ]) hb
      · have h0 := h.ents k e0 h1
        cases e0 with
        | blk t cs =>
          obtain ⟨g, vs, e1, e3, e4, e5⟩ := h0
          refine ⟨g, vs, by rw [h3]; exact e1, by rw [hb g rfl e1 (Array.getElem?_eq_some_iff.1 e3).1]; exact e3, by simpa using e4, fun i c u hi hu => ?_⟩
          rw [List.getElem?_map] at hi
          cases hci : cs[i]? with
          | none => rw [hci] at hi; cases hi
          | some c0 =>
            rw [hci] at hi; cases hi
            exact AV.junkR_den hx.mem (fun j hj => hx.env j (by rw [hq]; exact fun e => hj (Option.some.inj e).symm)) (e5 i c0 u hci hu)
        | row E' s' n' f' => exact h0.keep hx.mem h3 (fun _ hu => by cases hu) hb
        | pub s' n' f' => exact h0.keep hx.mem h3 (fun _ hu => by cases hu) hb
        | dead => trivial
        | mp P' k' t' L' => exact h0.keep hx.mem h3 (fun _ hu => by cases hu) hb
        | mpx => exact h0.keep hx.mem h3 (fun _ hu => by cases hu) hb
        | it => exact h0.keep hx.mem h3 (fun _ hu => by cases hu) hb
  · rcases hents k e he with ⟨b, h1, h2⟩ | ⟨e0, h1, h2, h3, h4, h5⟩
    · rcases hnewg k e b h1 h2 ho g hg with h6 | ⟨e0, k1, k2, k3⟩
      · have := h.chg.size; exact .inl (by omega)
      · exact h.own k e0 g k1 k2 k3
    · rw [h3] at hg
      exact h.own k e0 g h1 (by rw [← h2]; exact ho) hg
  · rcases hents k e he with ⟨b, h1, h2⟩ | ⟨e0, h1, h2, h3, h4, h5⟩
    · rcases hents k' e' he' with ⟨b', h1', h2'⟩ | ⟨e0', h1', h2', h3', h4', h5'⟩
      · rw [h1] at h1'; cases h1'; exact hne rfl
      · rw [h3'] at hg'
        rcases hnewg k e b h1 h2 ho g hg with h6 | ⟨e1, k1, k2, k3⟩
        · have := (h.ents k' e0' h1').lt (by rw [← h2']; exact ho') g hg'
          omega
        · exact h.apart k k' e1 e0' k1 h1' k2 (by rw [← h2']; exact ho') hne g k3 hg'
    · rw [h3] at hg
      rcases hents k' e' he' with ⟨b', h1', h2'⟩ | ⟨e0', h1', h2', h3', h4', h5'⟩
      · rcases hnewg k' e' b' h1' h2' ho' g hg' with h6 | ⟨e1, k1, k2, k3⟩
        · have := (h.ents k e0 h1).lt (by rw [← h2]; exact ho) g hg
          omega
        · exact h.apart k k' e0 e1 h1 k1 (by rw [← h2]; exact ho) k2 hne g hg k3
      · rw [h3'] at hg'
        exact h.apart k k' e0 e0' h1 h1' (by rw [← h2]; exact ho) (by rw [← h2']; exact ho') hne g hg hg'
  · rcases hents k e he with ⟨b, h1, h2⟩ | ⟨e0, h1, h2, h3, h4, h5⟩
    · rcases hnewg k e b h1 h2 ho g hg with h6 | ⟨e1, k1, k2, k3⟩
      · exact h6.2 p u hp
      · rcases hx.fresh p u hp with h7 | h7
        · exact h.sep k e1 g p u k1 k2 k3 h7
        · have := (h.ents k e1 k1).lt k2 g k3
          omega
    · rw [h3] at hg
      rcases hx.fresh p u hp with h7 | h7
      · exact h.sep k e0 g p u h1 (by rw [← h2]; exact ho) hg h7
      · have := (h.ents k e0 h1).lt (by rw [← h2]; exact ho) g hg
        omega

structure FStep (X : Cx) (V : St) (o : Oper) (r : Option Nat) (x : Fx) : Prop where
  fit : r = none → x.e = none
  mv : ∀ e q, x.e = some (e, true) → r = some q → kp q = false ∨ o.dst = some q
  out : ∃ lo : Bool, (lo = true → x.e ≠ none) ∧ (lo = true → ∃ q e0, r = some q ∧ V.ent q = some e0 ∧ e0.owned = true) ∧
    ∀ R ρ M a w, Sim X R ρ M V a w → ∀ (K : Act → World → Prop) (Q : Exit → Act → World → Prop), (∀ v ρ' M' w', FExt X.dr ρ M w ρ' M' w' o.dst r x lo v → K (a.put o.dst v) w') → o.wp X.P a w K Q

theorem FExt.le {dr : Bool} {ρ ρ' : Env} {M M' : Mem} {w w' : World} {d r : Option Nat} {x : Fx} {lo : Bool} {v : Value} {c : AV} (h : FExt dr ρ M w ρ' M' w' d r x lo v) (hc : AVle x.c c) : FExt dr ρ M w ρ' M' w' d r ⟨c, x.e⟩ lo v :=
  ⟨h.env, h.keep, h.mem, h.fresh, h.pubN, h.os, h.tape, h.output, h.size, h.block, hc _ _ _ h.den, h.ent, h.drn⟩
theorem FStep.le {X : Cx} {V : St} {o : Oper} {r : Option Nat} {x : Fx} {c : AV} (h : FStep X V o r x) (hc : AVle x.c c) : FStep X V o r ⟨c, x.e⟩ := by
  obtain ⟨h1, hm, lo, h2, h3, h4⟩ := h
  exact ⟨h1, hm, lo, h2, h3, fun R ρ M a w hs K Q hk => h4 R ρ M a w hs K Q fun v ρ' M' w' hx => hk v ρ' M' w' (hx.le hc)⟩
theorem FStep.wk {X : Cx} {V V' : St} {o : Oper} {r : Option Nat} {x : Fx} (h : FStep X V o r x) (hw : Wk V'.sf V.sf) : FStep X V' o r x := by
  obtain ⟨h1, hm, lo, h2, h3, h4⟩ := h
  refine ⟨h1, hm, lo, h2, fun hl => ?_, fun R ρ M a w hs K Q hk => h4 R ρ M a w (hs.wk hw) K Q hk⟩
  obtain ⟨q, e0, k1, k2, k3⟩ := h3 hl
  rcases hw.h q e0 k2 with rfl | ⟨e1, k4, k5⟩
  · cases k3
  · exact ⟨q, e1, k1, k4, k5.owned k3⟩

def neR (d : Option Nat) (ne : Option Ent) : Option Nat := match ne with
  | some _ => d
  | none => none
theorem FStep.quiet {X : Cx} {V : St} {o : Oper} {c : AV} {ne : Option Ent} (hd : ne = none ∨ o.dst ≠ none) (h : Astep X V o c ne) : FStep X V o (neR o.dst ne) ⟨c, ne.map fun e => (e, true)⟩ := by
  refine ⟨fun hr => ?_, fun e q hx hr => ?_, false, fun h => (by cases h), fun h => (by cases h), fun R ρ M a w hs K Q hk => h R ρ M a w hs K Q fun v ρ' M' w' hx => hk v ρ' M' w' ?_⟩
  · cases ne with
    | none => rfl
    | some e =>
      rcases hd with hd | hd
      · cases hd
      · exact absurd hr hd
  · cases ne with
    | none => cases hx
    | some e' => exact .inr hr
  · refine ⟨fun k hk => hx.env k fun e he hdk => ?_, fun hn => ?_, hx.mem, hx.fresh, fun p u hp => .inr (hx.pub p u hp), hx.bel.os, hx.bel.tape, hx.bel.output, hx.bel.size, fun k hk _ => hx.bel.block k hk, hx.den, fun q e b hr he => ?_, hx.drn⟩
    · subst he
      exact hk hdk
    · cases ne with
      | none => funext r; exact hx.env r fun e he => by cases he
      | some e => exact absurd rfl (hn e)
    · cases ne with
      | none => cases he
      | some e' =>
        cases he
        obtain ⟨t, ht, h1, h2⟩ := hx.new e rfl
        have hq : o.dst = some q := hr
        rw [hq] at ht; cases ht
        exact ⟨h1, fun _ g hg => .inl (h2 g hg)⟩

def stX (X : Cx) (st : St) (t : TypeId) (p x : Operand) (K : Nat → Ent → Prop) : Prop := match lk t X.T with
  | none => False
  | some ti => match (st.ev X x).cells with
    | none => False
    | some vs => match Nat.beq vs.length ti.size with
      | false => False
      | true => match onesA vs with
        | false => False
        | true => match st.ev X p with
          | .ptr r off => match st.ent r with
            | some (.blk E cs) => match Nat.ble (off + vs.length) cs.length with
              | true => K r (.blk E (cs.take off ++ vs ++ cs.drop (off + vs.length)))
              | false => False
            | _ => False
          | .rptr r s k j => match st.ent r with
            | some (.row E s' n f) => match Nat.beq s s' with
              | false => False
              | true => match mapD vs with
                | none => False
                | some ds => match Nat.ble (j + vs.length) s with
                  | true => CndK (k < n) (K r (.row E s n (setF f k j ds)))
                  | false => False
            | _ => False
          | _ => False
theorem FExt.store {dr : Bool} {ρ : Env} {M : Mem} {w : World} {d : Option Nat} {r g : Nat} {cs : Array Value} {e : Ent} (hg : (ρ r).1 = some g) (hok : EntOk ρ M (w.setRow g cs) r e) : FExt dr ρ M w ρ M (w.setRow g cs) d (some r) ⟨.junk, some (e, false)⟩ true undef :=
  ⟨fun _ _ => rfl, fun _ => rfl, Mem.le_refl _, fun _ _ h => .inl h, fun _ _ h => .inl h, rfl, rfl, rfl, by rw [setRow_size]; exact Nat.le_refl _, fun k hk hn => setRow_other w g cs k fun e => hn rfl r rfl (by rw [hg, e]), .junk _, fun q e' b hq he => by
    cases hq
    cases he
    exact ⟨hok, fun _ g' hg' => .inr ⟨rfl, hg'⟩⟩, fun _ => Nat.le_refl _⟩
def mpX (X : Cx) (st : St) (t : TypeId) (m i x : Operand) (K : Nat → Ent → Prop) : Prop := match lk t X.T with
  | some ⟨.map k e, _, _⟩ => match st.ev X m with
    | .mp r => match st.ent r with
      | some (.mp P k' e' L) => match st.ev X i with
        | .dat (.val (.string s)) => match st.ev X x with
          | .dat (.val (.int .i64 z)) => CndK (P = X.P ∧ k' = k ∧ e' = e ∧ s.size ≤ maxLen ∧ L.length < maxLen ∧ -9223372036854775808 ≤ z ∧ z ≤ 9223372036854775807) (K r (.mp X.P k e (putM L s z)))
          | _ => False
        | _ => False
      | _ => False
    | _ => False
  | _ => False
theorem FExt.turned {dr : Bool} {ρ : Env} {M : Mem} {w w' : World} {d : Option Nat} {r g : Nat} {e : Ent} (hg : (ρ r).1 = some g) (hok : EntOk ρ M w' r e) (hc : Chg [g] w w') (hdr : w.drawn ≤ w'.drawn) : FExt dr ρ M w ρ M w' d (some r) ⟨.junk, some (e, false)⟩ true undef :=
  ⟨fun _ _ => rfl, fun _ => rfl, Mem.le_refl _, fun _ _ h => .inl h, fun _ _ h => .inl h, hc.os, hc.tape, hc.output, hc.size, fun k hk hn => hc.block k hk (by
    intro hm
    have e : k = g := by simpa using hm
    exact hn rfl r rfl (by rw [hg, e])), .junk _, fun q e' b hq he => by
    cases hq
    cases he
    exact ⟨hok, fun _ g' hg' => .inr ⟨rfl, hg'⟩⟩, fun _ => hdr⟩
theorem s_mapX {X : Cx} (hX : X.ok) {st : St} {o : Oper} {t : TypeId} {m i x : Operand} (ho : o.op = .mapUpdate t m i x) (hd : o.dst = none) {K : Nat → Ent → Prop} (hk : mpX X st t m i x K) : ∃ r e, K r e ∧ FStep X st o (some r) ⟨.junk, some (e, false)⟩ := by
  unfold mpX at hk
  split at hk
  · rename_i k e sz z hti
    obtain ⟨_, _, hu, hkk, he, ti, hi, hz⟩ := hX t _ hti
    split at hk
    · rename_i r hx
      split at hk
      · rename_i P k' e' L hen
        split at hk
        · rename_i s hs
          split at hk
          · rename_i v hv
            obtain ⟨⟨rfl, rfl, rfl, c1, c2, c3, c4⟩, hnext⟩ := hk
            refine ⟨r, _, hnext, fun e => (by cases e), fun e q h => (by cases h), true, fun _ => (by intro e; cases e), fun _ => ⟨r, _, rfl, hen, rfl⟩, fun R ρ M a w h K' Q hK' => ?_⟩
            obtain ⟨g, hg, hmv⟩ := mp_of (hx ▸ h.ev m)
            have hiv := val_of (hs ▸ h.ev i)
            have hxv := val_of (hv ▸ h.ev x)
            obtain ⟨g', D, h1, h2, h3⟩ := h.ents r _ hen
            rw [hg] at h1
            cases h1
            have hwf : (Lit.int .i64 v).wf = true := by
              have := wrap64_wf v
              rwa [IntWalk.wrap64_in _ ⟨c3, c4⟩] at this
            obtain ⟨w', hrun, hown, hturn⟩ := h2.store (Maps.string_keyed hkk) hu c2 (WideMaps.keyOf_string_mk hkk c1) (plainElem_int he hwf)
            obtain ⟨q1, q2, q3⟩ := chg_turned hturn
            have hr' := h3.put s v
            have hown' := own_exact hown
            rw [hr'.size] at hown'
            have hfx := FExt.turned (dr := X.dr) (d := o.dst) (M := M) (ρ := ρ) (r := r) (e := .mp X.P k' e' (putM L s v)) hg ⟨g, _, hg, hown', hr'⟩ q1 q3
            unfold Oper.wp
            have hex : (execOp a.eval o).run X.P w = .ok .skip w' := by
              unfold execOp
              simp [ho, hmv, hiv, hxv, hrun]
            rw [hex]
            exact hK' _ _ _ _ hfx
          · exact hk.elim
        · exact hk.elim
      · exact hk.elim
    · exact hk.elim
  · exact hk.elim
def apX (X : Cx) (st : St) (d : Option Nat) (t : TypeId) (x y : Operand) (K : Nat → AV → Ent → Prop) : Prop := match d with
  | none => False
  | some dt => match lk t X.T with
    | some ⟨.slice E es eb ez, _, _⟩ => match Nat.beq ez.cells.size es with
      | false => False
      | true => match Nat.ble 1 es with
        | false => False
        | true => match st.ev X x with
          | .own r s 0 k => match Nat.beq es s with
            | false => False
            | true => match st.ent r with
              | some (.row E' s' N f) => match Nat.beq E E' with
                | false => False
                | true => match Nat.beq es s' with
                  | false => False
                  | true => match kp r with
                    | true => False
                    | false => srcK X st es y fun m g => CndK (k = N ∧ (N + m) * eb ≤ 140737488355328 ∧ N + m ≤ 4611686018427387904) (K r (.own r s 0 (N + m)) (.row E s (N + m) (catF N f g)))
              | _ => False
          | .dat (.val (.slice none 0 0)) => srcK X st es y fun m g => CndK (m * eb ≤ 140737488355328 ∧ m ≤ 4611686018427387904) (K dt (.own dt es 0 m) (.row E es m g))
          | _ => False
    | _ => False
theorem FExt.grow {dr : Bool} {ρ : Env} {M : Mem} {w w' : World} {d : Option Nat} {r : Nat} {lo : Bool} {ob b' : Option Nat} {cap' E s n : Nat} {f : Nat → Nat → D} {ys : List Value} (hp : PubOk M w) (hob : ∀ g, ob = some g → lo = true ∧ (ρ r).1 = some g) (hgr : w.grownBy w' ob) (hb : b' = ob ∨ b' = some w.heap.size)
    (how : w'.ownsRow 0 E s (.slice (addrOf b') n cap') n ys) (hys : ∀ i, i < n → ∀ j, j < s → ∃ u, ys[i * s + j]? = some u ∧ DenD M (f i j) u ∧ u.oneCell' = true) (hdr : w.drawn ≤ w'.drawn) :
    FExt dr ρ M w (upd ρ r (b', cap')) M w' d (some r) ⟨.own r s 0 n, some (.row E s n f, true)⟩ lo (.slice (addrOf b') n cap') := by
  refine ⟨fun k hk => upd_ne ρ (fun e => hk (by rw [e])) _, fun h => absurd rfl (h _), Mem.le_refl _, fun _ _ h => .inl h, fun _ _ h => .inl h, hgr.os, hgr.tape, hgr.output, hgr.size, fun k hk hn => hgr.block k hk fun e => ?_, ?_, fun q e b hq he => ?_, fun _ => hdr⟩
  · obtain ⟨h1, h2⟩ := hob k e.symm
    exact hn h1 r rfl h2
  · have := DenA.own (ρ := upd ρ r (b', cap')) (M := M) r s 0 n
    rw [upd_same, partOf_zero, Nat.sub_zero] at this
    exact this
  · cases hq
    cases he
    refine ⟨⟨ys, by rw [upd_same]; exact how, hys⟩, fun _ g hg => ?_⟩
    rw [upd_same] at hg
    rcases hb with hb | hb
    · obtain ⟨h1, h2⟩ := hob g (by rw [← hb]; exact hg)
      exact .inr ⟨h1, h2⟩
    · rw [hb] at hg
      cases hg
      exact .inl ⟨Nat.le_refl _, fun p u hpu => hp.off hpu⟩

section
variable {X : Cx} {st : St} {o : Oper}
theorem srcX {s : Nat} {y : Operand} {K : Nat → (Nat → Nat → D) → Prop} (hs : srcK X st s y K) : ∃ m g, K m g ∧ ∀ R ρ M a w, Sim X R ρ M st a w → Src M w s (a.eval y) m g := by
  have key : ∃ m g, K m g ∧ srcK X st s y fun m' g' => m' = m ∧ g' = g := by
    unfold srcK at hs ⊢
    split at hs
    · split at hs
      · rename_i hb; exact ⟨_, _, hs, by simp only [hb]; first | trivial | exact ⟨rfl, rfl⟩ | exact ⟨trivial, trivial⟩⟩
      · exact hs.elim
    · split at hs
      · rename_i hb
        split at hs
        · rename_i hr; exact ⟨_, _, hs.nxt, by simp only [hb, hr]; exact ⟨hs.cnd, (by first | trivial | exact ⟨rfl, rfl⟩ | exact ⟨trivial, trivial⟩)⟩⟩
        · exact hs.elim
      · exact hs.elim
    · exact ⟨_, _, hs, rfl, rfl⟩
    · exact hs.elim
  obtain ⟨m, g, h1, h2⟩ := key
  refine ⟨m, g, h1, fun R ρ M a w h => ?_⟩
  obtain ⟨m', g', ⟨rfl, rfl⟩, h3⟩ := src_den h h2
  exact h3
theorem s_storeX (hX : X.ok) {t : TypeId} {p x : Operand} (ho : o.op = .store t p x) (hd : o.dst = none) {K : Nat → Ent → Prop} (hk : stX X st t p x K) : ∃ r e, K r e ∧ FStep X st o (some r) ⟨.junk, some (e, false)⟩ := by
  unfold stX at hk
  split at hk
  · exact hk.elim
  rename_i ti hti
  obtain ⟨⟨d, hdd, _, _⟩, ⟨inf, hinf, hsz, _⟩, _⟩ := hX t ti hti
  split at hk
  · exact hk.elim
  rename_i vs hvs
  split at hk
  · exact hk.elim
  rename_i hlen
  have hlen := Nat.eq_of_beq_eq_true hlen
  split at hk
  · exact hk.elim
  rename_i hone
  have hrun : ∀ {R : Run} {ρ : Env} {M : Mem} {a : Act} {w : World} (h : Sim X R ρ M st a w) {g off : Nat} {cur : Array Value} {E : TypeId}, a.eval p = .pointer (some ⟨g, off, none⟩) → w.heap[g]? = some (.cells cur E (0, 0)) → off + vs.length ≤ cur.size →
      (execOp a.eval o).run X.P w = .ok .skip (w.setRow g (cur.toList.take off ++ (a.eval x).cells.toList ++ cur.toList.drop (off + vs.length)).toArray) := by
    intro R ρ M a w h g off cur E hp hg hoff
    obtain ⟨h1, h2⟩ := AV.cells_den (h.ev x) hvs
    have hst := run_storeCells_at X.P g off E (a.eval x).cells.toList 0 cur w hg (by simp; omega) (fun v hv => by
      obtain ⟨i, hi⟩ := List.getElem?_of_mem hv
      have hlt : i < vs.length := by
        have := (List.getElem?_eq_some_iff.1 hi).1
        simp at this; omega
      exact AV.one_den (onesA_at hone i _ (List.getElem?_eq_getElem hlt)) (h2 i _ v (List.getElem?_eq_getElem hlt) (by simpa using hi)))
    have hsz2 : (a.eval x).cells.size = inf.size := by omega
    unfold execOp
    simp only [ho, Instr.storeAt, Instr.sureAddr, hp, storeVar, Sem.run_bind, Sem.run_pure, Result.andThen_ok, run_sizeOf hinf, hsz2, ne_eq, not_true_eq_false, if_false, hst]
    simp [h1]
  split at hk
  · rename_i r off hp
    split at hk
    · rename_i E cs he
      split at hk
      · rename_i hle
        have hle := Nat.le_of_ble_eq_true hle
        refine ⟨r, _, hk, fun e => (by cases e), fun e q h => (by cases h), true, fun _ => (by intro e; cases e), fun _ => ⟨r, _, rfl, he, rfl⟩, fun R ρ M a w h K' Q hK' => ?_⟩
        obtain ⟨g, hg, hv⟩ := ptr_of (hp ▸ h.ev p)
        obtain ⟨g', cur, hg', hh, hl, hc⟩ := h.ents r _ he
        rw [hg] at hg'; cases hg'
        obtain ⟨h1, h2⟩ := AV.cells_den (h.ev x) hvs
        have hr := hrun h hv hh (by omega)
        have hl2 : off + (a.eval x).cells.toList.length ≤ cur.toList.length := by simp; omega
        have hok : EntOk ρ M (w.setRow g (cur.toList.take off ++ (a.eval x).cells.toList ++ cur.toList.drop (off + vs.length)).toArray) r (.blk E (cs.take off ++ vs ++ cs.drop (off + vs.length))) :=
          ⟨g, _, hg, setRow_heap w g cur _ E (0, 0) hh, by rw [seg_len hle]; simp; omega, fun i c v hi hv2 => by
            rw [seg_at hle] at hi
            have hv3 : (cur.toList.take off ++ (a.eval x).cells.toList ++ cur.toList.drop (off + (a.eval x).cells.toList.length))[i]? = some v := by
              have e : (a.eval x).cells.toList.length = vs.length := by simp; omega
              rw [e]; simpa using hv2
            rw [seg_at hl2] at hv3
            have e : (a.eval x).cells.toList.length = vs.length := by simp; omega
            rw [e] at hv3
            split at hi
            · rename_i hin
              rw [if_pos hin] at hv3
              exact h2 _ c v hi (by simpa using hv3)
            · rename_i hin
              rw [if_neg hin] at hv3
              exact hc _ c v hi (by simpa using hv3)⟩
        unfold Oper.wp
        rw [hr]
        exact hK' undef ρ M _ (FExt.store hg hok)
      · exact hk.elim
    · exact hk.elim
  · rename_i r s k j hp
    split at hk
    · rename_i E s' N f he
      split at hk
      · exact hk.elim
      rename_i hs
      obtain rfl := Nat.eq_of_beq_eq_true hs
      split at hk
      · exact hk.elim
      rename_i ds hds
      split at hk
      · rename_i hle
        have hle := Nat.le_of_ble_eq_true hle
        obtain ⟨hkn, hk⟩ := hk
        refine ⟨r, _, hk, fun e => (by cases e), fun e q h => (by cases h), true, fun _ => (by intro e; cases e), fun _ => ⟨r, _, rfl, he, rfl⟩, fun R ρ M a w h K' Q hK' => ?_⟩
        obtain ⟨g, hg, hv⟩ := rptr_of (hp ▸ h.ev p)
        obtain ⟨xs, ⟨hxl, how⟩, hf⟩ := h.ents r _ he
        obtain ⟨h1, h2⟩ := AV.cells_den (h.ev x) hvs
        obtain ⟨hd1, hd2⟩ := mapD_at hds
        rcases how with ⟨hn1, hn2⟩ | ⟨g', cap, cur, hsl, _, hh, hnc, hcm, hcs, htake⟩
        · rw [hg] at hn1; simp [addrOf] at hn1
        · rw [hg] at hsl
          simp [addrOf] at hsl
          obtain ⟨rfl, hcap⟩ := hsl
          have hin : k * s + j + vs.length ≤ N * s := by
            have : (k + 1) * s ≤ N * s := Nat.mul_le_mul_right s hkn
            rw [Nat.add_mul, Nat.one_mul] at this
            omega
          have hNc : N * s ≤ cap * s := Nat.mul_le_mul_right s hnc
          have hr := hrun h hv hh (by omega)
          have e : (a.eval x).cells.toList.length = vs.length := by simp; omega
          have hl2 : (k * s + j) + (a.eval x).cells.toList.length ≤ cur.toList.length := by simp; omega
          have hok : EntOk ρ M (w.setRow g (cur.toList.take (k * s + j) ++ (a.eval x).cells.toList ++ cur.toList.drop (k * s + j + vs.length)).toArray) r (.row E s N (setF f k j ds)) → o.wp X.P a w K' Q := fun hok => by
            unfold Oper.wp
            rw [hr]
            exact hK' undef ρ M _ (FExt.store hg hok)
          refine hok ⟨_, ⟨?_, .inr ⟨g, cap, _, by rw [hg, hcap]; rfl, Nat.zero_le _, setRow_heap w g cur _ E (0, 0) hh, hnc, hcm, ?_, rfl⟩⟩, ?_⟩
          · simp; omega
          · have := seg_len hl2
            rw [e] at this
            simp at this ⊢
            omega
          · intro i hi j' hj'
            have hij : i * s + j' < N * s := by
              have : (i + 1) * s ≤ N * s := Nat.mul_le_mul_right s hi
              rw [Nat.add_mul, Nat.one_mul] at this
              omega
            have hget : ((cur.toList.take (k * s + j) ++ (a.eval x).cells.toList ++ cur.toList.drop (k * s + j + vs.length)).toArray.toList.take (N * s))[i * s + j']? = if k * s + j ≤ i * s + j' ∧ i * s + j' < k * s + j + vs.length then (a.eval x).cells.toList[i * s + j' - (k * s + j)]? else cur.toList[i * s + j']? := by
              rw [List.getElem?_take, if_pos hij]
              have := seg_at (i := i * s + j') hl2
              rw [e] at this
              exact this
            have hwhere : (k * s + j ≤ i * s + j' ∧ i * s + j' < k * s + j + vs.length) ↔ (i = k ∧ j ≤ j' ∧ j' < j + vs.length) := by
              constructor
              · intro ⟨q1, q2⟩
                have : i = k := by
                  rcases Nat.lt_trichotomy i k with hlt | heq | hgt
                  · have : (i + 1) * s ≤ k * s := Nat.mul_le_mul_right s hlt
                    rw [Nat.add_mul, Nat.one_mul] at this
                    omega
                  · exact heq
                  · have : (k + 1) * s ≤ i * s := Nat.mul_le_mul_right s hgt
                    rw [Nat.add_mul, Nat.one_mul] at this
                    omega
                subst this
                exact ⟨rfl, by omega, by omega⟩
              · rintro ⟨rfl, q1, q2⟩
                exact ⟨by omega, by omega⟩
            rw [hget]
            rw [setF_eq]
            by_cases hc : i = k ∧ j ≤ j' ∧ j' < j + vs.length
            · rw [if_pos (hwhere.2 hc), if_pos (by rw [hd1]; exact hc)]
              obtain ⟨rfl, q1, q2⟩ := hc
              have hlt : j' - j < vs.length := by omega
              have e3 : i * s + j' - (i * s + j) = j' - j := by omega
              rw [e3]
              obtain ⟨d', e1, e2⟩ := hd2 _ _ (List.getElem?_eq_getElem hlt)
              have hlt2 : j' - j < (a.eval x).cells.size := by omega
              have hval : (a.eval x).cells[j' - j]? = some (a.eval x).cells[j' - j] := Array.getElem?_eq_getElem hlt2
              obtain ⟨e4, e5⟩ := AV.toD_den e2 (h2 _ _ _ (List.getElem?_eq_getElem hlt) hval)
              refine ⟨_, by simpa using hval, ?_, e5⟩
              rw [List.getD_eq_getElem?_getD, e1]
              exact e4
            · rw [if_neg (fun hq => hc (hwhere.1 hq)), if_neg (by rw [hd1]; exact hc)]
              obtain ⟨u, hu1, hu2, hu3⟩ := hf i hi j' hj'
              rw [← htake, List.getElem?_take, if_pos hij] at hu1
              exact ⟨u, hu1, hu2, hu3⟩
      · exact hk.elim
    · exact hk.elim
  · exact hk.elim


theorem s_appendX (hX : X.ok) {t : TypeId} {x y : Operand} (ho : o.op = .call { callee := .builtin .append, args := #[x, y], argTypes := #[t, t] }) {K : Nat → AV → Ent → Prop} (hk : apX X st o.dst t x y K) : ∃ r c e, K r c e ∧ FStep X st o (some r) ⟨c, some (e, true)⟩ := by
  unfold apX at hk
  split at hk
  · exact hk.elim
  rename_i dt hd
  split at hk
  · rename_i E es eb ez sz z hti
    obtain ⟨_, _, hu, ie, hie, hsz, hby, hz⟩ := hX t _ hti
    split at hk
    · exact hk.elim
    rename_i hzs
    have hzs := Nat.eq_of_beq_eq_true hzs
    split at hk
    · exact hk.elim
    rename_i hes
    have hes := Nat.le_of_ble_eq_true hes
    split at hk
    · rename_i r s k hx
      split at hk
      · exact hk.elim
      rename_i hss
      obtain rfl := Nat.eq_of_beq_eq_true hss
      split at hk
      · rename_i E' s' N f he
        split at hk
        · exact hk.elim
        rename_i hE
        obtain rfl := Nat.eq_of_beq_eq_true hE
        split at hk
        · exact hk.elim
        rename_i hs'
        obtain rfl := Nat.eq_of_beq_eq_true hs'
        split at hk
        · exact hk.elim
        rename_i hkp
        obtain ⟨m, g, ⟨⟨rfl, hb1, hb2⟩, hK⟩, hsrc'⟩ := srcX hk
        refine ⟨r, _, _, hK, fun e => (by cases e), fun e q _ hq => by cases hq; exact .inl hkp, true, fun _ => (by intro e; cases e), fun _ => ⟨r, _, rfl, he, rfl⟩, fun R ρ M a w h K' Q hK' => ?_⟩
        have hsrc := hsrc' R ρ M a w h
        have hv := own_of (hx ▸ h.ev x)
        rw [partOf_zero, Nat.sub_zero] at hv
        obtain ⟨xs, hown, hf⟩ := h.ents r _ he
        obtain ⟨b', cap', w', ys, hrun, hgr, hbb, how, hys⟩ := run_append (ty := o.type) hu hie hsz hby hz hzs hes hown hf hsrc hb1 hb2
        have hfx := FExt.grow (dr := X.dr) (d := o.dst) (r := r) (lo := true) (ob := (ρ r).1) (M := M) (ρ := ρ) (s := es) (n := k + m) (E := E) (f := catF k f g) h.pub (fun g hg => ⟨rfl, hg⟩) hgr hbb (how) hys (run_drawn hrun)
        refine wp_val (v := .slice (addrOf b') (k + m) cap') (w' := w') ?_ (hK' _ _ _ _ hfx)
        unfold execOp
        simp only [ho, resolve, invoke, builtin, Sem.run_bind, Sem.run_pure, Result.andThen_ok, List.map_toArray, List.map_cons, List.map_nil, hv, hrun]
      · exact hk.elim
    · rename_i hx
      obtain ⟨m, g, ⟨⟨hb1, hb2⟩, hK⟩, hsrc'⟩ := srcX hk
      refine ⟨dt, _, _, hK, fun e => (by cases e), fun e q _ hq => by cases hq; exact .inr hd, false, fun h => (by cases h), fun h => (by cases h), fun R ρ M a w h K' Q hK' => ?_⟩
      have hsrc := hsrc' R ρ M a w h
      have hv := val_of (hx ▸ h.ev x)
      obtain ⟨b', cap', w', ys, hrun, hgr, hbb, how, hys⟩ := run_append (ty := o.type) (b := none) (cap := 0) (f := fun _ _ => .val undef) hu hie hsz hby hz hzs hes (World.ownsRow_nil w 0 E es) (fun i hi => absurd hi (by omega)) hsrc (by rw [Nat.zero_add]; exact hb1) (by omega)
      rw [Nat.zero_add] at how hys hrun
      have hfx := FExt.grow (dr := X.dr) (d := o.dst) (r := dt) (lo := false) (ob := none) (M := M) (ρ := ρ) (s := es) (n := m) (E := E) (f := g) h.pub (fun g hg => by cases hg) hgr hbb (how) (fun i hi j hj => by
        obtain ⟨u, e1, e2, e3⟩ := hys i hi j hj
        exact ⟨u, e1, by simpa [catF] using e2, e3⟩) (run_drawn hrun)
      refine wp_val (v := .slice (addrOf b') m cap') (w' := w') ?_ (hK' _ _ _ _ hfx)
      have hrun' : (Builtin.append_ #[t, t] o.type #[.slice none 0 0, a.eval y]).run X.P w = .ok (.slice (addrOf b') m cap') w' := hrun
      unfold execOp
      simp only [ho, resolve, invoke, builtin, Sem.run_bind, Sem.run_pure, Result.andThen_ok, List.map_toArray, List.map_cons, List.map_nil, hv, hrun']
    · exact hk.elim
  · exact hk.elim


end
end Go.Proofs.Ytoeghejbgibioaa

namespace Go.Proofs.Ytoeghejbgibioaa
open Go Go.RowKit
set_option linter.unusedVariables false
set_option linter.unusedSimpArgs false
set_option linter.unnecessarySimpa false

inductive Md where
  | app
  | skip
  | kill
abbrev DR := Option Nat × Option Nat
def softX (x : Fx) : Fx := match x.e with
  | none => ⟨.junk, none⟩
  | some (_, b) => ⟨.junk, some (.dead, b)⟩
def vw (md : Nat → Md) : List DR → List Fx → Nat → St → St
  | [], _, _, st => st
  | (d, r) :: l, xs, k, st => match md k with
    | .app => match xs with
      | x :: xs' => vw md l xs' (k + 1) (fxD d r x st)
      | [] => vw md l [] (k + 1) (killD d r st)
    | .kill => match xs with
      | x :: xs' => vw md l xs' (k + 1) (fxD d r (softX x) st)
      | [] => vw md l [] (k + 1) (killD d r st)
    | .skip => vw md l xs.tail (k + 1) st
def vwF (md : Nat → Md) : List DR → List Fx → Nat → SF → SF
  | [], _, _, s => s
  | (d, r) :: l, xs, k, s => match md k with
    | .app => match xs with
      | x :: xs' => vwF md l xs' (k + 1) (fxF d r x s)
      | [] => vwF md l [] (k + 1) (killF d r s)
    | .kill => match xs with
      | x :: xs' => vwF md l xs' (k + 1) (fxF d r (softX x) s)
      | [] => vwF md l [] (k + 1) (killF d r s)
    | .skip => vwF md l xs.tail (k + 1) s
theorem sf_vw (md : Nat → Md) : ∀ (l : List DR) (xs : List Fx) (k : Nat) (st : St), (vw md l xs k st).sf = vwF md l xs k st.sf
  | [], _, _, _ => rfl
  | (d, r) :: l, xs, k, st => by
    simp only [vw, vwF]
    cases md k with
    | app =>
      cases xs with
      | nil => show (vw md l [] (k + 1) (killD d r st)).sf = _; rw [sf_vw md l, sf_killD]
      | cons x xs' => show (vw md l xs' (k + 1) (fxD d r x st)).sf = _; rw [sf_vw md l, sf_fxD]
    | kill =>
      cases xs with
      | nil => show (vw md l [] (k + 1) (killD d r st)).sf = _; rw [sf_vw md l, sf_killD]
      | cons x xs' => show (vw md l xs' (k + 1) (fxD d r (softX x) st)).sf = _; rw [sf_vw md l, sf_fxD]
    | skip => exact sf_vw md l xs.tail (k + 1) st

def XLe : List Fx → List Fx → Prop
  | _, [] => True
  | [], _ :: _ => False
  | x :: xs, y :: ys => (SLe x.c y.c ∧ x.e = y.e) ∧ XLe xs ys
theorem XLe.nil (xs : List Fx) : XLe xs [] := by cases xs <;> trivial
theorem XLe.refl : ∀ l : List Fx, XLe l l
  | [] => trivial
  | x :: l => ⟨⟨SLe.refl _, rfl⟩, XLe.refl l⟩
theorem XLe.app (l m : List Fx) : XLe (l ++ m) l := by
  induction l with
  | nil => cases m <;> trivial
  | cons e l ih => exact ⟨⟨SLe.refl _, rfl⟩, ih⟩
theorem XLe.tail {xs ys : List Fx} (h : XLe xs ys) : XLe xs.tail ys.tail := by
  cases ys with
  | nil => exact XLe.nil _
  | cons y ys =>
    cases xs with
    | nil => exact h.elim
    | cons x xs => exact h.2
theorem XLe.set {es : List Fx} {j : Nat} {c c' : AV} {eo : Option (Ent × Bool)} (hj : es[j]? = some ⟨c, eo⟩) (hc : SLe c' c) : XLe (es.set j ⟨c', eo⟩) es := by
  induction es generalizing j with
  | nil => simp at hj
  | cons e l ih =>
    cases j with
    | zero => simp at hj; subst hj; exact ⟨⟨hc, rfl⟩, XLe.refl l⟩
    | succ j => exact ⟨⟨SLe.refl _, rfl⟩, ih (by simpa using hj)⟩

theorem killF_fx (d r : Option Nat) (s : SF) : killF d r s = fxF d r ⟨.junk, r.map fun _ => (.dead, true)⟩ s := by cases r <;> rfl
theorem Wk.kill {s s' : SF} (h : Wk s s') (d r : Option Nat) : Wk (killF d r s) (killF d r s') := by
  rw [killF_fx, killF_fx]
  exact h.fx d r (SLe.refl _) rfl
theorem softX_e (x : Fx) {y : Fx} (h : x.e = y.e) : softX x = softX y := by unfold softX; rw [h]
theorem Wk.fx_soft {s s' : SF} (h : Wk s s') (d r : Option Nat) (x : Fx) : Wk (fxF d r x s) (fxF d r (softX x) s') := by
  obtain ⟨c, e⟩ := x
  cases e with
  | none => exact h.fx d r (.inl rfl) rfl
  | some q =>
    obtain ⟨e, b⟩ := q
    have H := h.fx d r (x := ⟨c, some (e, b)⟩) (x' := ⟨.junk, some (e, b)⟩) (.inl rfl) rfl
    cases r with
    | none => exact H
    | some r =>
      cases b with
      | true =>
        refine ⟨H.g, fun k q hq => ?_⟩
        have hq' : (if r = k then some Ent.dead else (s'.h k).map (Ent.junkR r)) = some q := hq
        by_cases hk : r = k
        · rw [if_pos hk] at hq'; cases hq'; exact .inl rfl
        · rw [if_neg hk] at hq'
          exact H.h k q (by show (if r = k then some e else (s'.h k).map (Ent.junkR r)) = some q; rw [if_neg hk]; exact hq')
      | false =>
        refine ⟨H.g, fun k q hq => ?_⟩
        have hq' : (if r = k then some Ent.dead else s'.h k) = some q := hq
        by_cases hk : r = k
        · rw [if_pos hk] at hq'; cases hq'; exact .inl rfl
        · rw [if_neg hk] at hq'
          exact H.h k q (by show (if r = k then some e else s'.h k) = some q; rw [if_neg hk]; exact hq')
theorem Wk.skip_soft {s s' : SF} (h : Wk s s') (d r : Option Nat) (x : Fx) : Wk s (fxF d r (softX x) s') := by
  obtain ⟨c, e⟩ := x
  have hsl : ∀ t, SLe (s.g t) (slotF d .junk s'.g t) := fun t => by
    cases d with
    | none => exact h.g t
    | some u =>
      show SLe (s.g t) (if u = t then .junk else s'.g t)
      split
      · exact .inl rfl
      · exact h.g t
  cases e with
  | none => cases r <;> exact ⟨hsl, h.h⟩
  | some q =>
    obtain ⟨e, b⟩ := q
    cases r with
    | none => exact ⟨hsl, h.h⟩
    | some r =>
      cases b with
      | true => exact h.skip_kill d (some r)
      | false =>
        refine ⟨hsl, fun k q hq => ?_⟩
        have hq' : (if r = k then some Ent.dead else s'.h k) = some q := hq
        by_cases hk : r = k
        · rw [if_pos hk] at hq'; cases hq'; exact .inl rfl
        · rw [if_neg hk] at hq'; exact h.h k q hq'
theorem vwF_wk {m1 m2 : Nat → Md} : ∀ (l : List DR) (xs ys : List Fx) (k : Nat) (s s' : SF), (∀ j, k ≤ j → j < k + l.length → (m2 j = .app → m1 j = .app) ∧ (m2 j = .skip → m1 j = .skip)) → XLe xs ys → Wk s s' → Wk (vwF m1 l xs k s) (vwF m2 l ys k s')
  | [], _, _, _, _, _, _, _, h => h
  | (d, r) :: l, xs, ys, k, s, s', hm, hx, hw => by
    have hm' : ∀ j, k + 1 ≤ j → j < k + 1 + l.length → (m2 j = .app → m1 j = .app) ∧ (m2 j = .skip → m1 j = .skip) := fun j h1 h2 => hm j (by omega) (by simp; omega)
    obtain ⟨ha, hs⟩ := hm k (Nat.le_refl _) (by simp)
    simp only [vwF]
    cases h2 : m2 k with
    | app =>
      rw [ha h2]
      cases ys with
      | nil =>
        cases xs with
        | nil => exact vwF_wk l [] [] (k + 1) _ _ hm' trivial (hw.kill d r)
        | cons x xs' => exact vwF_wk l xs' [] (k + 1) _ _ hm' (by cases xs' <;> trivial) (hw.fx_kill d r x)
      | cons y ys' =>
        cases xs with
        | nil => exact hx.elim
        | cons x xs' => exact vwF_wk l xs' ys' (k + 1) _ _ hm' hx.2 (hw.fx d r hx.1.1 hx.1.2)
    | skip =>
      rw [hs h2]
      exact vwF_wk l xs.tail ys.tail (k + 1) _ _ hm' hx.tail hw
    | kill =>
      cases ys with
      | nil =>
        cases h1 : m1 k with
        | app =>
          cases xs with
          | nil => exact vwF_wk l [] [] (k + 1) _ _ hm' trivial (hw.kill d r)
          | cons x xs' => exact vwF_wk l xs' [] (k + 1) _ _ hm' (by cases xs' <;> trivial) (hw.fx_kill d r x)
        | kill =>
          cases xs with
          | nil => exact vwF_wk l [] [] (k + 1) _ _ hm' trivial (hw.kill d r)
          | cons x xs' => exact vwF_wk l xs' [] (k + 1) _ _ hm' (by cases xs' <;> trivial) (hw.fx_kill d r (softX x))
        | skip => exact vwF_wk l xs.tail [] (k + 1) _ _ hm' hx.tail (hw.skip_kill d r)
      | cons y ys' =>
        cases xs with
        | nil => exact hx.elim
        | cons x xs' =>
          have he : softX x = softX y := softX_e x hx.1.2
          cases h1 : m1 k with
          | app => exact vwF_wk l xs' ys' (k + 1) _ _ hm' hx.2 (by rw [← he]; exact hw.fx_soft d r x)
          | kill => exact vwF_wk l xs' ys' (k + 1) _ _ hm' hx.2 (by rw [← he]; exact hw.fx d r (SLe.refl _) rfl)
          | skip => exact vwF_wk l xs' ys' (k + 1) _ _ hm' hx.2 (hw.skip_soft d r y)
theorem vw_wk {m1 m2 : Nat → Md} (l : List DR) (xs ys : List Fx) (st : St) (hm : ∀ j, j < l.length → (m2 j = .app → m1 j = .app) ∧ (m2 j = .skip → m1 j = .skip)) (hx : XLe xs ys) : Wk (vw m1 l xs 0 st).sf (vw m2 l ys 0 st).sf := by
  rw [sf_vw, sf_vw]
  exact vwF_wk l xs ys 0 _ _ (fun j _ h => hm j (by simpa using h)) hx (Wk.refl _)

def mdI (ms : List Nat) (i k : Nat) : Md := match (ms.getD i 0).testBit k with
  | true => .app
  | false => match Nat.beq k i with
    | true => .skip
    | false => match (ms.getD k 0).testBit i with
      | true => .skip
      | false => .kill
def mdL (listed : Array Bool) (k : Nat) : Md := match listed.getD k false with
  | true => .app
  | false => .skip

theorem vwF_past {listed : Array Bool} {d r : Option Nat} {x : Fx} : ∀ (l : List DR) (xs : List Fx) (k : Nat) (s : SF), (∀ (j : Nat) (d' r' : Option Nat) (x' : Fx), l[j]? = some (d', r') → xs[j]? = some x' → listed.getD (k + j) false = true → apartFx d r x d' r' x' = true) → l.length ≤ xs.length →
    vwF (mdL listed) l xs k (fxF d r x s) = fxF d r x (vwF (mdL listed) l xs k s)
  | [], _, _, _, _, _ => rfl
  | (d', r') :: l, [], k, s, _, hl => by simp at hl
  | (d', r') :: l, x' :: xs, k, s, h, hl => by
    have h' : ∀ (j : Nat) (d'' r'' : Option Nat) (x'' : Fx), l[j]? = some (d'', r'') → xs[j]? = some x'' → listed.getD (k + 1 + j) false = true → apartFx d r x d'' r'' x'' = true := fun j d'' r'' x'' h1 h2 h3 => h (j + 1) d'' r'' x'' (by simpa using h1) (by simpa using h2) (by rw [show k + (j + 1) = k + 1 + j by omega]; exact h3)
    have hl' : l.length ≤ xs.length := by simpa using hl
    simp only [vwF]
    cases hk : listed.getD k false with
    | true =>
      have hmd : mdL listed k = .app := by unfold mdL; rw [hk]
      rw [hmd]
      show vwF (mdL listed) l xs (k + 1) (fxF d' r' x' (fxF d r x s)) = fxF d r x (vwF (mdL listed) l xs (k + 1) (fxF d' r' x' s))
      rw [← fx_comm (h 0 d' r' x' rfl rfl (by simpa using hk)) s]
      exact vwF_past l xs (k + 1) _ h' hl'
    | false =>
      have hmd : mdL listed k = .skip := by unfold mdL; rw [hk]
      rw [hmd]
      exact vwF_past l xs (k + 1) s h' hl'
theorem vwF_set {listed : Array Bool} {i : Nat} (hi : i < listed.size) (hun : listed.getD i false = false) : ∀ (l : List DR) (xs : List Fx) (k : Nat) (s : SF) (d r : Option Nat) (x : Fx), k ≤ i → l[i - k]? = some (d, r) → xs[i - k]? = some x → l.length ≤ xs.length →
    (∀ (j : Nat) (d' r' : Option Nat) (x' : Fx), i < k + j → l[j]? = some (d', r') → xs[j]? = some x' → listed.getD (k + j) false = true → apartFx d r x d' r' x' = true) →
    vwF (mdL (listed.setIfInBounds i true)) l xs k s = fxF d r x (vwF (mdL listed) l xs k s)
  | [], _, _, _, _, _, _, _, h, _, _, _ => by simp at h
  | (d', r') :: l, [], k, s, d, r, x, _, _, h, _, _ => by simp at h
  | (d', r') :: l, x' :: xs, k, s, d, r, x, hk, hl, hx, hlen, hap => by
    by_cases hki : k = i
    · subst hki
      simp at hl hx
      obtain ⟨rfl, rfl⟩ := hl
      subst hx
      have h1 : mdL (listed.setIfInBounds k true) k = .app := by unfold mdL; simp [hi]
      have h2 : mdL listed k = .skip := by unfold mdL; rw [hun]
      simp only [vwF, h1, h2]
      have hsame : ∀ (l : List DR) (xs : List Fx) (j : Nat) (s : SF), k < j → vwF (mdL (listed.setIfInBounds k true)) l xs j s = vwF (mdL listed) l xs j s := by
        intro l
        induction l with
        | nil => intro _ _ _ _; rfl
        | cons q l ih =>
          intro xs j s hj
          obtain ⟨d'', r''⟩ := q
          have hm : mdL (listed.setIfInBounds k true) j = mdL listed j := by
            unfold mdL
            rw [getD_set_ne false (by omega)]
          simp only [vwF, hm]
          cases mdL listed j with
          | app => cases xs <;> exact ih _ (j + 1) _ (by omega)
          | kill => cases xs <;> exact ih _ (j + 1) _ (by omega)
          | skip => exact ih _ (j + 1) _ (by omega)
      rw [hsame l xs (k + 1) _ (by omega)]
      exact vwF_past l xs (k + 1) s (fun j d'' r'' x'' h1 h2 h3 => hap (j + 1) d'' r'' x'' (by omega) (by simpa using h1) (by simpa using h2) (by rw [show k + (j + 1) = k + 1 + j by omega]; exact h3)) (by simpa using hlen)
    · have hm : mdL (listed.setIfInBounds i true) k = mdL listed k := by
        unfold mdL
        rw [getD_set_ne false (fun e => hki e.symm)]
      have e1 : i - k = (i - (k + 1)) + 1 := by omega
      rw [e1] at hl hx
      have ih := fun s => vwF_set hi hun l xs (k + 1) s d r x (by omega) (by simpa using hl) (by simpa using hx) (by simpa using hlen) (fun j d'' r'' x'' h0 h1 h2 h3 => hap (j + 1) d'' r'' x'' (by omega) (by simpa using h1) (by simpa using h2) (by rw [show k + (j + 1) = k + 1 + j by omega]; exact h3))
      simp only [vwF, hm]
      cases mdL listed k with
      | app => exact ih _
      | kill => exact ih _
      | skip => exact ih _

structure CallK (X : Cx) (st : St) (d : Option Nat) (f : FuncId) (cs : List AV) (K : Option Nat → Fx → Prop) : Prop where
  ex : ∃ r x, (∀ (o : Oper), CallOp X st o f cs → o.dst = d → FStep X st o r x) ∧ K r x
theorem CallK.by {X : Cx} {st : St} {d : Option Nat} {f : FuncId} {cs : List AV} {K : Option Nat → Fx → Prop} {r : AV} (h : CallA X st f cs r) (hk : K none ⟨r, none⟩) : CallK X st d f cs K :=
  ⟨none, ⟨r, none⟩, fun o hop hd => FStep.quiet (ne := none) (.inl rfl) (h.out o hop), hk⟩

def neK (d : Option Nat) (c : AV) (ne : Option Ent) (K : Option Nat → Fx → Prop) : Prop := match ne with
  | none => K none ⟨c, none⟩
  | some e => match d with
    | none => False
    | some t => K (some t) ⟨c, some (e, true)⟩
def exX (X : Cx) (st : St) (o : Oper) (K : Option Nat → Fx → Prop) : Prop := match o.op with
  | .store t p x => match o.dst with
    | none => stX X st t p x fun r e => K (some r) ⟨.junk, some (e, false)⟩
    | some _ => False
  | .mapUpdate t m i x => match o.dst with
    | none => mpX X st t m i x fun r e => K (some r) ⟨.junk, some (e, false)⟩
    | some _ => False
  | .call c => match c with
    | ⟨.value cl, args, _⟩ => match st.ev X cl with
      | .dat (.val (.func (.func f) ⟨[]⟩ ⟨[]⟩)) => CallK X st o.dst f (args.toList.map (st.ev X)) K
      | .clo f ds => CallK X st o.dst f (args.toList.map (st.ev X) ++ ds) K
      | _ => False
    | ⟨.builtin .append, ⟨[x, y]⟩, ⟨[t, t']⟩⟩ => match Nat.beq t t' with
      | true => apX X st o.dst t x y fun r c e => K (some r) ⟨c, some (e, true)⟩
      | false => False
    | _ => (evq X st o).to fun c ne => neK o.dst c ne K
  | _ => (evq X st o).to fun c ne => neK o.dst c ne K
theorem exq_x {X : Cx} (hX : X.ok) {st : St} {o : Oper} {K : Option Nat → Fx → Prop} (h : (evq X st o).to fun c ne => neK o.dst c ne K) : ∃ r x, K r x ∧ FStep X st o r x := by
  obtain ⟨c, ne, h1, h2⟩ := Res.to_sound (evq_sound hX) h
  unfold neK at h1
  split at h1
  · exact ⟨_, _, h1, FStep.quiet (ne := none) (.inl rfl) h2⟩
  · rename_i e
    split at h1
    · exact h1.elim
    · rename_i t ht
      have := FStep.quiet (ne := some e) (.inr (by rw [ht]; simp)) h2
      refine ⟨_, _, h1, ?_⟩
      have e1 : neR o.dst (some e) = some t := ht
      rw [e1] at this
      exact this
theorem exX_ok {X : Cx} (hX : X.ok) {st : St} {o : Oper} {K : Option Nat → Fx → Prop} (h : exX X st o K) : ∃ r x, K r x ∧ FStep X st o r x := by
  unfold exX at h
  split at h
  · rename_i ho
    split at h
    · rename_i hd
      obtain ⟨r, e, h1, h2⟩ := s_storeX hX ho hd h
      exact ⟨_, _, h1, h2⟩
    · exact h.elim
  · rename_i ho
    split at h
    · rename_i hd
      obtain ⟨r, e, h1, h2⟩ := s_mapX hX ho hd h
      exact ⟨_, _, h1, h2⟩
    · exact h.elim
  · rename_i ho
    split at h
    · split at h
      · rename_i hcl
        obtain ⟨r, x, h1, h2⟩ := h.ex
        exact ⟨r, x, h2, h1 o (CallOp.of ho hcl) rfl⟩
      · rename_i hcl
        obtain ⟨r, x, h1, h2⟩ := h.ex
        exact ⟨r, x, h2, h1 o (CallOp.clo ho hcl) rfl⟩
      · exact h.elim
    · split at h
      · rename_i hb
        obtain rfl := Nat.eq_of_beq_eq_true hb
        obtain ⟨r, c, e, h1, h2⟩ := s_appendX hX ho h
        exact ⟨_, _, h1, h2⟩
      · exact h.elim
    · exact exq_x hX h
  · exact exq_x hX h

def eqO : Option Nat → Option Nat → Bool
  | none, none => true
  | some a, some b => Nat.beq a b
  | _, _ => false
theorem eqO_eq {a b : Option Nat} (h : eqO a b = true) : a = b := by
  cases a <;> cases b <;> first | rfl | (cases h) | exact congrArg some (Nat.eq_of_beq_eq_true h)
def forceX (x : Fx) (K : Fx → Prop) : Prop := match x with
  | ⟨c, eo⟩ => force c fun c => match eo with
    | none => K ⟨c, none⟩
    | some (e, b) => forceE e fun e => K ⟨c, some (e, b)⟩
theorem forceX_eq (x : Fx) (K : Fx → Prop) : forceX x K = K x := by
  obtain ⟨c, eo⟩ := x
  unfold forceX
  simp only [force_eq]
  cases eo with
  | none => rfl
  | some q => obtain ⟨e, b⟩ := q; exact forceE_eq e _

def gdS (c : AV) (b : Bool) (yes no : Prop) : Prop := match c with
  | .tt => match b with
    | true => yes
    | false => no
  | .ff => match b with
    | true => no
    | false => yes
  | .dat (.val (.tuple _)) => no
  | _ => False
def snocK (l : List Fx) (x : Fx) (K : List Fx → Prop) : Prop := match l with
  | [] => K [x]
  | y :: l => snocK l x fun l' => K (y :: l')
theorem snocK_eq : ∀ (l : List Fx) (x : Fx) (K : List Fx → Prop), snocK l x K = K (l ++ [x])
  | [], x, K => rfl
  | y :: l, x, K => snocK_eq l x _
def setK (l : List Fx) (j : Nat) (x : Fx) (K : List Fx → Prop) : Prop := match l with
  | [] => K []
  | y :: l => match j with
    | 0 => K (x :: l)
    | j + 1 => setK l j x fun l' => K (y :: l')
theorem setK_eq : ∀ (l : List Fx) (j : Nat) (x : Fx) (K : List Fx → Prop), setK l j x K = K (l.set j x)
  | [], j, x, K => rfl
  | y :: l, 0, x, K => rfl
  | y :: l, j + 1, x, K => setK_eq l j x _
def vwE (m i : Nat) : List DR → List Nat → List Fx → Nat → St → St
  | [], _, _, _, st => st
  | (d, r) :: l, ms, xs, k, st => match m.testBit k with
    | true => match xs with
      | x :: xs' => vwE m i l ms.tail xs' (k + 1) (fxD d r x st)
      | [] => vwE m i l ms.tail [] (k + 1) (killD d r st)
    | false => match Nat.beq k i with
      | true => vwE m i l ms.tail xs.tail (k + 1) st
      | false => match (ms.headD 0).testBit i with
        | true => vwE m i l ms.tail xs.tail (k + 1) st
        | false => match xs with
          | x :: xs' => vwE m i l ms.tail xs' (k + 1) (fxD d r (softX x) st)
          | [] => vwE m i l ms.tail [] (k + 1) (killD d r st)
theorem vwE_eq (ms0 : List Nat) (i : Nat) : ∀ (l : List DR) (xs : List Fx) (k : Nat) (st : St), vwE (ms0.getD i 0) i l (ms0.drop k) xs k st = vw (mdI ms0 i) l xs k st
  | [], _, _, _ => rfl
  | (d, r) :: l, xs, k, st => by
    have ht : (ms0.drop k).tail = ms0.drop (k + 1) := by rw [List.tail_drop]
    have hh : (ms0.drop k).headD 0 = ms0.getD k 0 := by
      rw [List.headD_eq_head?_getD, List.head?_drop, List.getD_eq_getElem?_getD]
    simp only [vwE, vw, ht, hh]
    unfold mdI
    cases (ms0.getD i 0).testBit k with
    | true => cases xs <;> exact vwE_eq ms0 i l _ (k + 1) _
    | false =>
      cases Nat.beq k i with
      | true => exact vwE_eq ms0 i l _ (k + 1) _
      | false =>
        cases (ms0.getD k 0).testBit i with
        | true => exact vwE_eq ms0 i l _ (k + 1) _
        | false => cases xs <;> exact vwE_eq ms0 i l _ (k + 1) _
def stK (s : St) (K : St → Prop) : Prop := match s with
  | ⟨fr, hp⟩ => K ⟨fr, hp⟩
def exD (X : Cx) (n : Nat) (ops : List Oper) (ms : List Nat) (drs : List DR) (st : St) : List Oper → List Nat → List DR → Nat → List Fx → (List Fx → Prop) → Prop
  | [], _, _, _, effs, K => K effs
  | _ :: _, [], _, _, _, _ => False
  | _ :: _, _ :: _, [], _, _, _ => False
  | o :: r, m :: mr, (_, ri) :: dr, i, effs, K => match o.guard with
    | none => stK (vwE m i drs ms effs 0 st) fun V => exX X V o fun rr x => match eqO rr ri with
      | true => forceX x fun x => snocK effs x fun effs' => exD X n ops ms drs st r mr dr (i + 1) effs' K
      | false => False
    | some (j, b) => match ops[j]? with
      | none => False
      | some oj => match oj.dst with
        | none => False
        | some t => stK (vwE m i drs ms effs 0 st) fun V => match V.get t with
          | .dat (.val (.bool _)) => match effs[j]? with
            | some ⟨.dat (.val (.bool e)), eo⟩ => BrK e
                (setK effs j ⟨.tt, eo⟩ fun effs => stK (vwE m i drs ms effs 0 st) fun V => gdS (V.get t) b
                  (exX X V o fun rr x => match eqO rr ri with
                    | true => forceX x fun x => snocK effs x fun effs' => exD X n ops ms drs st r mr dr (i + 1) effs' K
                    | false => False)
                  (snocK effs ⟨und, none⟩ fun effs' => exD X n ops ms drs st r mr dr (i + 1) effs' K))
                (setK effs j ⟨.ff, eo⟩ fun effs => stK (vwE m i drs ms effs 0 st) fun V => gdS (V.get t) b
                  (exX X V o fun rr x => match eqO rr ri with
                    | true => forceX x fun x => snocK effs x fun effs' => exD X n ops ms drs st r mr dr (i + 1) effs' K
                    | false => False)
                  (snocK effs ⟨und, none⟩ fun effs' => exD X n ops ms drs st r mr dr (i + 1) effs' K))
            | _ => False
          | c => gdS c b
              (exX X V o fun rr x => match eqO rr ri with
                | true => forceX x fun x => snocK effs x fun effs' => exD X n ops ms drs st r mr dr (i + 1) effs' K
                | false => False)
              (snocK effs ⟨und, none⟩ fun effs' => exD X n ops ms drs st r mr dr (i + 1) effs' K)

def StepOk (X : Cx) (n : Nat) (ops : List Oper) (ms : List Nat) (drs : List DR) (st : St) (effs : List Fx) (i : Nat) (o : Oper) (x : Fx) : Prop :=
  (FStep X (vw (mdI ms i) drs effs 0 st) o (drs.getD i (none, none)).2 x ∧ ∀ R : Run, R.n = n → ∀ ρ M a w, Sim X R ρ M (vw (mdI ms i) drs effs 0 st) a w → Region.wanted o (yielded ops.toArray a.tmps) = true) ∨
  ((x.e = none ∧ AVle und x.c) ∧ ∀ R : Run, R.n = n → ∀ ρ M a w, Sim X R ρ M (vw (mdI ms i) drs effs 0 st) a w → Region.wanted o (yielded ops.toArray a.tmps) = false)
theorem StepOk.le {X : Cx} {n : Nat} {ops : List Oper} {ms : List Nat} {drs : List DR} {st : St} {effs effs' : List Fx} {i : Nat} {o : Oper} {x : Fx} (h : StepOk X n ops ms drs st effs' i o x) (hle : XLe effs effs') : StepOk X n ops ms drs st effs i o x := by
  have hw : Wk (vw (mdI ms i) drs effs 0 st).sf (vw (mdI ms i) drs effs' 0 st).sf := vw_wk drs effs effs' st (fun j _ => ⟨id, id⟩) hle
  rcases h with ⟨h1, h2⟩ | ⟨h1, h2⟩
  · exact .inl ⟨h1.wk hw, fun R hn ρ M a w hs => h2 R hn ρ M a w (hs.wk hw)⟩
  · exact .inr ⟨h1, fun R hn ρ M a w hs => h2 R hn ρ M a w (hs.wk hw)⟩
def AllOk (X : Cx) (n : Nat) (ops : List Oper) (ms : List Nat) (drs : List DR) (st : St) (effs : List Fx) : Prop :=
  ∀ (i : Nat) (o : Oper) (x : Fx), ops[i]? = some o → effs[i]? = some x → StepOk X n ops ms drs st effs i o x
theorem AllOk.snoc {X : Cx} {n : Nat} {ops : List Oper} {ms : List Nat} {drs : List DR} {st : St} {effs : List Fx} (h : AllOk X n ops ms drs st effs) {o : Oper} {x : Fx} (ho : ops[effs.length]? = some o) (hx : StepOk X n ops ms drs st effs effs.length o x) : AllOk X n ops ms drs st (effs ++ [x]) := by
  intro i o' x' hi hei
  rcases Nat.lt_or_ge i effs.length with hlt | hge
  · rw [List.getElem?_append_left hlt] at hei
    exact (h i o' x' hi hei).le (XLe.app _ _)
  · rw [List.getElem?_append_right hge] at hei
    have : i = effs.length := by
      have := (List.getElem?_eq_some_iff.1 hei).1
      simp at this; omega
    subst this
    simp at hei
    subst hei
    rw [ho] at hi; cases hi
    exact hx.le (XLe.app _ _)
theorem AllOk.set {X : Cx} {n : Nat} {ops : List Oper} {ms : List Nat} {drs : List DR} {st : St} {effs : List Fx} (h : AllOk X n ops ms drs st effs) {j : Nat} {c c' : AV} {eo : Option (Ent × Bool)} (hj : effs[j]? = some ⟨c, eo⟩) (hc : SLe c' c) (hc' : AVle c c') (hu : AVle und c → AVle und c') : AllOk X n ops ms drs st (effs.set j ⟨c', eo⟩) := by
  intro i o x hi hx
  by_cases hij : j = i
  · subst hij
    have hlt : j < effs.length := (List.getElem?_eq_some_iff.1 hj).1
    rw [List.getElem?_set_self hlt] at hx
    cases hx
    have h1 := (h j o _ hi hj).le (XLe.set hj hc)
    rcases h1 with ⟨h2, h3⟩ | ⟨h2, h3⟩
    · exact .inl ⟨h2.le hc', h3⟩
    · exact .inr ⟨⟨h2.1, hu h2.2⟩, h3⟩
  · rw [List.getElem?_set_ne hij] at hx
    exact (h i o x hi hx).le (XLe.set hj hc)

theorem exD_ok {X : Cx} (hX : X.ok) {n : Nat} {ops : List Oper} {ms : List Nat} {drs : List DR} {st : St} {K : List Fx → Prop} : ∀ (r : List Oper) (mr : List Nat) (dr : List DR) (i : Nat) (effs : List Fx), effs.length = i → mr = ms.drop i → dr = drs.drop i → (∀ (j : Nat) (o : Oper), r[j]? = some o → ops[i + j]? = some o) → AllOk X n ops ms drs st effs → exD X n ops ms drs st r mr dr i effs K → ∃ effs', K effs' ∧ effs'.length = i + r.length ∧ AllOk X n ops ms drs st effs'
  | [], _, _, i, effs, hl, _, _, _, ha, h => ⟨effs, h, by simp [hl], ha⟩
  | _ :: _, [], _, _, _, _, _, _, _, _, h => h.elim
  | _ :: _, _ :: _, [], _, _, _, _, _, _, _, h => h.elim
  | o :: r, m :: mr, (d0, ri) :: dr, i, effs, hl, hmr, hdr, hr, ha, h => by
    have hm : ms.getD i 0 = m := by
      rw [List.getD_eq_getElem?_getD, ← List.head?_drop, ← hmr]; rfl
    have hri : (drs.getD i (none, none)).2 = ri := by
      rw [List.getD_eq_getElem?_getD, ← List.head?_drop, ← hdr]; rfl
    have hmr' : mr = ms.drop (i + 1) := by
      have := congrArg List.tail hmr
      rwa [List.tail_cons, List.tail_drop] at this
    have hdr' : dr = drs.drop (i + 1) := by
      have := congrArg List.tail hdr
      rwa [List.tail_cons, List.tail_drop] at this
    have hV : ∀ es : List Fx, vwE m i drs ms es 0 st = vw (mdI ms i) drs es 0 st := fun es => by
      have := vwE_eq ms i drs es 0 st
      rw [hm, List.drop_zero] at this
      exact this
    have ho : ∀ es : List Fx, es.length = i → ops[es.length]? = some o := fun es he => by
      have := hr 0 o rfl
      rw [he]; exact this
    have hr' : ∀ (j : Nat) (o : Oper), r[j]? = some o → ops[i + 1 + j]? = some o := fun j o' hj => by
      have := hr (j + 1) o' (by simpa using hj)
      rw [show i + 1 + j = i + (j + 1) by omega]; exact this
    have fin : ∀ {es : List Fx} {x : Fx}, es.length = i → AllOk X n ops ms drs st es → StepOk X n ops ms drs st es es.length o x → (snocK es x fun es' => exD X n ops ms drs st r mr dr (i + 1) es' K) → ∃ effs', K effs' ∧ effs'.length = i + (o :: r).length ∧ AllOk X n ops ms drs st effs' := fun {es x} h1 h2 h3 h4 => by
      rw [snocK_eq] at h4
      obtain ⟨es', k1, k2, k3⟩ := exD_ok hX r mr dr (i + 1) (es ++ [x]) (by simp [h1]) hmr' hdr' hr' (h2.snoc (ho es h1) h3) h4
      exact ⟨es', k1, by simp [k2]; omega, k3⟩
    have run : ∀ {es : List Fx}, es.length = i → AllOk X n ops ms drs st es → (∀ R : Run, R.n = n → ∀ ρ M a w, Sim X R ρ M (vw (mdI ms i) drs es 0 st) a w → Region.wanted o (yielded ops.toArray a.tmps) = true) →
        (exX X (vwE m i drs ms es 0 st) o fun rr x => match eqO rr ri with
          | true => forceX x fun x => snocK es x fun es' => exD X n ops ms drs st r mr dr (i + 1) es' K
          | false => False) → ∃ effs', K effs' ∧ effs'.length = i + (o :: r).length ∧ AllOk X n ops ms drs st effs' := fun {es} h1 h2 hw h3 => by
      obtain ⟨rr, x, h4, h5⟩ := exX_ok hX h3
      split at h4
      · rename_i heq
        have heq := eqO_eq heq
        subst heq
        rw [forceX_eq] at h4
        rw [hV] at h5
        refine fin h1 h2 (.inl ⟨?_, ?_⟩) h4
        · rw [h1, hri]; exact h5
        · rw [h1]; exact hw
      · exact h4.elim
    have skp : ∀ {es : List Fx}, es.length = i → AllOk X n ops ms drs st es → (∀ R : Run, R.n = n → ∀ ρ M a w, Sim X R ρ M (vw (mdI ms i) drs es 0 st) a w → Region.wanted o (yielded ops.toArray a.tmps) = false) →
        (snocK es ⟨und, none⟩ fun es' => exD X n ops ms drs st r mr dr (i + 1) es' K) → ∃ effs', K effs' ∧ effs'.length = i + (o :: r).length ∧ AllOk X n ops ms drs st effs' := fun {es} h1 h2 hw h3 => by
      refine fin h1 h2 (.inr ⟨⟨rfl, AVle.refl _⟩, ?_⟩) h3
      rw [h1]; exact hw
    simp only [exD] at h
    split at h
    · rename_i hg
      exact run hl ha (fun R hn ρ M a w hs => by simp [Region.wanted, hg]) h
    rename_i j b hg
    split at h
    · exact h.elim
    rename_i oj hoj
    split at h
    · exact h.elim
    rename_i t hdt
    have hw : ∀ {a : Act} {v : Value}, a.tmps.getD t undef = v → Region.wanted o (yielded ops.toArray a.tmps) = (boolY v == some b) := fun hv => by
      simp [Region.wanted, hg, yielded_of hoj hdt hv]
    have dec : ∀ {es : List Fx} {c : AV}, es.length = i → AllOk X n ops ms drs st es → (vwE m i drs ms es 0 st).get t = c → gdS c b
        (exX X (vwE m i drs ms es 0 st) o fun rr x => match eqO rr ri with
          | true => forceX x fun x => snocK es x fun es' => exD X n ops ms drs st r mr dr (i + 1) es' K
          | false => False)
        (snocK es ⟨und, none⟩ fun es' => exD X n ops ms drs st r mr dr (i + 1) es' K) → ∃ effs', K effs' ∧ effs'.length = i + (o :: r).length ∧ AllOk X n ops ms drs st effs' := fun {es c} h1 h2 hc h3 => by
      rw [hV] at hc
      have hsl : ∀ R : Run, ∀ ρ M a w, Sim X R ρ M (vw (mdI ms i) drs es 0 st) a w → DenA ρ M c (a.tmps.getD t undef) := fun R ρ M a w hs => by rw [← hc]; exact hs.slots t
      unfold gdS at h3
      split at h3
      · have hv : ∀ R : Run, ∀ ρ M a w, Sim X R ρ M (vw (mdI ms i) drs es 0 st) a w → Region.wanted o (yielded ops.toArray a.tmps) = (some true == some b) := fun R ρ M a w hs => by
          have h4 := hsl R ρ M a w hs
          generalize hvv : a.tmps.getD t undef = v at h4
          cases h4
          exact hw hvv
        split at h3
        · exact run h1 h2 (fun R _ ρ M a w hs => hv R ρ M a w hs) h3
        · exact skp h1 h2 (fun R _ ρ M a w hs => hv R ρ M a w hs) h3
      · have hv : ∀ R : Run, ∀ ρ M a w, Sim X R ρ M (vw (mdI ms i) drs es 0 st) a w → Region.wanted o (yielded ops.toArray a.tmps) = (some false == some b) := fun R ρ M a w hs => by
          have h4 := hsl R ρ M a w hs
          generalize hvv : a.tmps.getD t undef = v at h4
          cases h4
          exact hw hvv
        split at h3
        · exact skp h1 h2 (fun R _ ρ M a w hs => hv R ρ M a w hs) h3
        · exact run h1 h2 (fun R _ ρ M a w hs => hv R ρ M a w hs) h3
      · exact skp h1 h2 (fun R _ ρ M a w hs => by
          have h4 := val_of (hsl R ρ M a w hs)
          rw [hw h4]; rfl) h3
      · exact h3.elim
    have nr : ∀ {b : Bool}, noRef (bv b) := fun r => rfl
    have nt : noRef .tt := fun r => rfl
    have nf : noRef .ff := fun r => rfl
    change (match (vwE m i drs ms effs 0 st).get t with
      | .dat (.val (.bool _)) => _
      | c => _) at h
    split at h
    · split at h
      · rename_i e eo hej
        cases e with
        | true =>
          have h1 := h.yes rfl
          rw [setK_eq] at h1
          have ha' := ha.set hej (c' := .tt) (.inr (.inr ⟨nt, nr, AVle.tt_ (b := true) rfl⟩)) (AVle.of_tt rfl) (fun hu => hu.trans (AVle.of_tt rfl))
          exact dec (by simp [hl]) ha' rfl h1
        | false =>
          have h1 := h.no rfl
          rw [setK_eq] at h1
          have ha' := ha.set hej (c' := .ff) (.inr (.inr ⟨nf, nr, AVle.ff_ (b := false) rfl⟩)) (AVle.of_ff rfl) (fun hu => hu.trans (AVle.of_ff rfl))
          exact dec (by simp [hl]) ha' rfl h1
      · exact h.elim
    · exact dec hl ha rfl h

def maskOf (ms : List Nat) (es : List Edge) (s : Nat) : Nat := match es with
  | [] => s
  | e :: r => match Region.binds .any e with
    | true => maskOf ms r (s ||| (2 ^ e.on ||| ms.getD e.on 0))
    | false => maskOf ms r s
theorem maskOf_bit {ms : List Nat} {k : Nat} : ∀ (es : List Edge) (s : Nat), (maskOf ms es s).testBit k = true → s.testBit k = true ∨ ∃ e ∈ es, Region.binds .any e = true ∧ (k = e.on ∨ (ms.getD e.on 0).testBit k = true)
  | [], s, h => .inl h
  | e :: r, s, h => by
    simp only [maskOf] at h
    split at h
    · rename_i hb
      rcases maskOf_bit r _ h with h1 | ⟨e', he', h2⟩
      · rw [Nat.testBit_or, Nat.testBit_or, Bool.or_eq_true, Bool.or_eq_true] at h1
        rcases h1 with h1 | h1 | h1
        · exact .inl h1
        · refine .inr ⟨e, List.mem_cons_self .., hb, .inl ?_⟩
          rw [Nat.testBit_two_pow] at h1
          have := of_decide_eq_true h1
          exact this.symm
        · exact .inr ⟨e, List.mem_cons_self .., hb, .inr h1⟩
      · exact .inr ⟨e', List.mem_cons_of_mem _ he', h2⟩
    · rcases maskOf_bit r _ h with h1 | ⟨e', he', h2⟩
      · exact .inl h1
      · exact .inr ⟨e', List.mem_cons_of_mem _ he', h2⟩

def masksB (ms : List Nat) : List Oper → Nat → Bool
  | [], _ => true
  | o :: r, i => Nat.beq (ms.getD i 0) (maskOf ms o.after.toList 0) && o.after.toList.all (fun e => !Region.binds .any e || Nat.ble (e.on + 1) i) && masksB ms r (i + 1)
theorem masksB_at {ms : List Nat} : ∀ {l : List Oper} {i : Nat}, masksB ms l i = true → ∀ (j : Nat) (o : Oper), l[j]? = some o → ms.getD (i + j) 0 = maskOf ms o.after.toList 0 ∧ ∀ e ∈ o.after, Region.binds .any e = true → e.on < i + j
  | [], _, _, j, o, h => by simp at h
  | o0 :: r, i, h, j, o, hj => by
    simp only [masksB, Bool.and_eq_true] at h
    cases j with
    | zero =>
      simp at hj
      subst hj
      refine ⟨Nat.eq_of_beq_eq_true h.1.1, fun e he hb => ?_⟩
      have := List.all_eq_true.1 h.1.2 e (by simpa using he)
      simp [hb] at this
      omega
    | succ j =>
      have := masksB_at h.2 j o (by simpa using hj)
      rw [show i + 1 + j = i + (j + 1) by omega] at this
      exact this
def boundD (n : Nat) : List DR → Bool
  | [] => true
  | (d, _) :: r => match d with
    | none => boundD n r
    | some t => match Nat.ble (t + 1) n with
      | true => boundD n r
      | false => false
theorem boundD_at {n : Nat} : ∀ {ds : List DR}, boundD n ds = true → ∀ (i t : Nat) (r : Option Nat), ds[i]? = some (some t, r) → t < n
  | [], _, i, t, r, h => by simp at h
  | (d, r0) :: l, h, i, t, r, hi => by
    cases i with
    | zero =>
      simp at hi
      obtain ⟨rfl, _⟩ := hi
      simp only [boundD] at h
      split at h
      · rename_i hb; have := Nat.le_of_ble_eq_true hb; omega
      · cases h
    | succ i =>
      cases d with
      | none => exact boundD_at (ds := l) h i t r (by simpa using hi)
      | some t' =>
        simp only [boundD] at h
        split at h
        · exact boundD_at h i t r (by simpa using hi)
        · cases h
def dstB : List Oper → List DR → Bool
  | [], [] => true
  | o :: l, (d, _) :: r => eqO o.dst d && dstB l r
  | _, _ => false
theorem dstB_at : ∀ {l : List Oper} {ds : List DR}, dstB l ds = true → ds.length = l.length ∧ ∀ (i : Nat) (o : Oper), l[i]? = some o → ∃ r, ds[i]? = some (o.dst, r)
  | [], [], _ => ⟨rfl, fun i o h => by simp at h⟩
  | o :: l, (d, r) :: ds, h => by
    simp only [dstB, Bool.and_eq_true] at h
    obtain ⟨h1, h2⟩ := dstB_at h.2
    refine ⟨by simp [h1], fun i o' hi => ?_⟩
    cases i with
    | zero => simp at hi; subst hi; exact ⟨r, by rw [eqO_eq h.1]; rfl⟩
    | succ i => obtain ⟨r', e⟩ := h2 i o' (by simpa using hi); exact ⟨r', by simpa using e⟩
  | [], _ :: _, h => by cases h
  | _ :: _, [], h => by cases h
def drawB (n : Nat) (l : List Oper) (ms : List Nat) (ds : List DR) : Bool := masksB ms l 0 && boundD n ds && dstB l ds
def apart1 (ms : List Nat) (i : Nat) (x : Fx) (d r : Option Nat) : List Fx → List DR → Nat → Bool
  | x' :: xs, (d', r') :: ds, k => (match (ms.getD k 0).testBit i with
    | true => true
    | false => apartFx d r x d' r' x') && apart1 ms i x d r xs ds (k + 1)
  | _, _, _ => true
def apartB (ms : List Nat) : List Fx → List DR → Nat → Bool
  | x :: xs, (d, r) :: ds, i => apart1 ms i x d r xs ds (i + 1) && apartB ms xs ds (i + 1)
  | _, _, _ => true
theorem apart1_at {ms : List Nat} {i : Nat} {x : Fx} {d r : Option Nat} : ∀ {xs : List Fx} {ds : List DR} {k : Nat}, apart1 ms i x d r xs ds k = true → ∀ (j : Nat) (d' r' : Option Nat) (x' : Fx), ds[j]? = some (d', r') → xs[j]? = some x' → (ms.getD (k + j) 0).testBit i = false → apartFx d r x d' r' x' = true
  | [], _, _, _, j, d', r', x', _, h, _ => by simp at h
  | _ :: _, [], _, _, j, d', r', x', h, _, _ => by simp at h
  | x0 :: xs, (d0, r0) :: ds, k, h, j, d', r', x', hd, hx, hb => by
    simp only [apart1, Bool.and_eq_true] at h
    cases j with
    | zero =>
      simp at hd hx
      obtain ⟨rfl, rfl⟩ := hd
      subst hx
      have h1 := h.1
      rw [Nat.add_zero] at hb
      rw [hb] at h1
      exact h1
    | succ j => exact apart1_at h.2 j d' r' x' (by simpa using hd) (by simpa using hx) (by rw [show k + 1 + j = k + (j + 1) by omega]; exact hb)
theorem apartB_at {ms : List Nat} : ∀ {xs : List Fx} {ds : List DR} {i0 : Nat}, apartB ms xs ds i0 = true → ∀ (i j : Nat) (d r d' r' : Option Nat) (x x' : Fx), i < j → ds[i]? = some (d, r) → xs[i]? = some x → ds[j]? = some (d', r') → xs[j]? = some x' → (ms.getD (i0 + j) 0).testBit (i0 + i) = false → apartFx d r x d' r' x' = true
  | [], _, _, _, i, j, d, r, d', r', x, x', _, _, h, _, _, _ => by simp at h
  | _ :: _, [], _, _, i, j, d, r, d', r', x, x', _, h, _, _, _, _ => by simp at h
  | x0 :: xs, (d0, r0) :: ds, i0, h, i, j, d, r, d', r', x, x', hij, hd, hx, hd', hx', hb => by
    simp only [apartB, Bool.and_eq_true] at h
    cases j with
    | zero => omega
    | succ j =>
      cases i with
      | zero =>
        simp at hd hx
        obtain ⟨rfl, rfl⟩ := hd
        subst hx
        exact apart1_at h.1 j d' r' x' (by simpa using hd') (by simpa using hx') (by rw [show i0 + 1 + j = i0 + (j + 1) by omega]; exact hb)
      | succ i => exact apartB_at h.2 i j d r d' r' x x' (by omega) (by simpa using hd) (by simpa using hx) (by simpa using hd') (by simpa using hx') (by rw [show i0 + 1 + j = i0 + (j + 1) by omega, show i0 + 1 + i = i0 + (i + 1) by omega]; exact hb)

def leftN (listed : Array Bool) (n : Nat) : Nat := ((List.range n).filter (fun i => !listed.getD i false)).length
theorem leftN_zero {listed : Array Bool} {n : Nat} (h : leftN listed n = 0) : ∀ i, i < n → listed.getD i false = true := by
  intro i hi
  unfold leftN at h
  rw [List.length_eq_zero_iff, List.filter_eq_nil_iff] at h
  have := h i (List.mem_range.2 hi)
  simpa using this
theorem filter_lt {α : Type} (p q : α → Bool) : ∀ (l : List α) (x : α), x ∈ l → (∀ y ∈ l, q y = true → p y = true) → p x = true → q x = false → (l.filter q).length < (l.filter p).length
  | [], _, h, _, _, _ => by cases h
  | y :: r, x, h, hpq, hp, hq => by
    have hle : (r.filter q).length ≤ (r.filter p).length := by
      rw [← List.countP_eq_length_filter, ← List.countP_eq_length_filter]
      exact List.countP_mono_left (fun z hz => hpq z (List.mem_cons_of_mem _ hz))
    rcases List.mem_cons.1 h with rfl | h
    · rw [List.filter_cons_of_pos hp, List.filter_cons_of_neg (by rw [hq]; simp)]
      simp only [List.length_cons]; omega
    · have ih := filter_lt p q r x h (fun z hz => hpq z (List.mem_cons_of_mem _ hz)) hp hq
      by_cases hy : q y = true
      · rw [List.filter_cons_of_pos hy, List.filter_cons_of_pos (hpq y (List.mem_cons_self ..) hy)]
        simp only [List.length_cons]; omega
      · rw [List.filter_cons_of_neg hy]
        by_cases hy2 : p y = true
        · rw [List.filter_cons_of_pos hy2]; simp only [List.length_cons]; omega
        · rw [List.filter_cons_of_neg hy2]; exact ih
theorem leftN_set {listed : Array Bool} {n i : Nat} (hi : i < n) (hs : i < listed.size) (hl : listed.getD i false = false) : leftN (listed.setIfInBounds i true) n < leftN listed n := by
  unfold leftN
  refine filter_lt _ _ _ i (List.mem_range.2 hi) (fun y _ hy => ?_) (by rw [hl]; rfl) (by simp [hs])
  cases hly : listed.getD y false
  · rfl
  · rw [getD_set_true hly] at hy; cases hy


theorem W.draw {X : Cx} {n : Nat} {st : St} {Q : Exit → St → Prop} {id : Nat} {l : List Oper} (ms : List Nat) (drs : List DR) (hm : X.P.follows .mixedOrders = true) (hB : drawB n l ms drs = true)
    (h : exD X n l ms drs st l ms drs 0 [] fun effs => CndK (apartB ms effs drs 0 = true) (Q .normal (vw (fun _ => .app) drs effs 0 st))) : W X n (.region id l.toArray true) st Q := ⟨fun hX R hn ρ M a w hs => by
  simp only [drawB, Bool.and_eq_true] at hB
  obtain ⟨⟨hmask, hbound⟩, hdst⟩ := hB
  obtain ⟨hdl, hdi⟩ := dstB_at hdst
  obtain ⟨effs, ⟨hap, hfin⟩, hel, hall⟩ := exD_ok hX l ms drs 0 [] rfl rfl rfl (fun j o hj => by rw [Nat.zero_add]; exact hj) (fun i o x _ hx => by simp at hx) h
  have hel' : effs.length = l.length := by rw [hel]; omega
  subst hn
  refine wp_region_any hm ?_
  -- what is listed is closed, so it has all that an operation waits for
  have closedAll : ∀ (listed : Array Bool), (∀ j oj, l.toArray[j]? = some oj → listed.getD j false = true → ∀ e ∈ oj.after, Region.binds .any e = true → listed.getD e.on false = true) →
      ∀ (m i : Nat) (o : Oper), i ≤ m → l[i]? = some o → (∀ e ∈ o.after, Region.binds .any e = true → listed.getD e.on false = true) → ∀ k, (ms.getD i 0).testBit k = true → listed.getD k false = true := by
    intro listed hcl m
    induction m with
    | zero =>
      intro i o him ho hdep k hk
      obtain ⟨h1, h2⟩ := masksB_at hmask i o ho
      rw [Nat.zero_add] at h1
      rw [h1] at hk
      rcases maskOf_bit _ _ hk with h3 | ⟨e, he, hb, h3⟩
      · simp at h3
      · have := h2 e (by simpa using he) hb
        omega
    | succ m ih =>
      intro i o him ho hdep k hk
      obtain ⟨h1, h2⟩ := masksB_at hmask i o ho
      rw [Nat.zero_add] at h1
      rw [h1] at hk
      rcases maskOf_bit _ _ hk with h3 | ⟨e, he, hb, h3⟩
      · simp at h3
      · have he' : e ∈ o.after := by simpa using he
        have hlt := h2 e he' hb
        have hon := hdep e he' hb
        rcases h3 with rfl | h3
        · exact hon
        · have hol : e.on < l.length := by
            have := (List.getElem?_eq_some_iff.1 ho).1
            omega
          have hoe : l[e.on]? = some l[e.on] := List.getElem?_eq_getElem hol
          exact ih e.on l[e.on] (by omega) hoe (fun e2 he2 hb2 => hcl e.on l[e.on] (by simpa using hoe) hon e2 he2 hb2) k h3
  have main : ∀ (f : Nat) (listed : Array Bool) (ρ : Env) (M : Mem) (b : Act) (w1 : World), leftN listed l.length ≤ f → HeadInv .any l.toArray l.length listed → Sim X R ρ M (vw (mdL listed) drs effs 0 st) b w1 →
      wpAny X.P .any l.toArray (fun e a' w' => ∃ st' ρ' M', Q e st' ∧ Sim X R ρ' M' st' a' w') f listed b w1 := by
    have hdone : ∀ (g : Nat) (listed : Array Bool) (ρ : Env) (M : Mem) (b : Act) (w1 : World), HeadInv .any l.toArray l.length listed → Sim X R ρ M (vw (mdL listed) drs effs 0 st) b w1 → (∀ i, i < l.length → listed.getD i false = true) →
        wpAny X.P .any l.toArray (fun e a' w' => ∃ st' ρ' M', Q e st' ∧ Sim X R ρ' M' st' a' w') g listed b w1 := by
      intro g listed ρ M b w1 inv hs hall'
      have hs2 : Sim X R ρ M (vw (fun _ => .app) drs effs 0 st) b w1 := by
        refine hs.wk (vw_wk drs effs effs st (fun j hj => ⟨fun _ => ?_, fun h => by cases h⟩) (XLe.refl _))
        unfold mdL
        rw [hall' j (by omega)]
      have hr : Region.ready .any l.toArray listed = [] := by
        apply List.eq_nil_iff_forall_not_mem.2
        intro i hi
        obtain ⟨hun, o, ho, _⟩ := mem_ready.1 hi
        have hil : i < l.length := by
          have := (Array.getElem?_eq_some_iff.1 ho).1
          simpa using this
        have := hall' i hil
        rw [getD_both hun] at this
        cases this
      exact wpAny_done hr ⟨_, ρ, M, hfin, hs2⟩ g
    intro f
    induction f with
    | zero =>
      intro listed ρ M b w1 hf inv hs
      exact hdone 0 listed ρ M b w1 inv hs (leftN_zero (by omega))
    | succ f ih =>
      intro listed ρ M b w1 hf inv hs
      have hls : listed.size = l.length := by simpa using inv.size
      by_cases hall' : ∀ i, i < l.length → listed.getD i false = true
      · exact hdone (f + 1) listed ρ M b w1 inv hs hall'
      · refine ⟨fun h0 => ?_, fun i hi => ?_⟩
        · exfalso
          have hex : ∃ i, i < l.length ∧ listed.getD i false = false := by
            apply Classical.byContradiction
            intro hne
            apply hall'
            intro i hi
            cases hl : listed.getD i false
            · exact absurd ⟨i, hi, hl⟩ hne
            · rfl
          have hrd : ∀ m i, i < l.length → listed.getD i false = false → i ≤ m → ∃ i, i ∈ Region.ready .any l.toArray listed := by
            intro m
            induction m with
            | zero =>
              intro i hi hl hm
              obtain rfl : i = 0 := by omega
              have ho : l[0]? = some l[0] := List.getElem?_eq_getElem (by omega)
              refine ⟨0, mem_ready.2 ⟨getD_in (by omega) hl, l[0], by simpa using ho, fun e he hb => ?_⟩⟩
              have := (masksB_at hmask 0 _ ho).2 e he hb
              omega
            | succ m ihm =>
              intro i hi hl hm
              have ho : l[i]? = some l[i] := List.getElem?_eq_getElem (by omega)
              by_cases hr : ∀ e ∈ (l[i]).after, Region.binds .any e = true → listed.getD e.on false = true
              · exact ⟨i, mem_ready.2 ⟨getD_in (by omega) hl, l[i], by simpa using ho, hr⟩⟩
              · have : ∃ e ∈ (l[i]).after, Region.binds .any e = true ∧ listed.getD e.on false = false := by
                  apply Classical.byContradiction
                  intro hne
                  apply hr
                  intro e he hb
                  cases hle : listed.getD e.on false
                  · exact absurd ⟨e, he, hb, hle⟩ hne
                  · rfl
                obtain ⟨e, he, hb, hle⟩ := this
                have := (masksB_at hmask i _ ho).2 e he hb
                exact ihm e.on (by omega) hle (by omega)
          obtain ⟨i, hi, hl⟩ := hex
          obtain ⟨j, hj⟩ := hrd i i hi hl (Nat.le_refl _)
          rw [h0] at hj
          cases hj
        · obtain ⟨hun, o, ho, hdep⟩ := mem_ready.1 hi
          have hol : l[i]? = some o := by simpa using ho
          have hin : i < l.length := (List.getElem?_eq_some_iff.1 hol).1
          have hun' : listed.getD i false = false := getD_both hun
          obtain ⟨r, hdr⟩ := hdi i o hol
          have hdrD : drs.getD i (none, none) = (o.dst, r) := by rw [List.getD_eq_getElem?_getD, hdr]; rfl
          have hei : effs[i]? = some (effs[i]'(by omega)) := List.getElem?_eq_getElem (by omega)
          generalize hedef : effs[i]'(by omega) = x at hei
          have hmaskL : ∀ k, (ms.getD i 0).testBit k = true → listed.getD k false = true := closedAll listed inv.closed i i o (Nat.le_refl _) hol hdep
          have hafter : ∀ k, k < l.length → listed.getD k false = true → (ms.getD k 0).testBit i = false := fun k hk hl => by
            cases hb : (ms.getD k 0).testBit i
            · rfl
            · have hok : l[k]? = some l[k] := List.getElem?_eq_getElem hk
              have := closedAll listed inv.closed k k l[k] (Nat.le_refl _) hok (fun e he hbe => inv.closed k l[k] (by simpa using hok) hl e he hbe) i hb
              rw [hun'] at this; cases this
          have hview : Wk (vw (mdL listed) drs effs 0 st).sf (vw (mdI ms i) drs effs 0 st).sf := by
            refine vw_wk drs effs effs st (fun j hj => ⟨fun hj2 => ?_, fun hj2 => ?_⟩) (XLe.refl _)
            · unfold mdI at hj2
              unfold mdL
              split at hj2
              · rename_i hb; rw [hmaskL j hb]
              · split at hj2
                · cases hj2
                · split at hj2 <;> cases hj2
            · unfold mdI at hj2
              unfold mdL
              split at hj2
              · cases hj2
              · split at hj2
                · rename_i hb
                  have := Nat.eq_of_beq_eq_true hb
                  subst this
                  rw [hun']
                · split at hj2
                  · rename_i hb
                    cases hl : listed.getD j false
                    · rfl
                    · have := hafter j (by omega) hl
                      rw [this] at hb; cases hb
                  · cases hj2
          have hsi := hs.wk hview
          have hleft : leftN (listed.setIfInBounds i true) l.length ≤ f := by
            have := leftN_set hin (by omega) hun'
            omega
          have hset : (vw (mdL (listed.setIfInBounds i true)) drs effs 0 st).sf = fxF o.dst r x (vw (mdL listed) drs effs 0 st).sf := by
            rw [sf_vw, sf_vw]
            refine vwF_set (by omega) hun' drs effs 0 _ o.dst r x (Nat.zero_le _) (by simpa using hdr) (by simpa using hei) (by omega) fun j d' r' x' hij hj hxj hlj => ?_
            rw [Nat.zero_add] at hij hlj
            have hjl : j < l.length := by
              have := (List.getElem?_eq_some_iff.1 hxj).1
              omega
            exact apartB_at hap i j o.dst r d' r' x x' hij hdr hei hj hxj (by rw [Nat.zero_add, Nat.zero_add]; exact hafter j hjl hlj)
          have next : ∀ {ρ' : Env} {M' : Mem} {w2 : World} {v : Value}, Sim X R ρ' M' (fxD o.dst r x (vw (mdL listed) drs effs 0 st)) (b.put o.dst v) w2 → wpAny X.P .any l.toArray (fun e a' w' => ∃ st' ρ' M', Q e st' ∧ Sim X R ρ' M' st' a' w') f (listed.setIfInBounds i true) (b.put o.dst v) w2 := by
            intro ρ' M' w2 v hq
            refine ih _ ρ' M' _ w2 hleft (inv.set hi hin) ?_
            exact hq.congr (by rw [sf_fxD, hset])
          have hbd : ∀ t, o.dst = some t → t < R.n := fun t ht => by
            rw [ht] at hdr
            exact boundD_at hbound i t r hdr
          have hst := hall i o x hol hei
          rw [StepOk, hdrD] at hst
          unfold wpOp
          simp only [ho]
          rcases hst with ⟨hF, hw⟩ | ⟨⟨hxe, hxc⟩, hw⟩
          · rw [if_pos (hw R rfl ρ M b w1 hsi)]
            obtain ⟨hfit, hmv, lo, hlx, hlo, hout⟩ := hF
            refine .inl (hout R ρ M b w1 hsi _ _ fun v ρ' M' w' hx => next (hs.fx hx hbd hfit hlx (fun hl => ?_) hmv))
            obtain ⟨q, e0, k1, k2, k3⟩ := hlo hl
            rcases hview.h q e0 k2 with rfl | ⟨e1, k4, k5⟩
            · cases k3
            · exact ⟨q, e1, k1, k4, k5.owned k3⟩
          · rw [if_neg (by rw [hw R rfl ρ M b w1 hsi]; simp)]
            refine next (ρ' := ρ) (M' := M) (hs.fx (lo := false) (v := undef) ⟨fun _ _ => rfl, fun _ => rfl, Mem.le_refl _, fun _ _ h => .inl h, fun _ _ h => .inl h, rfl, rfl, rfl, Nat.le_refl _, fun _ _ _ => rfl, hxc _ _ _ (.dat (.val undef)), fun q e b _ he => (by rw [hxe] at he; cases he), fun _ => Nat.le_refl _⟩ hbd (fun _ => hxe) (fun h => by cases h) (fun h => by cases h) (fun e q h => by rw [hxe] at h; cases h))
  have inv0 : HeadInv .any l.toArray l.length (Array.replicate l.toArray.size false) :=
    ⟨by simp, fun j oj _ hl => (by rw [getD_replicate_false] at hl; cases hl), fun t _ ht => getD_in (by simpa using ht) (getD_replicate_false _ _)⟩
  have hdraw : Sim X R ρ M st a { w with drawn := w.drawn + 1 } :=
    ⟨hs.size, hs.defers, hs.chg.trans (bs := R.bs) (cs := []) ⟨rfl, rfl, rfl, Nat.le_refl _, fun _ _ _ => rfl⟩ (fun g hg => by cases hg), hs.m0, hs.g0, hs.fresh, hs.pub, hs.slots, hs.ents, hs.own, hs.apart, hs.sep, hs.fix, fun hd => Nat.le_trans (hs.drn hd) (Nat.le_succ _), hs.kn⟩
  have hskip : ∀ (l' : List DR) (xs : List Fx) (k : Nat) (s : SF), vwF (mdL (Array.replicate l.toArray.size false)) l' xs k s = s := by
    intro l'
    induction l' with
    | nil => intro _ _ _; rfl
    | cons q l' ih =>
      intro xs k s
      obtain ⟨d, r⟩ := q
      have hm : mdL (Array.replicate l.toArray.size false) k = .skip := by unfold mdL; rw [getD_replicate_false]
      simp only [vwF, hm]
      exact ih _ _ _
  have hstart : Sim X R ρ M (vw (mdL (Array.replicate l.toArray.size false)) drs effs 0 st) a { w with drawn := w.drawn + 1 } := hdraw.congr (by rw [sf_vw, hskip])
  have H := main l.length _ ρ M a _ (by unfold leftN; exact Nat.le_trans (List.length_filter_le _ _) (by simp)) inv0 hstart
  rw [show l.length = l.toArray.size by simp] at H
  exact H⟩

end Go.Proofs.Ytoeghejbgibioaa

namespace Go.Proofs.Ytoeghejbgibioaa
open Go Go.RowKit
set_option linter.unusedVariables false
set_option linter.unusedSimpArgs false
set_option linter.unnecessarySimpa false

def endM (R : Run) (M : Mem) (w : World) : Mem := fun p => match M p with
  | some v => some v
  | none => match Nat.ble R.w0.heap.size p.block with
    | true => allM w p
    | false => none
theorem endM_le (R : Run) (M : Mem) (w : World) : Mem.le M (endM R M w) := fun p v hp => by unfold endM; rw [hp]
theorem endM_ok {R : Run} {M : Mem} {w : World} (h : PubOk M w) : PubOk (endM R M w) w := fun p v hp => by
  unfold endM at hp
  cases hm : M p with
  | some u => rw [hm] at hp; cases hp; exact h p _ hm
  | none =>
    rw [hm] at hp
    simp only at hp
    split at hp
    · exact allM_ok w p v hp
    · cases hp
theorem endM_fresh {R : Run} {M : Mem} {w : World} {p : Addr} {v : Value} (hp : endM R M w p = some v) : M p = some v ∨ R.w0.heap.size ≤ p.block := by
  unfold endM at hp
  cases hm : M p with
  | some u => rw [hm] at hp; exact .inl hp
  | none =>
    rw [hm] at hp
    simp only at hp
    split at hp
    · rename_i hb; exact .inr (Nat.le_of_ble_eq_true hb)
    · cases hp
theorem endM_of {R : Run} {M : Mem} {w : World} (hpub : PubOk M w) {p : Addr} {v : Value} (h : w.cell? p = some v) (ho : v.oneCell' = true) (hb : R.w0.heap.size ≤ p.block) : endM R M w p = some v := by
  unfold endM
  cases hm : M p with
  | some u =>
    have := (hpub p u hm).1
    rw [h] at this; cases this; rfl
  | none =>
    simp only
    have : Nat.ble R.w0.heap.size p.block = true := Nat.ble_eq ▸ hb
    rw [this]
    exact allM_of h ho

def ResLe (X : Cx) (st : St) (c d : AV) : Prop := ∀ R ρ M a w v, R.bs = [] → Sim X R ρ M st a w → DenA ρ M c v → DenP (endM R M w) d v
def RessLe (X : Cx) (st : St) : List AV → List AV → Prop
  | [], [] => True
  | c :: l, d :: r => ResLe X st c d ∧ RessLe X st l r
  | _, _ => False
theorem RessLe_at {X : Cx} {st : St} : ∀ {cs ds : List AV}, RessLe X st cs ds → ds.length = cs.length ∧ ∀ (i : Nat) (d : AV), ds[i]? = some d → ∃ c, cs[i]? = some c ∧ ResLe X st c d
  | [], [], _ => ⟨rfl, fun i d h => by simp at h⟩
  | c :: l, d :: r, h => by
    obtain ⟨h1, h2⟩ := RessLe_at h.2
    refine ⟨by simp [h1], fun i d' hi => ?_⟩
    cases i with
    | zero => simp at hi; subst hi; exact ⟨c, rfl, h.1⟩
    | succ i => obtain ⟨c', e1, e2⟩ := h2 i d' (by simpa using hi); exact ⟨c', by simpa using e1, e2⟩
  | [], _ :: _, h => h.elim
  | _ :: _, [], h => h.elim
theorem ResLe.pure {X : Cx} {st : St} {c d : AV} (h : AVle c d) (hd : d.pure = true) : ResLe X st c d := fun R ρ M a w v _ hs hc => AV.pure_den (h _ _ _ (hc.keep (endM_le R M w) fun _ _ => rfl)) hd
theorem ResLe.agg {X : Cx} {st : St} {cs ds : List AV} (h : RessLe X st cs ds) : ResLe X st (.agg cs) (.agg ds) := fun R ρ M a w v hb hs hc ρ' => by
  obtain ⟨vs, rfl, hl, hd⟩ := agg_of hc
  obtain ⟨h1, h2⟩ := RessLe_at h
  exact .agg ds vs (by omega) fun i c v e1 e2 => by
    obtain ⟨c', e3, e4⟩ := h2 i c e1
    exact e4 R ρ M a w v hb hs (hd i c' v e3 e2) ρ'
theorem ResLe.own {X : Cx} {st : St} {r s lo n N : Nat} {f g : Nat → Nat → D} (hr : rowOf (st.ent r) s = some (N, f)) (hle : lo + n ≤ N) (hfg : ∀ i, i < n → ∀ j, j < s → Dle (f (lo + i) j) (g i j)) : ResLe X st (.own r s lo n) (.dat (.lst s n g)) := by
  intro R ρ M a w v hbs hs hc ρ'
  obtain rfl := own_of hc
  obtain ⟨hc1, hc2, hc3⟩ := rowOf_cap hs hr
  have hcell : ∀ gg, (ρ r).1 = some gg → ∀ i, i < n → ∀ j, j < s → ∃ u, endM R M w ⟨gg, (lo + i) * s + j, none⟩ = some u ∧ DenD M (f (lo + i) j) u := by
    intro gg hg i hi j hj
    obtain ⟨u, h1, h2, h3⟩ := rowOf_cell hs hr hg (k := lo + i) (by omega) hj
    refine ⟨u, ?_, h2⟩
    unfold rowOf at hr
    split at hr
    · rename_i E s' n' f' he
      rcases hs.own r _ gg he rfl hg with h4 | h4
      · exact endM_of hs.pub h1 h3 h4
      · have h5 := R.hsub _ _ h4.2
        rw [hbs] at h5; cases h5
    · rename_i s' n' f' he
      split at hr
      · rename_i hsb
        cases hr
        obtain rfl := Nat.eq_of_beq_eq_true hsb
        have h' : DenD M (.lst s N f) (.slice (addrOf (ρ r).1) N (ρ r).2) := hs.ents r _ he
        rw [hg] at h'
        cases h' with
        | lst _ _ _ A cap u' hn hc hA hm hd =>
          have h5 := hm ⟨gg, 0, none⟩ rfl (lo + i) (by omega) j hj
          rw [add_off, Nat.zero_add] at h5
          have h6 := (hs.pub _ _ h5).1
          rw [h1] at h6
          have h7 := endM_le R M w _ _ h5
          rw [h7, h6]
      · cases hr
    · cases hr
  have hch : ∃ u : Nat → Nat → Value, ∀ i, i < n → ∀ j, j < s → ∀ gg, (ρ r).1 = some gg → endM R M w ⟨gg, (lo + i) * s + j, none⟩ = some (u i j) ∧ DenD M (f (lo + i) j) (u i j) := by
    cases hg : (ρ r).1 with
    | none => exact ⟨fun _ _ => undef, fun i hi => by have := hc3 hg; omega⟩
    | some gg =>
      refine ⟨fun i j => if hh : i < n ∧ j < s then (hcell gg hg i hh.1 j hh.2).choose else undef, fun i hi j hj g' hg' => ?_⟩
      cases hg'
      have hh : i < n ∧ j < s := ⟨hi, hj⟩
      simp only [dif_pos hh]
      exact (hcell gg hg i hh.1 j hh.2).choose_spec
  obtain ⟨u, hu⟩ := hch
  refine .dat (.lst s n g _ _ u (by omega) (by omega) (fun e => ?_) (fun ad e i hi j hj => ?_) (fun i hi j hj => ?_))
  · cases hg : (ρ r).1 with
    | none => have := hc3 hg; omega
    | some gg =>
      rw [hg] at e
      unfold partOf at e
      split at e
      · omega
      · simp [addrOf] at e
  · cases hg : (ρ r).1 with
    | none => have := hc3 hg; omega
    | some gg =>
      rw [partOf_some hg (by omega)] at e
      cases e
      obtain ⟨h1, _⟩ := hu i hi j hj gg hg
      rw [add_off]
      rw [Nat.add_mul, Nat.add_assoc] at h1
      exact h1
  · cases hg : (ρ r).1 with
    | none => have := hc3 hg; omega
    | some gg =>
      obtain ⟨_, h2⟩ := hu i hi j hj gg hg
      exact hfg i hi j hj _ _ (h2.mono (endM_le R M w))

def resV (a : Act) : ResultVar → Sem Value
  | .tmp t => pure (a.tmps.getD t undef)
  | .cell p t => do loadVar t (← asAddr (a.tmps.getD p undef))
theorem results_eq (fn : Func) (a : Act) : results fn a.tmps = (do
    let vs ← fn.results.mapM (resV a)
    pure (if h : vs.size = 1 then vs[0] else .tuple vs)) := by
  unfold results
  congr 1
def resAV (X : Cx) (st : St) (r : ResultVar) : Option AV := match r with
  | .tmp t => some (st.get t)
  | .cell p t => match lk t X.T with
    | none => none
    | some ti => match st.get p with
      | .ptr r off => match st.ent r with
        | some (.blk _ cs) => match ti.k.agg with
          | true => match Nat.ble (off + ti.size) cs.length with
            | true => some (.agg ((cs.drop off).take ti.size))
            | false => none
          | false => cs[off]?
        | _ => none
      | _ => none
theorem resAV_ok {X : Cx} (hX : X.ok) {R : Run} {ρ : Env} {M : Mem} {st : St} {a : Act} {w : World} (h : Sim X R ρ M st a w) {r : ResultVar} {c : AV} (hr : resAV X st r = some c) :
    ∃ v, (resV a r).run X.P w = .ok v w ∧ DenA ρ M c v := by
  unfold resAV at hr
  split at hr
  · cases hr
    exact ⟨_, rfl, h.slots _⟩
  · rename_i p t
    split at hr
    · cases hr
    rename_i ti hti
    have hT := hX t ti hti
    split at hr
    · rename_i r off hp
      obtain ⟨g, hg, hv⟩ := ptr_of (hp ▸ h.slots p)
      split at hr
      · rename_i E cs he
        obtain ⟨g', vs, hg', hh, hl, hc⟩ := h.ents r _ he
        rw [hg] at hg'; cases hg'
        split at hr
        · rename_i hag
          split at hr
          · rename_i hle
            have hle := Nat.le_of_ble_eq_true hle
            cases hr
            have hlen : ((vs.toList.drop off).take ti.size).length = ti.size := by simp; omega
            refine ⟨_, ?_, .agg _ ((vs.toList.drop off).take ti.size) (by rw [hlen]; simp; omega) fun i c v hi hv => ?_⟩
            · simp only [resV, Sem.run_bind, hv, asAddr, Sem.run_pure, Result.andThen_ok]
              refine run_loadVar_cells hT hag w _ ((vs.toList.drop off).take ti.size) hlen fun j v hj => ?_
              obtain ⟨_, h2⟩ := take_drop_at hj
              rw [add_off, cell_of_row w g (off + j) vs E (0, 0) hh]
              simpa using h2
            · obtain ⟨_, h1⟩ := take_drop_at hi
              obtain ⟨_, h2⟩ := take_drop_at hv
              exact hc _ _ _ h1 (by simpa using h2)
          · cases hr
        · rename_i hag
          have hlt : off < vs.size := by
            have := (List.getElem?_eq_some_iff.1 hr).1
            omega
          refine ⟨vs[off], ?_, hc off c _ hr (by simp [hlt])⟩
          simp only [resV, Sem.run_bind, hv, asAddr, Sem.run_pure, Result.andThen_ok]
          refine run_loadVar_cell hT hag w _ vs[off] ?_
          rw [cell_of_row w g off vs E (0, 0) hh]
          simp [hlt]
      · cases hr
    · cases hr

def resL (X : Cx) (st : St) : List ResultVar → List AV → Prop
  | [], [] => True
  | rv :: rs, d :: ds => (match resAV X st rv with
    | some c => force c fun c => ResLe X st c d
    | none => False) ∧ resL X st rs ds
  | _, _ => False
def resOk (X : Cx) (st : St) (rs : List ResultVar) (r : AV) : Prop := match rs with
  | [rv] => match resAV X st rv with
    | some c => force c fun c => ResLe X st c r
    | none => False
  | rs => match r with
    | .tup ds => resL X st rs ds
    | _ => False

theorem resL_ok {X : Cx} (hX : X.ok) {R : Run} {ρ : Env} {M : Mem} {st : St} {a : Act} {w : World} (hb : R.bs = []) (h : Sim X R ρ M st a w) : ∀ (rs : List ResultVar) (ds : List AV), resL X st rs ds →
    ∃ vs, (rs.mapM (resV a)).run X.P w = .ok vs w ∧ ds.length = vs.length ∧ rs.length = vs.length ∧ ∀ (i : Nat) (d : AV) (v : Value), ds[i]? = some d → vs[i]? = some v → DenP (endM R M w) d v
  | [], [], _ => ⟨[], rfl, rfl, rfl, fun i d v h1 => by simp at h1⟩
  | rv :: rs, d :: ds, hr => by
    obtain ⟨h1, h2⟩ := hr
    split at h1
    · rename_i c hc
      rw [force_eq] at h1
      obtain ⟨v, hv, hd⟩ := resAV_ok hX h hc
      obtain ⟨vs, e1, e2, e3, e4⟩ := resL_ok hX hb h rs ds h2
      refine ⟨v :: vs, ?_, by simp [e2], by simp [e3], fun i d' v' hi hv' => ?_⟩
      · simp only [List.mapM_cons, Sem.run_bind, Sem.run_pure]
        rw [hv]
        simp only [Result.andThen_ok, e1]
      · cases i with
        | zero => simp at hi hv'; subst hi hv'; exact h1 R ρ M a w v hb h hd
        | succ i => exact e4 i d' v' (by simpa using hi) (by simpa using hv')
    · exact h1.elim
  | [], _ :: _, hr => hr.elim
  | _ :: _, [], hr => hr.elim

theorem resOk_run {X : Cx} (hX : X.ok) {R : Run} {ρ : Env} {M : Mem} {st : St} {a : Act} {w : World} (hb : R.bs = []) (h : Sim X R ρ M st a w) {fn : Func} {rs : List ResultVar} {r : AV} (hrs : fn.results = rs.toArray) (hr : resOk X st rs r) :
    ∃ v, (results fn a.tmps).run X.P w = .ok v w ∧ DenP (endM R M w) r v := by
  have hrun : ∀ {vs : List Value}, (rs.mapM (resV a)).run X.P w = .ok vs w → (results fn a.tmps).run X.P w = .ok (if h : vs.toArray.size = 1 then vs.toArray[0] else .tuple vs.toArray) w := by
    intro vs hvs
    rw [results_eq, hrs, Array.mapM_eq_mapM_toList]
    simp only [Sem.run_bind, Sem.run_map]
    rw [hvs]
    rfl
  unfold resOk at hr
  split at hr
  · rename_i rv
    split at hr
    · rename_i c hc
      rw [force_eq] at hr
      obtain ⟨v, hv, hd⟩ := resAV_ok hX h hc
      refine ⟨v, ?_, hr R ρ M a w v hb h hd⟩
      rw [hrun (vs := [v]) (by
        simp only [List.mapM_cons, List.mapM_nil, Sem.run_bind, Sem.run_pure]
        rw [hv]
        rfl)]
      rfl
    · exact hr.elim
  · rename_i hne
    split at hr
    · rename_i ds
      obtain ⟨vs, e1, e2, e3, e4⟩ := resL_ok hX hb h rs ds hr
      refine ⟨.tuple vs.toArray, ?_, fun ρ' => .tup ds vs e2 fun i d v h1 h2 => e4 i d v h1 h2 ρ'⟩
      rw [hrun e1, dif_neg]
      intro h1
      have : rs.length = 1 := by rw [e3]; simpa using h1
      obtain ⟨rv, hrv⟩ := List.length_eq_one_iff.1 this
      exact hne rv hrv
    · exact hr.elim

def argsF : List AV → Nat → List (Nat × AV)
  | [], _ => []
  | c :: l, k => (k, c) :: argsF l (k + 1)
theorem argsF_lk : ∀ (l : List AV) (k t : Nat), lk t (argsF l k) = if k ≤ t then l[t - k]? else none
  | [], k, t => by simp [argsF, lk]
  | c :: l, k, t => by
    simp only [argsF, lk_cons, argsF_lk l (k + 1) t]
    by_cases h : k = t
    · subst h; simp
    · rw [if_neg h]
      by_cases h2 : k ≤ t
      · rw [if_pos (by omega), if_pos h2, show t - k = (t - (k + 1)) + 1 by omega]
        simp
      · rw [if_neg (by omega), if_neg h2]

theorem ACalls.of {X : Cx} (hX : X.ok) {f : FuncId} {fn : Func} {c : Code} {n : Nat} {rs : List ResultVar} {args : List AV} {r : AV} (hf : X.P.funcs[f]? = some fn) (hb : fn.body = some c) (hnm : (fn.name == "runtime.NumGoroutine") = false) (hn : fn.ntmps = n) (hrs : fn.results = rs.toArray) (hna : args.length ≤ n)
    (h : W X n c ⟨argsF args 0, []⟩ fun e st => match e with
      | .ret => resOk X st rs r
      | .normal => resOk X st rs r
      | _ => False) (hn5 : n ≤ 5000 := by exact Nat.le_of_ble_eq_true rfl) (hkb : X.kb = [] := by rfl) : ACalls X f args r := by
  refine ⟨⟨fn, hf, by rw [hb]; rfl, hnm⟩, fun M w vs hg hp hl hd => ?_⟩
  refine calls_of_wp hf hb ?_
  have hsim : Sim X ⟨n, hn5, w, M, [], fun _ => (none, 0), fun _ _ => False, fun _ _ h => h.elim⟩ (fun _ => (none, 0)) M ⟨argsF args 0, []⟩ { tmps := vs.toArray ++ Array.replicate (fn.ntmps - vs.toArray.size) undef, defers := [] } w := by
    refine ⟨?_, rfl, Chg.refl _ _, Mem.le_refl _, hg, fun p v hp => .inl hp, hp, fun t => ?_, fun r e he => (by cases he), fun r e g he => (by cases he), fun r r' e e' he => (by cases he), fun r e g p v he => (by cases he), fun _ _ => rfl, fun _ => Nat.le_refl _, fun q b hq => (by rw [hkb] at hq; cases hq)⟩
    · simp [hn]
      have : vs.length ≤ n := by omega
      omega
    · have hget : (⟨argsF args 0, []⟩ : St).get t = match args[t]? with
        | some c => c
        | none => .junk := by
        unfold St.get
        rw [argsF_lk, if_pos (Nat.zero_le _), Nat.sub_zero]
        cases args[t]? <;> rfl
      rw [hget]
      cases ha : args[t]? with
      | none => exact .junk _
      | some c =>
        have hlt : t < vs.length := by
          have := (List.getElem?_eq_some_iff.1 ha).1
          omega
        have hv : (vs.toArray ++ Array.replicate (fn.ntmps - vs.toArray.size) undef).getD t undef = vs[t] := by
          simp [Array.getElem?_append, hlt]
        simp only [hv]
        exact hd t c vs[t] ha (by simp [hlt]) _
  have fin : ∀ {st' : St} {ρ' : Env} {M' : Mem} {a' : Act} {w' : World}, resOk X st' rs r → Sim X ⟨n, hn5, w, M, [], fun _ => (none, 0), fun _ _ => False, fun _ _ h => h.elim⟩ ρ' M' st' a' w' → a'.defers = [] ∧ ∃ v, (results fn a'.tmps).run X.P w' = .ok v w' ∧ ∃ v_1 M', Ending.returned v = .returned v_1 ∧ DenP M' r v_1 ∧ Mem.le M M' ∧ (∀ p u, M' p = some u → M p = some u ∨ w.heap.size ≤ p.block) ∧ PubOk M' w' ∧ Below w.heap.size w w' ∧ (X.dr = true → w.drawn ≤ w'.drawn) := by
    intro st' ρ' M' a' w' hres hs
    obtain ⟨v, hv, hd⟩ := resOk_run hX rfl hs hrs hres
    refine ⟨hs.defers, v, hv, v, _, rfl, hd, Mem.le_trans hs.m0 (endM_le _ _ _), fun p u hp => ?_, endM_ok hs.pub, hs.chg.below, hs.drn⟩
    rcases endM_fresh hp with h1 | h1
    · exact hs.fresh p u h1
    · exact .inr h1
  refine wp_mono (h.out hX ⟨n, hn5, w, M, [], fun _ => (none, 0), fun _ _ => False, fun _ _ h => h.elim⟩ rfl _ M _ w hsim) fun e a' w' ⟨st', ρ', M', hq, hs⟩ => ?_
  cases e with
  | normal => exact fin hq hs
  | ret => exact fin hq hs
  | _ => exact hq.elim

def toVs : List AV → Option (List Value)
  | [] => some []
  | c :: l => match c.toV with
    | none => none
    | some v => match toVs l with
      | none => none
      | some r => some (v :: r)
theorem toVs_at : ∀ {cs : List AV} {vs : List Value}, toVs cs = some vs → vs.length = cs.length ∧ ∀ (i : Nat) (c : AV), cs[i]? = some c → ∃ v, vs[i]? = some v ∧ c.toV = some v
  | [], vs, h => by cases h; exact ⟨rfl, fun i c hi => by simp at hi⟩
  | c :: l, vs, h => by
    simp only [toVs] at h
    split at h
    · cases h
    rename_i v hv
    split at h
    · cases h
    rename_i r hr
    cases h
    obtain ⟨h1, h2⟩ := toVs_at hr
    refine ⟨by simp [h1], fun i c' hi => ?_⟩
    cases i with
    | zero => simp at hi; subst hi; exact ⟨v, rfl, hv⟩
    | succ i => obtain ⟨v', e1, e2⟩ := h2 i c' (by simpa using hi); exact ⟨v', by simpa using e1, e2⟩
def AV.toR : AV → Option Value
  | .tup cs => match toVs cs with
    | some vs => some (.tuple vs.toArray)
    | none => none
  | c => c.toV
theorem toV1_mk {M : Mem} {c : AV} {v : Value} (h : c.toV1 = some v) : DenP M c v := fun ρ => by
  unfold AV.toV1 at h
  split at h
  · cases h; exact .tt
  · cases h; exact .ff
  · cases h; exact .dat (.val _)
  · cases h
theorem mapV_at : ∀ {cs : List AV} {vs : List Value}, mapV cs = some vs → vs.length = cs.length ∧ ∀ (i : Nat) (c : AV), cs[i]? = some c → ∃ v, vs[i]? = some v ∧ c.toV1 = some v
  | [], vs, h => by cases h; exact ⟨rfl, fun i c hi => by simp at hi⟩
  | c :: l, vs, h => by
    simp only [mapV] at h
    split at h
    · cases h
    rename_i v hv
    split at h
    · cases h
    rename_i r hr
    cases h
    obtain ⟨h1, h2⟩ := mapV_at hr
    refine ⟨by simp [h1], fun i c' hi => ?_⟩
    cases i with
    | zero => simp at hi; subst hi; exact ⟨v, rfl, hv⟩
    | succ i => obtain ⟨v', e1, e2⟩ := h2 i c' (by simpa using hi); exact ⟨v', by simpa using e1, e2⟩
theorem toV_mk {M : Mem} {c : AV} {v : Value} (h : c.toV = some v) : DenP M c v := fun ρ => by
  unfold AV.toV at h
  split at h
  · split at h
    · rename_i cs vs hvs
      cases h
      obtain ⟨h1, h2⟩ := mapV_at hvs
      exact .agg _ vs h1.symm fun i c v hc hv => by
        obtain ⟨v', e1, e2⟩ := h2 i c hc
        rw [hv] at e1; cases e1
        exact toV1_mk e2 ρ
    · cases h
  · exact toV1_mk h ρ
theorem toR_mk {M : Mem} {c : AV} {v : Value} (h : c.toR = some v) : DenP M c v := fun ρ => by
  unfold AV.toR at h
  split at h
  · split at h
    · rename_i cs vs hvs
      cases h
      obtain ⟨h1, h2⟩ := toVs_at hvs
      exact .tup _ vs h1.symm fun i c v hc hv => by
        obtain ⟨v', e1, e2⟩ := h2 i c hc
        rw [hv] at e1; cases e1
        exact toV_mk e2 ρ
    · cases h
  · exact toV_mk h ρ

theorem ACalls.of_calls {X : Cx} {f : FuncId} (hf : FnOk X.P f) {args : List AV} {vs : List Value} {r : AV} {v : Value} (ha : toVs args = some vs) (hr : r.toR = some v) (h : ∀ w : World, Calls X.P f vs.toArray w fun e w' => e = .returned v ∧ Below w.heap.size w w') (hXd : X.dr = false := by exact rfl) : ACalls X f args r := by
  refine ⟨hf, fun M w us hg hp hl hd => ?_⟩
  obtain ⟨h1, h2⟩ := toVs_at ha
  have hus : us = vs := by
    apply List.ext_getElem?
    intro i
    cases hi : args[i]? with
    | none =>
      have : args.length ≤ i := by simpa using hi
      rw [List.getElem?_eq_none (by omega), List.getElem?_eq_none (by omega)]
    | some c =>
      obtain ⟨v', e1, e2⟩ := h2 i c hi
      have hlt : i < us.length := by
        have := (List.getElem?_eq_some_iff.1 hi).1
        omega
      have e3 : us[i]? = some us[i] := List.getElem?_eq_getElem hlt
      rw [e3, e1]
      have := hd i c _ hi e3 (fun _ => (none, 0))
      rw [AV.toV_den e2 this]
  subst hus
  refine (h w).mono fun e w' ⟨he, hb⟩ => ⟨v, M, he, toR_mk hr, Mem.le_refl _, fun p u hp => .inl hp, fun p u hpu => ?_, hb, fun h => by rw [hXd] at h; cases h⟩
  obtain ⟨e1, e2⟩ := hp p u hpu
  exact ⟨(hb.cell (cell_lt e1)).trans e1, e2⟩

end Go.Proofs.Ytoeghejbgibioaa

namespace Go.Proofs.Ytoeghejbgibioaa
open Go Go.RowKit
set_option linter.unusedVariables false
set_option linter.unusedSimpArgs false

theorem TIok.mk {P : Program} {t : TypeId} {ti : TI} {d : TypeDesc} (hu : P.underlying t = some d) (ha : aggOf d = ti.k.agg) (hn : ∀ ms, d ≠ .interface ms) (hi : (P.info? t).map (fun i => (i.size, i.zero)) = some (ti.size, some ti.zero))
    (hk : match ti.k with
      | .cell => True
      | .struct fs => ∃ fields, P.underlying t = some (.struct fields) ∧ fields.size = fs.length ∧ ∀ (i : Nat) (off sz : Nat), fs[i]? = some (off, sz) → ∃ f, fields[i]? = some f ∧ f.offset = off ∧ ∃ fi, P.info? f.type = some fi ∧ fi.size = sz ∧ sz ≠ 0
      | .slice E es eb ez => P.underlying t = some (.slice E) ∧ ∃ i, P.info? E = some i ∧ i.size = es ∧ i.bytes = eb ∧ i.zero = some ez
      | .arr n E es => P.underlying t = some (.array n E) ∧ ∃ i, P.info? E = some i ∧ i.size = es
      | .str => P.underlying t = some .string
      | .int k => P.underlying t = some (.int k)
      | .bool => P.underlying t = some .bool
      | .map k e => P.underlying t = some (.map k e) ∧ P.underlying k = some .string ∧ P.underlying e = some (.int .i64) ∧ ∃ i, P.info? e = some i ∧ i.zero = some (.int .i64 0)) : TIok P t ti := by
  refine ⟨⟨d, hu, ha, hn⟩, ?_, hk⟩
  cases hq : P.info? t with
  | none => rw [hq] at hi; cases hi
  | some i =>
    rw [hq] at hi
    simp at hi
    exact ⟨i, rfl, hi.1, hi.2⟩
theorem map_elem {P : Program} {e : TypeId} (h : (P.info? e).map (fun i => i.zero) = some (some (.int .i64 0))) : ∃ i, P.info? e = some i ∧ i.zero = some (.int .i64 0) := by
  cases hq : P.info? e with
  | none => rw [hq] at h; cases h
  | some i => rw [hq] at h; exact ⟨i, rfl, by simpa using h⟩
theorem slice_ok {P : Program} {t E es eb : Nat} {ez : Value} (hu : P.underlying t = some (.slice E)) (hi : (P.info? E).map (fun i => (i.size, i.bytes, i.zero)) = some (es, eb, some ez)) : P.underlying t = some (.slice E) ∧ ∃ i, P.info? E = some i ∧ i.size = es ∧ i.bytes = eb ∧ i.zero = some ez := by
  refine ⟨hu, ?_⟩
  cases hq : P.info? E with
  | none => rw [hq] at hi; cases hi
  | some i =>
    rw [hq] at hi
    simp at hi
    exact ⟨i, rfl, hi.1, hi.2.1, hi.2.2⟩
theorem arr_ok {P : Program} {t n E es : Nat} (hu : P.underlying t = some (.array n E)) (hi : (P.info? E).map (fun i => i.size) = some es) : P.underlying t = some (.array n E) ∧ ∃ i, P.info? E = some i ∧ i.size = es := by
  refine ⟨hu, ?_⟩
  cases hq : P.info? E with
  | none => rw [hq] at hi; cases hi
  | some i =>
    rw [hq] at hi
    simp at hi
    exact ⟨i, rfl, hi⟩
def fieldsB (P : Program) : List Field → List (Nat × Nat) → Bool
  | [], [] => true
  | f :: l, (off, sz) :: r => Nat.beq f.offset off && (match P.info? f.type with
    | some i => Nat.beq i.size sz && Nat.ble 1 sz
    | none => false) && fieldsB P l r
  | _, _ => false
theorem fieldsB_at {P : Program} : ∀ {l : List Field} {fs : List (Nat × Nat)}, fieldsB P l fs = true → l.length = fs.length ∧ ∀ (i : Nat) (off sz : Nat), fs[i]? = some (off, sz) → ∃ f, l[i]? = some f ∧ f.offset = off ∧ ∃ fi, P.info? f.type = some fi ∧ fi.size = sz ∧ sz ≠ 0
  | [], [], _ => ⟨rfl, fun i off sz h => by simp at h⟩
  | f :: l, (off0, sz0) :: r, h => by
    simp only [fieldsB, Bool.and_eq_true] at h
    obtain ⟨⟨h1, h2⟩, h3⟩ := h
    obtain ⟨h4, h5⟩ := fieldsB_at h3
    refine ⟨by simp [h4], fun i off sz hi => ?_⟩
    cases i with
    | zero =>
      simp at hi
      obtain ⟨rfl, rfl⟩ := hi
      split at h2
      · rename_i fi hfi
        rw [Bool.and_eq_true] at h2
        have := Nat.le_of_ble_eq_true h2.2
        exact ⟨f, rfl, Nat.eq_of_beq_eq_true h1, fi, hfi, Nat.eq_of_beq_eq_true h2.1, by omega⟩
      · cases h2
    | succ i =>
      obtain ⟨f', e1, e2⟩ := h5 i off sz (by simpa using hi)
      exact ⟨f', by simpa using e1, e2⟩
  | [], _ :: _, h => by cases h
  | _ :: _, [], h => by cases h
theorem fields_ok {P : Program} {t : Nat} {fields : Array Field} {fs : List (Nat × Nat)} (hu : P.underlying t = some (.struct fields)) (hb : fieldsB P fields.toList fs = true) :
    ∃ fields, P.underlying t = some (.struct fields) ∧ fields.size = fs.length ∧ ∀ (i : Nat) (off sz : Nat), fs[i]? = some (off, sz) → ∃ f, fields[i]? = some f ∧ f.offset = off ∧ ∃ fi, P.info? f.type = some fi ∧ fi.size = sz ∧ sz ≠ 0 := by
  obtain ⟨h1, h2⟩ := fieldsB_at hb
  refine ⟨fields, hu, by simpa using h1, fun i off sz hi => ?_⟩
  obtain ⟨f, e1, e2⟩ := h2 i off sz hi
  exact ⟨f, by simpa using e1, e2⟩
def tiAllP (P : Program) : List (Nat × TI) → Prop
  | [] => True
  | (t, ti) :: l => TIok P t ti ∧ tiAllP P l
theorem tiAll {P : Program} : ∀ (l : List (Nat × TI)), tiAllP P l → ∀ t ti, lk t l = some ti → TIok P t ti
  | [], _, t, ti, h => by cases h
  | (t0, ti0) :: l, h, t, ti, hl => by
    rw [lk_cons] at hl
    split at hl
    · rename_i he; subst he; cases hl; exact h.1
    · exact tiAll l h.2 t ti hl

section
variable {X : Cx} {n : Nat} {st : St} {Q : Exit → St → Prop}

theorem W.adopt {c : Code} (t r E s : Nat) (f : Nat → Nat → D) (ht : st.get t = .dat (.val (.slice none 0 0))) (hf : cleanF r st.fr = true) (hh : cleanH r st.hp = true) (hr : AV.uses r (st.get r) = false)
    (h : St.un st fun fr hp => W X n c ⟨(t, .own r s 0 0) :: fr, (r, .row E s 0 f) :: hp⟩ Q) (hkr : kp r = false := by exact rfl) : W X n c st Q := ⟨fun hX R hn ρ M a w hsim => by
  have hne : ∀ k, k ≠ r → upd ρ r (none, 0) k = ρ k := fun k hk => upd_ne ρ hk _
  have hslot : ∀ u, AV.uses r (st.get u) = false := fun u => by
    by_cases hu : u = r
    · subst hu; exact hr
    · exact get_uses hf hu
  refine (show W X n c ⟨(t, .own r s 0 0) :: st.fr, (r, .row E s 0 f) :: st.hp⟩ Q from h).out hX R hn (upd ρ r (none, 0)) M a w ?_
  have hents : ∀ k q, (⟨(t, .own r s 0 0) :: st.fr, (r, .row E s 0 f) :: st.hp⟩ : St).ent k = some q → (k = r ∧ q = .row E s 0 f) ∨ (k ≠ r ∧ st.ent k = some q) := fun k q hq => by
    have hq' : lk k ((r, .row E s 0 f) :: st.hp) = some q := hq
    rw [lk_cons] at hq'
    split at hq'
    · rename_i hrk; cases hq'; exact .inl ⟨hrk.symm, rfl⟩
    · rename_i hrk; exact .inr ⟨fun e => hrk e.symm, hq'⟩
  refine ⟨hsim.size, hsim.defers, hsim.chg, hsim.m0, hsim.g0, hsim.fresh, hsim.pub, fun u => ?_, fun k q hq => ?_, fun k q g hq ho hg => ?_, fun k k' q q' hq hq' ho ho' hkk g hg hg' => ?_, fun k q g p v hq ho hg hp => ?_, fun k hk => (hne k fun e => by rw [e, hkr] at hk; cases hk).trans (hsim.fix k hk), hsim.drn, hsim.kn⟩
  · have := St.get_cons st t (.own r s 0 0) ((r, .row E s 0 f) :: st.hp) u
    rw [this]
    by_cases hu : t = u
    · subst hu
      rw [if_pos rfl]
      have h1 := hsim.slots t
      rw [ht] at h1
      have h2 := val_of h1
      rw [h2]
      have := DenA.own (ρ := upd ρ r (none, 0)) (M := M) r s 0 0
      rw [upd_same, partOf_zero] at this
      exact this
    · rw [if_neg hu]
      exact (hsim.slots u).keep (Mem.le_refl _) fun k hk => hne k fun e => by subst e; rw [hslot u] at hk; cases hk
  · rcases hents k q hq with ⟨rfl, rfl⟩ | ⟨hk, h1⟩
    · refine ⟨[], ?_, fun i hi => absurd hi (by omega)⟩
      rw [upd_same]
      exact World.ownsRow_nil w 0 E s
    · exact (hsim.ents k q h1).keep (Mem.le_refl _) (hne k hk) (fun j hj => hne j fun e => by
        subst e
        rw [cleanH_get hh hk q h1] at hj; cases hj) fun _ _ _ _ => rfl
  · rcases hents k q hq with ⟨rfl, rfl⟩ | ⟨hk, h1⟩
    · rw [upd_same] at hg; cases hg
    · rw [hne k hk] at hg; exact hsim.own k q g h1 ho hg
  · rcases hents k q hq with ⟨rfl, rfl⟩ | ⟨hk, h1⟩
    · rw [upd_same] at hg; cases hg
    · rcases hents k' q' hq' with ⟨rfl, rfl⟩ | ⟨hk', h1'⟩
      · rw [upd_same] at hg'; cases hg'
      · rw [hne k hk] at hg; rw [hne k' hk'] at hg'
        exact hsim.apart k k' q q' h1 h1' ho ho' hkk g hg hg'
  · rcases hents k q hq with ⟨rfl, rfl⟩ | ⟨hk, h1⟩
    · rw [upd_same] at hg; cases hg
    · rw [hne k hk] at hg; exact hsim.sep k q g p v h1 ho hg hp⟩

theorem leF_keep (st : St) : ∀ l : List Nat, leF st (keepF st l)
  | [] => trivial
  | t :: r => ⟨AVle.refl _, leF_keep st r⟩
theorem leH_keep (st : St) : ∀ l : List Nat, leH st (keepH st l)
  | [] => trivial
  | t :: r => by
    unfold keepH
    split
    · rename_i e he
      exact ⟨⟨e, he, EntLe.refl e, rfl⟩, leH_keep st r⟩
    · exact leH_keep st r
theorem leF_app {st : St} : ∀ {l m : List (Nat × AV)}, leF st l → leF st m → leF st (l ++ m)
  | [], _, _, h => h
  | _ :: _, _, h, h' => ⟨h.1, leF_app h.2 h'⟩
theorem leH_app {st : St} : ∀ {l m : List (Nat × Ent)}, leH st l → leH st m → leH st (l ++ m)
  | [], _, _, h => h
  | _ :: _, _, h, h' => ⟨h.1, leH_app h.2 h'⟩
def keepFK (st : St) : List Nat → (List (Nat × AV) → Prop) → Prop
  | [], K => K []
  | t :: r, K => force (st.get t) fun c => keepFK st r fun l => K ((t, c) :: l)
def keepHK (st : St) : List Nat → (List (Nat × Ent) → Prop) → Prop
  | [], K => K []
  | t :: r, K => match st.ent t with
    | some e => forceE e fun e => keepHK st r fun l => K ((t, e) :: l)
    | none => keepHK st r K
theorem keepFK_eq (st : St) : ∀ (l : List Nat) (K : List (Nat × AV) → Prop), keepFK st l K = K (keepF st l)
  | [], K => rfl
  | t :: r, K => by
    show force (st.get t) _ = _
    rw [force_eq, keepFK_eq st r]
    rfl
theorem keepHK_eq (st : St) : ∀ (l : List Nat) (K : List (Nat × Ent) → Prop), keepHK st l K = K (keepH st l)
  | [], K => rfl
  | t :: r, K => by
    unfold keepHK keepH
    split
    · rename_i e he
      rw [forceE_eq, keepHK_eq st r, he]
    · rename_i he
      rw [keepHK_eq st r, he]
theorem W.loopK {ι : Type} {c : Code} (live lrefs : List Nat) (inv : ι → List (Nat × AV)) (hinv : ι → List (Nat × Ent)) (P : ι → Prop) (μ : ι → Nat) (i0 : ι) (h0 : P i0) (hf : leF st (inv i0)) (hh : leH st (hinv i0))
    (round : keepFK st live fun lf => keepHK st lrefs fun lh => ∀ i, P i → W X n c ⟨inv i ++ lf, hinv i ++ lh⟩ (fun e st' => match e with
      | .normal => ∃ i', P i' ∧ μ i' < μ i ∧ leF st' (inv i') ∧ leH st' (hinv i') ∧ leF st' lf ∧ leH st' lh
      | e => Q e st')) : W X n (.loop c) st Q := by
  rw [keepFK_eq, keepHK_eq] at round
  refine W.loop (fun i => ⟨inv i ++ keepF st live, hinv i ++ keepH st lrefs⟩) P μ i0 h0 (leF_app hf (leF_keep st live)) (leH_app hh (leH_keep st lrefs)) fun i hi => ?_
  refine (round i hi).mono fun e st' hq => ?_
  cases e with
  | normal =>
    obtain ⟨i', h1, h2, h3, h4, h5, h6⟩ := hq
    exact ⟨i', h1, h2, leF_app h3 h5, leH_app h4 h6⟩
  | _ => exact hq

theorem W.drawT {id : Nat} {ms : List Nat} {drs : List (Option Nat × Option Nat)} {l : List Oper} (tb : List (Nat × (List Nat × List (Option Nat × Option Nat)))) (ht : lk id tb = some (ms, drs)) (hm : X.P.follows .mixedOrders = true) (hB : drawB n l ms drs = true)
    (h : exD X n l ms drs st l ms drs 0 [] fun effs => CndK (apartB ms effs drs 0 = true) (Q .normal (vw (fun _ => .app) drs effs 0 st))) : W X n (.region id l.toArray true) st Q :=
  W.draw ms drs hm hB h
def drP (l : List Nat) : List (Option Nat × Option Nat) → List (Option Nat × Option Nat)
  | [] => []
  | (d, r) :: t => match hasN d l with
    | true => (d, none) :: drP l t
    | false => (d, r) :: drP l t
theorem W.drawP {id : Nat} {ms : List Nat} {drs0 : List (Option Nat × Option Nat)} {l : List Oper} (tb : List (Nat × (List Nat × List (Option Nat × Option Nat)))) (ht : lk id tb = some (ms, drs0)) (hm : X.P.follows .mixedOrders = true) (hB : drawB n l ms (drP X.pb drs0) = true)
    (h : exD X n l ms (drP X.pb drs0) st l ms (drP X.pb drs0) 0 [] fun effs => CndK (apartB ms effs (drP X.pb drs0) 0 = true) (Q .normal (vw (fun _ => .app) (drP X.pb drs0) effs 0 st))) : W X n (.region id l.toArray true) st Q :=
  W.draw ms (drP X.pb drs0) hm hB h
end
theorem wrapOk {z : Int} (h : -9223372036854775808 ≤ z ∧ z ≤ 9223372036854775807) : z = IntKind.i64.wrap z := by rw [IntKind.wrap_i64]; omega
theorem wrapU {z : Int} (h : 0 ≤ z ∧ z ≤ 18446744073709551615) : z = IntKind.u64.wrap z := by unfold IntKind.wrap; simp [IntKind.signed, IntKind.bits]; omega
theorem divOk {a b : Int} (ha : 0 ≤ a) (hb : 0 < b) (hm : a ≤ 9223372036854775807) : a / b = IntKind.i64.wrap (a.tdiv b) := by
  rw [Int.tdiv_eq_ediv_of_nonneg ha]
  refine wrapOk ⟨?_, ?_⟩
  · have := Int.ediv_nonneg ha (Int.le_of_lt hb); omega
  · have := Int.ediv_le_self b ha; omega
theorem CallA.pl {X : Cx} {st : St} {f : FuncId} {cs ds : List AV} {r : AV} (ha : ArgsLe X st cs ds) (hc : ACalls X f ds r) (hr : r.plain = true) : CallA X st f cs r := CallA.plain hc ha hr
theorem modOk {a b c : Int} (ha : 0 ≤ a) (hb : 0 < b) (hc : 0 ≤ c) (hm : b + c ≤ 9223372036854775807) : a % b + c = IntKind.i64.wrap (a.tmod b + c) := by
  rw [Int.tmod_eq_emod_of_nonneg ha]
  have h1 := Int.emod_nonneg a (show b ≠ 0 by omega)
  have h2 := Int.emod_lt_of_pos a hb
  exact wrapOk ⟨by omega, by omega⟩
def pureL : List AV → Bool
  | [] => true
  | c :: l => match c.pure with
    | true => pureL l
    | false => false
theorem ArgsLe.refl {X : Cx} {st : St} : ∀ {cs : List AV}, pureL cs = true → ArgsLe X st cs cs
  | [], _ => trivial
  | c :: l, h => by
    unfold pureL at h
    split at h
    · rename_i hc
      exact ⟨ArgLe.refl hc, ArgsLe.refl h⟩
    · cases h
theorem CallA.p2 {X : Cx} {st : St} {f : FuncId} {ds : List AV} {r : AV} (hp : pureL ds = true) (hc : ACalls X f ds r) (hr : r.plain = true) : CallA X st f ds r := CallA.plain hc (ArgsLe.refl hp) hr
end Go.Proofs.Ytoeghejbgibioaa

namespace Go.Proofs.Ytoeghejbgibioaa
open Go Go.RowKit
set_option linter.unusedVariables false
set_option linter.unusedSimpArgs false
set_option linter.unnecessarySimpa false

structure HeapOk (ρ : Env) (M : Mem) (w : World) (H : List (Nat × Ent)) : Prop where
  ents : ∀ k e, lk k H = some e → EntOk ρ M w k e
  apart : ∀ k k' e e', lk k H = some e → lk k' H = some e' → e.owned = true → e'.owned = true → k ≠ k' → ∀ g, (ρ k).1 = some g → (ρ k').1 ≠ some g
  sep : ∀ k e g p v, lk k H = some e → e.owned = true → (ρ k).1 = some g → M p = some v → p.block ≠ g
def blkOf (ρ : Env) (H : List (Nat × Ent)) (k : Nat) : Option Nat := match lk k H with
  | some e => match e.owned with
    | true => (ρ k).1
    | false => none
  | none => none
def blocksOf (ρ : Env) (H : List (Nat × Ent)) : List Nat := H.filterMap fun q => blkOf ρ H q.1
theorem blocksOf_mem {ρ : Env} {H : List (Nat × Ent)} {g : Nat} (h : g ∈ blocksOf ρ H) : ∃ k e, lk k H = some e ∧ e.owned = true ∧ (ρ k).1 = some g := by
  unfold blocksOf at h
  rw [List.mem_filterMap] at h
  obtain ⟨q, _, hq⟩ := h
  unfold blkOf at hq
  split at hq
  · rename_i e he
    split at hq
    · rename_i ho; exact ⟨_, _, he, ho, hq⟩
    · cases hq
  · cases hq
theorem blkOf_mem {ρ : Env} {H : List (Nat × Ent)} {k g : Nat} (h : blkOf ρ H k = some g) : g ∈ blocksOf ρ H := by
  have h' := h
  unfold blkOf at h'
  split at h'
  · rename_i e he
    unfold blocksOf
    rw [List.mem_filterMap]
    exact ⟨(k, e), lk_mem he, h⟩
  · cases h'
theorem blkOf_of {ρ : Env} {H : List (Nat × Ent)} {k g : Nat} {e : Ent} (h : lk k H = some e) (ho : e.owned = true) (hg : (ρ k).1 = some g) : blkOf ρ H k = some g := by
  unfold blkOf
  simp only [h, ho, hg]
theorem blkOf_inv {ρ : Env} {H : List (Nat × Ent)} {k g : Nat} (h : blkOf ρ H k = some g) : ∃ e, lk k H = some e ∧ e.owned = true ∧ (ρ k).1 = some g := by
  unfold blkOf at h
  split at h
  · rename_i e he
    split at h
    · rename_i ho; exact ⟨e, he, ho, h⟩
    · cases h
  · cases h
theorem blocksOf_of {ρ : Env} {H : List (Nat × Ent)} {k g : Nat} {e : Ent} (h : lk k H = some e) (ho : e.owned = true) (hg : (ρ k).1 = some g) : g ∈ blocksOf ρ H := by
  unfold blocksOf
  rw [List.mem_filterMap]
  refine ⟨(k, e), lk_mem h, ?_⟩
  unfold blkOf
  simp only [h, ho, hg]

theorem ble_of {a b : Nat} (h : a ≤ b) : Nat.ble a b = true := by simpa [Nat.ble_eq] using h
def updO (mv : Option Nat) (ρ ρf : Env) : Env := match mv with
  | none => ρ
  | some m => upd ρ m (ρf m)
def updR (mv : Option Nat) (σ : Nat → Nat) (ρ ρf : Env) : Env := match mv with
  | none => ρ
  | some m => upd ρ (σ m) (ρf m)
structure HPost (dr : Bool) (ρ : Env) (M : Mem) (w : World) (H : List (Nat × Ent)) (ρ' : Env) (M' : Mem) (w' : World) (r : AV) (H' : List (Nat × Ent)) (mv : Option Nat) (v : Value) : Prop where
  den : DenA ρ' M' r v
  mem : Mem.le M M'
  fresh : ∀ p u, M' p = some u → M p = some u ∨ w.heap.size ≤ p.block
  pub : PubOk M' w'
  chg : Chg (blocksOf ρ H) w w'
  heap : HeapOk ρ' M' w' H'
  own : ∀ k e g, lk k H' = some e → e.owned = true → (ρ' k).1 = some g → w.heap.size ≤ g ∨ blkOf ρ H k = some g
  env : ∀ k, mv ≠ some k → ρ' k = ρ k
  drn : dr = true → w.drawn ≤ w'.drawn
structure HC (X : Cx) (f : FuncId) (args : List AV) (H : List (Nat × Ent)) (r : AV) (H' : List (Nat × Ent)) (mv : Option Nat) : Prop where
  fn : FnOk X.P f
  out : ∀ (M : Mem) (w : World) (ρ : Env) (vs : List Value), X.glob M → PubOk M w → args.length = vs.length → (∀ (i : Nat) (c : AV) (v : Value), args[i]? = some c → vs[i]? = some v → DenA ρ M c v) → HeapOk ρ M w H →
    Calls X.P f vs.toArray w fun e w' => ∃ v ρ' M', e = .returned v ∧ HPost X.dr ρ M w H ρ' M' w' r H' mv v

theorem HC.at {X : Cx} {l : List Nat} {f : FuncId} {args : List AV} {H : List (Nat × Ent)} {r : AV} {H' : List (Nat × Ent)} {mv : Option Nat} (h : HC X f args H r H' mv) : HC { X with pb := l } f args H r H' mv := ⟨h.fn, h.out⟩
def AV.ren (σ : Nat → Nat) : AV → AV
  | .ptr r o => .ptr (σ r) o
  | .own r s l n => .own (σ r) s l n
  | .rptr r s k j => .rptr (σ r) s k j
  | .mp r => .mp (σ r)
  | .agg cs => .agg (renL σ cs)
  | .tup cs => .tup (renL σ cs)
  | .clo g cs => .clo g (renL σ cs)
  | .junk => .junk
  | .tt => .tt
  | .ff => .ff
  | .dat d => .dat d
  | .ro n c => .ro n c
where renL (σ : Nat → Nat) : List AV → List AV
  | [] => []
  | c :: l => AV.ren σ c :: renL σ l
theorem renL_eq (σ : Nat → Nat) : ∀ cs : List AV, AV.ren.renL σ cs = cs.map (AV.ren σ)
  | [] => rfl
  | c :: l => by simp only [AV.ren.renL, List.map_cons, renL_eq σ l]
def Ent.ren (σ : Nat → Nat) : Ent → Ent
  | .blk t cs => .blk t (AV.ren.renL σ cs)
  | .row E s n f => .row E s n f
  | .pub s n f => .pub s n f
  | .dead => .dead
  | .mp P k e L => .mp P k e L
  | .mpx P k e L es clock gm => .mpx P k e L es clock gm
  | .it rm gm es clock left cur => .it rm gm es clock left cur
def renH (σ : Nat → Nat) : List (Nat × Ent) → List (Nat × Ent)
  | [] => []
  | (k, e) :: l => (σ k, Ent.ren σ e) :: renH σ l
theorem Ent.ren_owned (σ : Nat → Nat) (e : Ent) : (e.ren σ).owned = e.owned := by cases e <;> rfl
theorem DenA.ren {σ : Nat → Nat} {ρ : Env} {M : Mem} {c : AV} {v : Value} (h : DenA (fun k => ρ (σ k)) M c v) : DenA ρ M (c.ren σ) v := by
  induction h with
  | junk v => exact .junk v
  | tt => exact .tt
  | ff => exact .ff
  | dat h => exact .dat h
  | ptr r off g h => exact .ptr _ off g h
  | ro n c ad u hm hd => exact .ro n c ad u hm hd
  | own r size lo n => exact .own (σ r) size lo n
  | rptr r size k j g h => exact .rptr _ size k j g h
  | mp r g h => exact .mp _ g h
  | agg cs vs hl h ih =>
    show DenA ρ M (.agg (AV.ren.renL σ cs)) _
    rw [renL_eq]
    refine .agg _ vs (by simpa using hl) fun i c v hc hv => ?_
    rw [List.getElem?_map] at hc
    cases hq : cs[i]? with
    | none => rw [hq] at hc; cases hc
    | some c0 => rw [hq] at hc; cases hc; exact ih i c0 v hq hv
  | tup cs vs hl h ih =>
    show DenA ρ M (.tup (AV.ren.renL σ cs)) _
    rw [renL_eq]
    refine .tup _ vs (by simpa using hl) fun i c v hc hv => ?_
    rw [List.getElem?_map] at hc
    cases hq : cs[i]? with
    | none => rw [hq] at hc; cases hc
    | some c0 => rw [hq] at hc; cases hc; exact ih i c0 v hq hv
  | clo g cs vs hl h ih =>
    show DenA ρ M (.clo g (AV.ren.renL σ cs)) _
    rw [renL_eq]
    refine .clo g _ vs (by simpa using hl) fun i c v hc hv => ?_
    rw [List.getElem?_map] at hc
    cases hq : cs[i]? with
    | none => rw [hq] at hc; cases hc
    | some c0 => rw [hq] at hc; cases hc; exact ih i c0 v hq hv
theorem DenA.unren {σ : Nat → Nat} {ρ : Env} {M : Mem} {c' : AV} {v : Value} (h : DenA ρ M c' v) : ∀ c : AV, c' = c.ren σ → DenA (fun k => ρ (σ k)) M c v := by
  induction h with
  | junk v => intro c hc; cases c <;> simp [AV.ren] at hc; exact .junk v
  | tt => intro c hc; cases c <;> simp [AV.ren] at hc; exact .tt
  | ff => intro c hc; cases c <;> simp [AV.ren] at hc; exact .ff
  | dat h => intro c hc; cases c <;> simp [AV.ren] at hc; subst hc; exact .dat h
  | ptr r off g h => intro c hc; cases c <;> simp [AV.ren] at hc; obtain ⟨rfl, rfl⟩ := hc; exact .ptr _ _ g h
  | ro n c ad u hm hd => intro c hc; cases c <;> simp [AV.ren] at hc; obtain ⟨rfl, rfl⟩ := hc; exact .ro _ _ ad u hm hd
  | own r size lo n => intro c hc; cases c <;> simp [AV.ren] at hc; obtain ⟨rfl, rfl, rfl, rfl⟩ := hc; exact DenA.own (ρ := fun k => ρ (σ k)) _ _ _ _
  | rptr r size k j g h => intro c hc; cases c <;> simp [AV.ren] at hc; obtain ⟨rfl, rfl, rfl, rfl⟩ := hc; exact .rptr _ _ _ _ g h
  | mp r g h => intro c hc; cases c <;> simp [AV.ren] at hc; subst hc; exact .mp _ g h
  | agg cs vs hl h ih =>
    intro c hc
    cases c <;> simp [AV.ren] at hc
    rename_i ds
    rw [renL_eq] at hc
    subst hc
    exact .agg _ vs (by simpa using hl) fun i c v hc hv => ih i (c.ren σ) v (by rw [List.getElem?_map, hc]; rfl) hv c rfl
  | tup cs vs hl h ih =>
    intro c hc
    cases c <;> simp [AV.ren] at hc
    rename_i ds
    rw [renL_eq] at hc
    subst hc
    exact .tup _ vs (by simpa using hl) fun i c v hc hv => ih i (c.ren σ) v (by rw [List.getElem?_map, hc]; rfl) hv c rfl
  | clo g cs vs hl h ih =>
    intro c hc
    cases c <;> simp [AV.ren] at hc
    rename_i g' ds
    obtain ⟨rfl, hc⟩ := hc
    rw [renL_eq] at hc
    subst hc
    exact .clo g _ vs (by simpa using hl) fun i c v hc hv => ih i (c.ren σ) v (by rw [List.getElem?_map, hc]; rfl) hv c rfl
theorem EntOk.ren {σ : Nat → Nat} {ρ : Env} {M : Mem} {w : World} {k : Nat} {e : Ent} (h : EntOk (fun k => ρ (σ k)) M w k e) : EntOk ρ M w (σ k) (e.ren σ) := by
  cases e with
  | blk t cs =>
    obtain ⟨g, vs, h1, h2, h3, h4⟩ := h
    show EntOk ρ M w (σ k) (.blk t (AV.ren.renL σ cs))
    rw [renL_eq]
    refine ⟨g, vs, h1, h2, by simpa using h3, fun i c v hc hv => ?_⟩
    rw [List.getElem?_map] at hc
    cases hq : cs[i]? with
    | none => rw [hq] at hc; cases hc
    | some c0 => rw [hq] at hc; cases hc; exact (h4 i c0 v hq hv).ren
  | row E s n f => exact h
  | pub s n f => exact h
  | dead => trivial
  | mp P k' t L => exact h
  | mpx => exact h
  | it => exact h
theorem EntOk.unren {σ : Nat → Nat} {ρ : Env} {M : Mem} {w : World} {k : Nat} {e : Ent} (h : EntOk ρ M w (σ k) (e.ren σ)) : EntOk (fun k => ρ (σ k)) M w k e := by
  cases e with
  | blk t cs =>
    obtain ⟨g, vs, h1, h2, h3, h4⟩ := h
    rw [renL_eq] at h3 h4
    exact ⟨g, vs, h1, h2, by simpa using h3, fun i c v hc hv => (h4 i (c.ren σ) v (by rw [List.getElem?_map, hc]; rfl) hv).unren c rfl⟩
  | row E s n f => exact h
  | pub s n f => exact h
  | dead => trivial
  | mp P k' t L => exact h
  | mpx => exact h
  | it => exact h
theorem lk_ren {σ : Nat → Nat} (hσ : ∀ a b, σ a = σ b → a = b) (k : Nat) : ∀ H : List (Nat × Ent), lk (σ k) (renH σ H) = (lk k H).map (Ent.ren σ)
  | [] => rfl
  | (j, e) :: l => by
    simp only [renH, lk_cons, lk_ren hσ k l]
    by_cases h : j = k
    · rw [if_pos h, if_pos (by rw [h])]; rfl
    · rw [if_neg h, if_neg (fun he => h (hσ _ _ he))]
theorem lk_unren {σ : Nat → Nat} {k : Nat} {e : Ent} : ∀ {H : List (Nat × Ent)}, lk k (renH σ H) = some e → ∃ j, k = σ j
  | [], h => by cases h
  | (j, e') :: l, h => by
    simp only [renH, lk_cons] at h
    split at h
    · rename_i hk; exact ⟨j, hk.symm⟩
    · exact lk_unren h
theorem lk_unren' {σ : Nat → Nat} (hσ : ∀ a b, σ a = σ b → a = b) {k : Nat} {e : Ent} {H : List (Nat × Ent)} (h : lk k (renH σ H) = some e) : ∃ j e0, k = σ j ∧ lk j H = some e0 ∧ e = e0.ren σ := by
  obtain ⟨j, rfl⟩ := lk_unren h
  rw [lk_ren hσ] at h
  cases hq : lk j H with
  | none => rw [hq] at h; cases h
  | some e0 => rw [hq] at h; cases h; exact ⟨j, e0, rfl, hq, rfl⟩
theorem HeapOk.ren {σ : Nat → Nat} (hσ : ∀ a b, σ a = σ b → a = b) {ρ : Env} {M : Mem} {w : World} {H : List (Nat × Ent)} (h : HeapOk (fun k => ρ (σ k)) M w H) : HeapOk ρ M w (renH σ H) where
  ents k e he := by
    obtain ⟨j, e0, rfl, h1, rfl⟩ := lk_unren' hσ he
    exact (h.ents j e0 h1).ren
  apart k k' e e' he he' ho ho' hne := by
    obtain ⟨j, e0, rfl, h1, rfl⟩ := lk_unren' hσ he
    obtain ⟨j', e0', rfl, h1', rfl⟩ := lk_unren' hσ he'
    rw [Ent.ren_owned] at ho ho'
    exact h.apart j j' e0 e0' h1 h1' ho ho' fun e => hne (by rw [e])
  sep k e g p v he ho := by
    obtain ⟨j, e0, rfl, h1, rfl⟩ := lk_unren' hσ he
    rw [Ent.ren_owned] at ho
    exact h.sep j e0 g p v h1 ho
theorem HeapOk.unren {σ : Nat → Nat} (hσ : ∀ a b, σ a = σ b → a = b) {ρ : Env} {M : Mem} {w : World} {H : List (Nat × Ent)} (h : HeapOk ρ M w (renH σ H)) : HeapOk (fun k => ρ (σ k)) M w H where
  ents k e he := (h.ents (σ k) (e.ren σ) (by rw [lk_ren hσ, he]; rfl)).unren
  apart k k' e e' he he' ho ho' hne := h.apart (σ k) (σ k') (e.ren σ) (e'.ren σ) (by rw [lk_ren hσ, he]; rfl) (by rw [lk_ren hσ, he']; rfl) (by rw [Ent.ren_owned]; exact ho) (by rw [Ent.ren_owned]; exact ho') fun e => hne (hσ _ _ e)
  sep k e g p v he ho := h.sep (σ k) (e.ren σ) g p v (by rw [lk_ren hσ, he]; rfl) (by rw [Ent.ren_owned]; exact ho)
theorem blkOf_ren {σ : Nat → Nat} (hσ : ∀ a b, σ a = σ b → a = b) (ρ : Env) (H : List (Nat × Ent)) (k : Nat) : blkOf ρ (renH σ H) (σ k) = blkOf (fun k => ρ (σ k)) H k := by
  unfold blkOf
  rw [lk_ren hσ]
  cases lk k H with
  | none => rfl
  | some e => simp only [Option.map_some, Ent.ren_owned]
theorem blocksOf_ren {σ : Nat → Nat} (hσ : ∀ a b, σ a = σ b → a = b) (ρ : Env) (H : List (Nat × Ent)) : blocksOf ρ (renH σ H) = blocksOf (fun k => ρ (σ k)) H := by
  have hb : ∀ k, blkOf ρ (renH σ H) (σ k) = blkOf (fun k => ρ (σ k)) H k := blkOf_ren hσ ρ H
  have : ∀ L : List (Nat × Ent), (renH σ L).filterMap (fun q => blkOf ρ (renH σ H) q.1) = L.filterMap fun q => blkOf (fun k => ρ (σ k)) H q.1 := by
    intro L
    induction L with
    | nil => rfl
    | cons q L ih =>
      obtain ⟨k, e⟩ := q
      simp only [renH, List.filterMap_cons, hb, ih]
  exact this H

def rnm (l : List (Nat × Nat)) (k : Nat) : Nat := match lk k l with
  | some r => r
  | none => k + 2000000
def tgt (r : Nat) : List (Nat × Nat) → Bool
  | [] => false
  | (_, r') :: l => match Nat.beq r r' with
    | true => true
    | false => tgt r l
def injB : List (Nat × Nat) → Bool
  | [] => true
  | (_, r) :: l => match Nat.ble 2000000 r with
    | true => false
    | false => match tgt r l with
      | true => false
      | false => injB l
theorem tgt_of {k r : Nat} : ∀ {l : List (Nat × Nat)}, lk k l = some r → tgt r l = true
  | [], h => by cases h
  | (j, r') :: l, h => by
    rw [lk_cons] at h
    unfold tgt
    split
    · rfl
    · rename_i hb
      split at h
      · cases h; rw [Nat.beq_refl] at hb; cases hb
      · exact tgt_of h
theorem injB_lt {k r : Nat} : ∀ {l : List (Nat × Nat)}, injB l = true → lk k l = some r → r < 2000000
  | [], _, h => by cases h
  | (j, r') :: l, hi, h => by
    rw [lk_cons] at h
    unfold injB at hi
    split at hi
    · cases hi
    · rename_i hb
      split at hi
      · cases hi
      · split at h
        · cases h
          have : ¬ 2000000 ≤ r := fun hle => by
            have := ble_of hle
            rw [this] at hb; cases hb
          omega
        · exact injB_lt hi h
theorem injB_inj {a b r : Nat} : ∀ {l : List (Nat × Nat)}, injB l = true → lk a l = some r → lk b l = some r → a = b
  | [], _, h, _ => by cases h
  | (j, r') :: l, hi, ha, hb => by
    rw [lk_cons] at ha hb
    unfold injB at hi
    split at hi
    · cases hi
    · split at hi
      · cases hi
      · rename_i ht
        split at ha
        · rename_i h1
          cases ha
          split at hb
          · rename_i h2; rw [← h1, ← h2]
          · rw [tgt_of hb] at ht; cases ht
        · split at hb
          · cases hb
            rw [tgt_of ha] at ht; cases ht
          · exact injB_inj hi ha hb
theorem rnm_inj {l : List (Nat × Nat)} (h : injB l = true) : ∀ a b, rnm l a = rnm l b → a = b := by
  intro a b he
  unfold rnm at he
  cases ha : lk a l with
  | none =>
    cases hb : lk b l with
    | none => simp only [ha, hb] at he; omega
    | some r =>
      simp only [ha, hb] at he
      have := injB_lt h hb
      omega
  | some r =>
    cases hb : lk b l with
    | none =>
      simp only [ha, hb] at he
      have := injB_lt h ha
      omega
    | some r' =>
      simp only [ha, hb] at he
      subst he
      exact injB_inj h ha hb

def renMv (σ : Nat → Nat) : Option Nat → Option Nat
  | none => none
  | some m => some (σ m)
theorem HC.ren {X : Cx} {f : FuncId} {args : List AV} {H : List (Nat × Ent)} {r : AV} {H' : List (Nat × Ent)} {mv : Option Nat} (l : List (Nat × Nat)) (hl : injB l = true) (h : HC X f args H r H' mv) :
    HC X f (AV.ren.renL (rnm l) args) (renH (rnm l) H) (r.ren (rnm l)) (renH (rnm l) H') (renMv (rnm l) mv) := by
  have hσ := rnm_inj hl
  generalize rnm l = σ at hσ
  refine ⟨h.fn, fun M w ρ vs hg hp hlen ha hH => ?_⟩
  rw [renL_eq] at hlen ha
  refine (h.out M w (fun k => ρ (σ k)) vs hg hp (by simpa using hlen) (fun i c v hc hv => (ha i (c.ren σ) v (by rw [List.getElem?_map, hc]; rfl) hv).unren c rfl) (hH.unren hσ)).mono fun e w' ⟨v, ρ', M', he, hP⟩ => ?_
  obtain ⟨ρc, hρc⟩ : ∃ ρc : Env, ρc = updR mv σ ρ ρ' := ⟨_, rfl⟩
  have hc : (fun k => ρc (σ k)) = ρ' := by
    funext k
    rw [hρc]
    cases mv with
    | none => exact (hP.env k (by simp)).symm
    | some m =>
      show upd ρ (σ m) (ρ' m) (σ k) = ρ' k
      by_cases hk : m = k
      · subst hk; exact upd_same _ _ _
      · rw [upd_ne _ (fun e => hk (hσ _ _ e).symm)]
        exact (hP.env k (by simpa using hk)).symm
  have hden := hP.den
  have hheap := hP.heap
  have hown := hP.own
  rw [← hc] at hden hheap hown
  refine ⟨v, ρc, M', he, hden.ren, hP.mem, hP.fresh, hP.pub, by rw [blocksOf_ren hσ]; exact hP.chg, hheap.ren hσ, fun k e g hk ho hg => ?_, fun k hk => ?_, hP.drn⟩
  · obtain ⟨j, e0, rfl, h1, rfl⟩ := lk_unren' hσ hk
    rw [Ent.ren_owned] at ho
    rw [blkOf_ren hσ]
    exact hown j e0 g h1 ho hg
  · rw [hρc]
    cases mv with
    | none => rfl
    | some m => exact upd_ne _ (fun e => hk (by rw [e]; rfl)) _

def endH (R : Run) (M : Mem) (w : World) (B : List Nat) : Mem := fun p => match M p with
  | some v => some v
  | none => match Nat.ble R.w0.heap.size p.block with
    | true => match B.contains p.block with
      | true => none
      | false => allM w p
    | false => none
theorem endH_le (R : Run) (M : Mem) (w : World) (B : List Nat) : Mem.le M (endH R M w B) := fun p v hp => by unfold endH; rw [hp]
theorem endH_ok {R : Run} {M : Mem} {w : World} {B : List Nat} (h : PubOk M w) : PubOk (endH R M w B) w := fun p v hp => by
  unfold endH at hp
  cases hm : M p with
  | some u => rw [hm] at hp; cases hp; exact h p _ hm
  | none =>
    rw [hm] at hp
    simp only at hp
    split at hp
    · split at hp
      · cases hp
      · exact allM_ok w p v hp
    · cases hp
theorem endH_fresh {R : Run} {M : Mem} {w : World} {B : List Nat} {p : Addr} {v : Value} (hp : endH R M w B p = some v) : M p = some v ∨ (R.w0.heap.size ≤ p.block ∧ p.block ∉ B) := by
  unfold endH at hp
  cases hm : M p with
  | some u => rw [hm] at hp; exact .inl hp
  | none =>
    rw [hm] at hp
    simp only at hp
    split at hp
    · rename_i hb
      split at hp
      · cases hp
      · rename_i hc; exact .inr ⟨Nat.le_of_ble_eq_true hb, fun hm => by rw [List.contains_iff_mem.2 hm] at hc; cases hc⟩
    · cases hp
theorem endH_of {R : Run} {M : Mem} {w : World} {B : List Nat} (hpub : PubOk M w) {p : Addr} {v : Value} (h : w.cell? p = some v) (ho : v.oneCell' = true) (hb : R.w0.heap.size ≤ p.block) (hn : p.block ∉ B) : endH R M w B p = some v := by
  unfold endH
  cases hm : M p with
  | some u =>
    have := (hpub p u hm).1
    rw [h] at this; cases this; rfl
  | none =>
    simp only
    have h1 : Nat.ble R.w0.heap.size p.block = true := ble_of hb
    have h2 : B.contains p.block = false := by
      cases hc : B.contains p.block with
      | false => rfl
      | true => exact absurd (List.contains_iff_mem.1 hc) hn
    rw [h1, h2]
    exact allM_of h ho

def inK (k : Nat) : List (Nat × Ent) → Bool
  | [] => false
  | (j, _) :: l => match Nat.beq j k with
    | true => true
    | false => inK k l
theorem inK_false {k : Nat} : ∀ {l : List (Nat × Ent)}, inK k l = false → lk k l = none
  | [], _ => rfl
  | (j, e) :: l, h => by
    unfold inK at h
    split at h
    · cases h
    · rename_i hb
      rw [lk_cons, if_neg (fun e => by subst e; rw [Nat.beq_refl] at hb; cases hb)]
      exact inK_false h
def ResH (X : Cx) (st : St) (H' : List (Nat × Ent)) (c d : AV) : Prop := ∀ R ρ M a w v, Sim X R ρ M st a w → leH st H' → DenA ρ M c v → DenA ρ (endH R M w (blocksOf ρ H')) d v
def RessH (X : Cx) (st : St) (H' : List (Nat × Ent)) : List AV → List AV → Prop
  | [], [] => True
  | c :: l, d :: r => ResH X st H' c d ∧ RessH X st H' l r
  | _, _ => False
theorem RessH_at {X : Cx} {st : St} {H' : List (Nat × Ent)} : ∀ {cs ds : List AV}, RessH X st H' cs ds → ds.length = cs.length ∧ ∀ (i : Nat) (d : AV), ds[i]? = some d → ∃ c, cs[i]? = some c ∧ ResH X st H' c d
  | [], [], _ => ⟨rfl, fun i d h => by simp at h⟩
  | c :: l, d :: r, h => by
    obtain ⟨h1, h2⟩ := RessH_at h.2
    refine ⟨by simp [h1], fun i d' hi => ?_⟩
    cases i with
    | zero => simp at hi; subst hi; exact ⟨c, rfl, h.1⟩
    | succ i => obtain ⟨c', e1, e2⟩ := h2 i d' (by simpa using hi); exact ⟨c', by simpa using e1, e2⟩
  | [], _ :: _, h => h.elim
  | _ :: _, [], h => h.elim
theorem ResH.same {X : Cx} {st : St} {H' : List (Nat × Ent)} {c d : AV} (h : AVle c d) : ResH X st H' c d := fun R ρ M a w v hs _ hc => (h _ _ _ hc).keep (endH_le R M w _) fun _ _ => rfl
theorem ResH.agg {X : Cx} {st : St} {H' : List (Nat × Ent)} {cs ds : List AV} (h : RessH X st H' cs ds) : ResH X st H' (.agg cs) (.agg ds) := fun R ρ M a w v hs hh hc => by
  obtain ⟨vs, rfl, hl, hd⟩ := agg_of hc
  obtain ⟨h1, h2⟩ := RessH_at h
  exact .agg ds vs (by omega) fun i c v e1 e2 => by
    obtain ⟨c', e3, e4⟩ := h2 i c e1
    exact e4 R ρ M a w v hs hh (hd i c' v e3 e2)
theorem ResH.own {X : Cx} {st : St} {H' : List (Nat × Ent)} {r s lo n N : Nat} {f g : Nat → Nat → D} (hr5 : Nat.ble 5000 r = false) (hk : inK r H' = false) (hr : rowOf (st.ent r) s = some (N, f)) (hle : lo + n ≤ N) (hfg : ∀ i, i < n → ∀ j, j < s → Dle (f (lo + i) j) (g i j)) (hlo : X.lo = 5000 := by rfl) : ResH X st H' (.own r s lo n) (.dat (.lst s n g)) := by
  intro R ρ M a w v hs hh hc
  have hr5' : ¬ 5000 ≤ r := fun hle => by rw [ble_of hle] at hr5; cases hr5
  obtain rfl := own_of hc
  obtain ⟨hc1, hc2, hc3⟩ := rowOf_cap hs hr
  have hnb : ∀ e gg, st.ent r = some e → e.owned = true → (ρ r).1 = some gg → gg ∉ blocksOf ρ H' := fun e gg he ho hg hm => by
    obtain ⟨k, e', h1, h2, h3⟩ := blocksOf_mem hm
    obtain ⟨e0, h4, h5, h6⟩ := leH_ent hh k e' h1
    refine hs.apart r k e e0 he h4 ho (by rw [← h6]; exact h2) (fun e => ?_) gg hg h3
    subst e
    rw [inK_false hk] at h1; cases h1
  have hcell : ∀ gg, (ρ r).1 = some gg → ∀ i, i < n → ∀ j, j < s → ∃ u, endH R M w (blocksOf ρ H') ⟨gg, (lo + i) * s + j, none⟩ = some u ∧ DenD M (f (lo + i) j) u := by
    intro gg hg i hi j hj
    obtain ⟨u, h1, h2, h3⟩ := rowOf_cell hs hr hg (k := lo + i) (by omega) hj
    refine ⟨u, ?_, h2⟩
    unfold rowOf at hr
    split at hr
    · rename_i E s' n' f' he
      rcases hs.own r _ gg he rfl hg with h4 | h4
      · exact endH_of hs.pub h1 h3 h4 (hnb _ gg he rfl hg)
      · exact absurd (hlo ▸ h4.1) hr5'
    · rename_i s' n' f' he
      split at hr
      · rename_i hsb
        cases hr
        obtain rfl := Nat.eq_of_beq_eq_true hsb
        have h' : DenD M (.lst s N f) (.slice (addrOf (ρ r).1) N (ρ r).2) := hs.ents r _ he
        rw [hg] at h'
        cases h' with
        | lst _ _ _ A cap u' hn hc hA hm hd =>
          have h5 := hm ⟨gg, 0, none⟩ rfl (lo + i) (by omega) j hj
          rw [add_off, Nat.zero_add] at h5
          have h6 := (hs.pub _ _ h5).1
          rw [h1] at h6
          have h7 := endH_le R M w (blocksOf ρ H') _ _ h5
          rw [h7, h6]
      · cases hr
    · cases hr
  have hch : ∃ u : Nat → Nat → Value, ∀ i, i < n → ∀ j, j < s → ∀ gg, (ρ r).1 = some gg → endH R M w (blocksOf ρ H') ⟨gg, (lo + i) * s + j, none⟩ = some (u i j) ∧ DenD M (f (lo + i) j) (u i j) := by
    cases hg : (ρ r).1 with
    | none => exact ⟨fun _ _ => undef, fun i hi => by have := hc3 hg; omega⟩
    | some gg =>
      refine ⟨fun i j => if hh : i < n ∧ j < s then (hcell gg hg i hh.1 j hh.2).choose else undef, fun i hi j hj g' hg' => ?_⟩
      cases hg'
      have hh : i < n ∧ j < s := ⟨hi, hj⟩
      simp only [dif_pos hh]
      exact (hcell gg hg i hh.1 j hh.2).choose_spec
  obtain ⟨u, hu⟩ := hch
  refine .dat (.lst s n g _ _ u (by omega) (by omega) (fun e => ?_) (fun ad e i hi j hj => ?_) (fun i hi j hj => ?_))
  · cases hg : (ρ r).1 with
    | none => have := hc3 hg; omega
    | some gg =>
      rw [hg] at e
      unfold partOf at e
      split at e
      · omega
      · simp [addrOf] at e
  · cases hg : (ρ r).1 with
    | none => have := hc3 hg; omega
    | some gg =>
      rw [partOf_some hg (by omega)] at e
      cases e
      obtain ⟨h1, _⟩ := hu i hi j hj gg hg
      rw [add_off]
      rw [Nat.add_mul, Nat.add_assoc] at h1
      exact h1
  · cases hg : (ρ r).1 with
    | none => have := hc3 hg; omega
    | some gg =>
      obtain ⟨_, h2⟩ := hu i hi j hj gg hg
      exact hfg i hi j hj _ _ (h2.mono (endH_le R M w _))

def resLH (X : Cx) (st : St) (H' : List (Nat × Ent)) : List ResultVar → List AV → Prop
  | [], [] => True
  | rv :: rs, d :: ds => (match resAV X st rv with
    | some c => force c fun c => ResH X st H' c d
    | none => False) ∧ resLH X st H' rs ds
  | _, _ => False
def resH (X : Cx) (st : St) (H' : List (Nat × Ent)) (rs : List ResultVar) (r : AV) : Prop := match rs with
  | [rv] => (match resAV X st rv with
    | some c => force c fun c => ResH X st H' c r
    | none => False) ∧ leH st H'
  | rs => (match r with
    | .tup ds => resLH X st H' rs ds
    | _ => False) ∧ leH st H'
theorem resLH_ok {X : Cx} (hX : X.ok) {R : Run} {ρ : Env} {M : Mem} {st : St} {a : Act} {w : World} {H' : List (Nat × Ent)} (h : Sim X R ρ M st a w) (hh : leH st H') : ∀ (rs : List ResultVar) (ds : List AV), resLH X st H' rs ds →
    ∃ vs, (rs.mapM (resV a)).run X.P w = .ok vs w ∧ ds.length = vs.length ∧ rs.length = vs.length ∧ ∀ (i : Nat) (d : AV) (v : Value), ds[i]? = some d → vs[i]? = some v → DenA ρ (endH R M w (blocksOf ρ H')) d v
  | [], [], _ => ⟨[], rfl, rfl, rfl, fun i d v h1 => by simp at h1⟩
  | rv :: rs, d :: ds, hr => by
    obtain ⟨h1, h2⟩ := hr
    split at h1
    · rename_i c hc
      rw [force_eq] at h1
      obtain ⟨v, hv, hd⟩ := resAV_ok hX h hc
      obtain ⟨vs, e1, e2, e3, e4⟩ := resLH_ok hX h hh rs ds h2
      refine ⟨v :: vs, ?_, by simp [e2], by simp [e3], fun i d' v' hi hv' => ?_⟩
      · simp only [List.mapM_cons, Sem.run_bind, Sem.run_pure]
        rw [hv]
        simp only [Result.andThen_ok, e1]
      · cases i with
        | zero => simp at hi hv'; subst hi hv'; exact h1 R ρ M a w v h hh hd
        | succ i => exact e4 i d' v' (by simpa using hi) (by simpa using hv')
    · exact h1.elim
  | [], _ :: _, hr => hr.elim
  | _ :: _, [], hr => hr.elim
theorem resH_run {X : Cx} (hX : X.ok) {R : Run} {ρ : Env} {M : Mem} {st : St} {a : Act} {w : World} {H' : List (Nat × Ent)} (h : Sim X R ρ M st a w) {fn : Func} {rs : List ResultVar} {r : AV} (hrs : fn.results = rs.toArray) (hr : resH X st H' rs r) :
    leH st H' ∧ ∃ v, (results fn a.tmps).run X.P w = .ok v w ∧ DenA ρ (endH R M w (blocksOf ρ H')) r v := by
  have hrun : ∀ {vs : List Value}, (rs.mapM (resV a)).run X.P w = .ok vs w → (results fn a.tmps).run X.P w = .ok (if h : vs.toArray.size = 1 then vs.toArray[0] else .tuple vs.toArray) w := by
    intro vs hvs
    rw [results_eq, hrs, Array.mapM_eq_mapM_toList]
    simp only [Sem.run_bind, Sem.run_map]
    rw [hvs]
    rfl
  unfold resH at hr
  split at hr
  · rename_i rv
    obtain ⟨hr, hh⟩ := hr
    refine ⟨hh, ?_⟩
    split at hr
    · rename_i c hc
      rw [force_eq] at hr
      obtain ⟨v, hv, hd⟩ := resAV_ok hX h hc
      refine ⟨v, ?_, hr R ρ M a w v h hh hd⟩
      rw [hrun (vs := [v]) (by
        simp only [List.mapM_cons, List.mapM_nil, Sem.run_bind, Sem.run_pure]
        rw [hv]
        rfl)]
      rfl
    · exact hr.elim
  · rename_i hne
    obtain ⟨hr, hh⟩ := hr
    refine ⟨hh, ?_⟩
    split at hr
    · rename_i ds
      obtain ⟨vs, e1, e2, e3, e4⟩ := resLH_ok hX h hh rs ds hr
      refine ⟨.tuple vs.toArray, ?_, .tup ds vs e2 fun i d v h1 h2 => e4 i d v h1 h2⟩
      rw [hrun e1, dif_neg]
      intro h1
      have : rs.length = 1 := by rw [e3]; simpa using h1
      obtain ⟨rv, hrv⟩ := List.length_eq_one_iff.1 this
      exact hne rv hrv
    · exact hr.elim

def okK (mv : Option Nat) (k : Nat) : Bool := match kp k with
  | true => true
  | false => match mv with
    | none => false
    | some m => Nat.beq m k
def AV.nm (mv : Option Nat) : AV → Bool
  | .ptr r _ => okK mv r
  | .own r _ _ _ => okK mv r
  | .rptr r _ _ _ => okK mv r
  | .mp r => okK mv r
  | .agg cs => nmL mv cs
  | .tup cs => nmL mv cs
  | .clo _ cs => nmL mv cs
  | .junk => true
  | .tt => true
  | .ff => true
  | .dat _ => true
  | .ro _ _ => true
where nmL (mv : Option Nat) : List AV → Bool
  | [] => true
  | c :: l => match AV.nm mv c with
    | true => nmL mv l
    | false => false
theorem AV.nmL_at {mv : Option Nat} : ∀ {l : List AV}, AV.nm.nmL mv l = true → ∀ (i : Nat) (c : AV), l[i]? = some c → c.nm mv = true
  | [], _, i, c, h => by simp at h
  | x :: l, h, i, c, hi => by
    simp only [AV.nm.nmL] at h
    split at h
    · rename_i hx
      cases i with
      | zero => simp at hi; subst hi; exact hx
      | succ i => exact AV.nmL_at h i c (by simpa using hi)
    · cases h
theorem okK_eq {mv : Option Nat} {k : Nat} (h : okK mv k = true) {ρ ρf : Env} (hf : ∀ k, kp k = true → ρf k = ρ k) : (updO mv ρ ρf) k = ρf k := by
  cases mv with
  | none =>
    unfold okK at h
    split at h
    · rename_i hk; exact (hf k hk).symm
    · cases h
  | some m =>
    show upd ρ m (ρf m) k = ρf k
    by_cases hm : k = m
    · subst hm; exact upd_same _ _ _
    · rw [upd_ne _ hm]
      unfold okK at h
      split at h
      · rename_i hk; exact (hf k hk).symm
      · exact absurd (Nat.eq_of_beq_eq_true h).symm hm
theorem DenA.nm {mv : Option Nat} {ρ ρf : Env} (hf : ∀ k, kp k = true → ρf k = ρ k) {M : Mem} {c : AV} {v : Value} (h : DenA ρf M c v) (hn : c.nm mv = true) : DenA (updO mv ρ ρf) M c v := by
  induction h with
  | junk v => exact .junk v
  | tt => exact .tt
  | ff => exact .ff
  | dat h => exact .dat h
  | ptr r off g h => exact .ptr r off g (by rw [okK_eq hn hf]; exact h)
  | ro n c ad u hm hd => exact .ro n c ad u hm hd
  | own r size lo n =>
    rw [← okK_eq (ρ := ρ) (ρf := ρf) (k := r) hn hf]
    exact .own r size lo n
  | rptr r size k j g h => exact .rptr r size k j g (by rw [okK_eq hn hf]; exact h)
  | mp r g h => exact .mp r g (by rw [okK_eq hn hf]; exact h)
  | agg cs vs hl h ih => exact .agg cs vs hl fun i c v hc hv => ih i c v hc hv (AV.nmL_at hn i c hc)
  | tup cs vs hl h ih => exact .tup cs vs hl fun i c v hc hv => ih i c v hc hv (AV.nmL_at hn i c hc)
  | clo g cs vs hl h ih => exact .clo g cs vs hl fun i c v hc hv => ih i c v hc hv (AV.nmL_at hn i c hc)
def Ent.nm (mv : Option Nat) : Ent → Bool
  | .blk _ cs => AV.nm.nmL mv cs
  | .row .. => true
  | .pub .. => true
  | .dead => true
  | .mp .. => true
  | .mpx .. => true
  | .it .. => true
def nmH (mv : Option Nat) : List (Nat × Ent) → Bool
  | [] => true
  | (k, e) :: l => match okK mv k with
    | false => false
    | true => match Ent.nm mv e with
      | false => false
      | true => nmH mv l
theorem nmH_at {mv : Option Nat} {k : Nat} {e : Ent} : ∀ {l : List (Nat × Ent)}, nmH mv l = true → lk k l = some e → okK mv k = true ∧ e.nm mv = true
  | [], _, h => by cases h
  | (j, e') :: l, hn, h => by
    rw [lk_cons] at h
    unfold nmH at hn
    split at hn
    · cases hn
    rename_i h1
    split at hn
    · cases hn
    rename_i h2
    split at h
    · rename_i hj; subst hj; cases h; exact ⟨h1, h2⟩
    · exact nmH_at hn h
theorem EntOk.nm {mv : Option Nat} {ρ ρf : Env} (hf : ∀ k, kp k = true → ρf k = ρ k) {M : Mem} {w : World} {k : Nat} {e : Ent} (h : EntOk ρf M w k e) (hk : okK mv k = true) (hn : e.nm mv = true) : EntOk (updO mv ρ ρf) M w k e := by
  have hr := okK_eq (ρ := ρ) (ρf := ρf) hk hf
  generalize hρ : (updO mv ρ ρf) = ρ' at hr ⊢
  cases e with
  | blk t cs =>
    obtain ⟨g, vs, h1, h2, h3, h4⟩ := h
    refine ⟨g, vs, by rw [hr]; exact h1, h2, h3, fun i c v hc hv => ?_⟩
    have := (h4 i c v hc hv).nm (mv := mv) (ρ := ρ) hf (AV.nmL_at hn i c hc)
    rwa [hρ] at this
  | row E s n f =>
    obtain ⟨xs, h1, h2⟩ := h
    exact ⟨xs, by rw [hr]; exact h1, h2⟩
  | pub s n f =>
    show DenD M (.lst s n f) (.slice (addrOf (ρ' k).1) n (ρ' k).2)
    rw [hr]; exact h
  | dead => trivial
  | mp P k' t L =>
    obtain ⟨g, D, h1, h2⟩ := h
    exact ⟨g, D, by rw [hr]; exact h1, h2⟩
  | mpx =>
    obtain ⟨h1, h2⟩ := h
    exact ⟨by rw [hr]; exact h1, h2⟩
  | it =>
    obtain ⟨g, since, seen, c0, h1, h2⟩ := h
    exact ⟨g, since, seen, c0, by rw [hr]; exact h1, h2⟩

def nmAll (mv : Option Nat) (r : AV) (H' : List (Nat × Ent)) : Bool := match AV.nm mv r with
  | true => nmH mv H'
  | false => false
def big5 : List (Nat × Ent) → Bool
  | [] => true
  | (k, _) :: l => match Nat.ble 5000 k with
    | true => big5 l
    | false => false
theorem big5_at {k : Nat} {e : Ent} : ∀ {l : List (Nat × Ent)}, big5 l = true → lk k l = some e → 5000 ≤ k
  | [], _, h => by cases h
  | (j, e') :: l, hb, h => by
    rw [lk_cons] at h
    unfold big5 at hb
    split at hb
    · rename_i h1
      split at h
      · rename_i hj; subst hj; exact Nat.le_of_ble_eq_true h1
      · exact big5_at hb h
    · cases hb
theorem HC.of {X : Cx} (hX : X.ok) {f : FuncId} {fn : Func} {c : Code} {n : Nat} {rs : List ResultVar} {args : List AV} {H : List (Nat × Ent)} {r : AV} {H' : List (Nat × Ent)} {mv : Option Nat} (hf : X.P.funcs[f]? = some fn) (hb : fn.body = some c) (hnm : (fn.name == "runtime.NumGoroutine") = false) (hn : fn.ntmps = n) (hrs : fn.results = rs.toArray) (hna : args.length ≤ n)
    (h5 : big5 H = true) (hk : nmAll mv r H' = true)
    (h : W X n c ⟨argsF args 0, H⟩ fun e st => match e with
      | .ret => resH X st H' rs r
      | .normal => resH X st H' rs r
      | _ => False) (hn5 : n ≤ 5000 := by exact Nat.le_of_ble_eq_true rfl) (hkb : X.kb = [] := by rfl) (hlo : X.lo = 5000 := by rfl) : HC X f args H r H' mv := by
  have hk1 : r.nm mv = true ∧ nmH mv H' = true := by
    unfold nmAll at hk
    split at hk
    · rename_i h1; exact ⟨h1, hk⟩
    · cases hk
  refine ⟨⟨fn, hf, by rw [hb]; rfl, hnm⟩, fun M w ρ vs hg hp hl hd hH => ?_⟩
  refine calls_of_wp hf hb ?_
  have hsim : Sim X ⟨n, hn5, w, M, blocksOf ρ H, ρ, fun k g => blkOf ρ H k = some g, fun k g h => blkOf_mem h⟩ ρ M ⟨argsF args 0, H⟩ { tmps := vs.toArray ++ Array.replicate (fn.ntmps - vs.toArray.size) undef, defers := [] } w := by
    refine ⟨?_, rfl, Chg.refl _ _, Mem.le_refl _, hg, fun p v hp => .inl hp, hp, fun t => ?_, hH.ents, fun r e g he ho hgr => .inr ⟨by rw [hlo]; exact big5_at h5 he, blkOf_of he ho hgr⟩, hH.apart, hH.sep, fun _ _ => rfl, fun _ => Nat.le_refl _, fun q b hq => (by rw [hkb] at hq; cases hq)⟩
    · simp [hn]
      have : vs.length ≤ n := by omega
      omega
    · have hget : (⟨argsF args 0, H⟩ : St).get t = match args[t]? with
        | some c => c
        | none => .junk := by
        unfold St.get
        rw [argsF_lk, if_pos (Nat.zero_le _), Nat.sub_zero]
        cases args[t]? <;> rfl
      rw [hget]
      cases ha : args[t]? with
      | none => exact .junk _
      | some c =>
        have hlt : t < vs.length := by
          have := (List.getElem?_eq_some_iff.1 ha).1
          omega
        have hv : (vs.toArray ++ Array.replicate (fn.ntmps - vs.toArray.size) undef).getD t undef = vs[t] := by
          simp [Array.getElem?_append, hlt]
        simp only [hv]
        exact hd t c vs[t] ha (by simp [hlt])
  have fin : ∀ {st' : St} {ρ' : Env} {M' : Mem} {a' : Act} {w' : World}, resH X st' H' rs r → Sim X ⟨n, hn5, w, M, blocksOf ρ H, ρ, fun k g => blkOf ρ H k = some g, fun k g h => blkOf_mem h⟩ ρ' M' st' a' w' → a'.defers = [] ∧ ∃ v, (results fn a'.tmps).run X.P w' = .ok v w' ∧ ∃ v_1 ρ2 M2, Ending.returned v = .returned v_1 ∧ HPost X.dr ρ M w H ρ2 M2 w' r H' mv v_1 := by
    intro st' ρ' M' a' w' hres hs
    obtain ⟨hh, v, hv, hden⟩ := resH_run hX hs hrs hres
    refine ⟨hs.defers, v, hv, v, (updO mv ρ ρ'), endH ⟨n, hn5, w, M, blocksOf ρ H, ρ, fun k g => blkOf ρ H k = some g, fun k g h => blkOf_mem h⟩ M' w' (blocksOf ρ' H'), rfl, hden.nm hs.fix hk1.1, Mem.le_trans hs.m0 (endH_le _ _ _ _), fun p u hp => ?_, endH_ok hs.pub, hs.chg, ⟨fun k e he => ?_, fun k k' e e' he he' ho ho' hne g hg1 hg2 => ?_, fun k e g p u he ho hg1 hp => ?_⟩, fun k e g he ho hg1 => ?_, fun k hk2 => ?_, hs.drn⟩
    · rcases endH_fresh hp with h1 | h1
      · exact hs.fresh p u h1
      · exact .inr h1.1
    · obtain ⟨e0, h1, h2, h3⟩ := leH_ent hh k e he
      obtain ⟨k1, k2⟩ := nmH_at hk1.2 he
      exact ((h2 _ _ _ _ (hs.ents k e0 h1)).keep (endH_le _ M' w' _) rfl (fun _ _ => rfl) (fun _ _ _ _ => rfl)).nm hs.fix k1 k2
    · obtain ⟨e0, h1, h2, h3⟩ := leH_ent hh k e he
      obtain ⟨e0', h1', h2', h3'⟩ := leH_ent hh k' e' he'
      rw [okK_eq (nmH_at hk1.2 he).1 hs.fix] at hg1
      rw [okK_eq (nmH_at hk1.2 he').1 hs.fix] at hg2
      exact hs.apart k k' e0 e0' h1 h1' (by rw [← h3]; exact ho) (by rw [← h3']; exact ho') hne g hg1 hg2
    · obtain ⟨e0, h1, h2, h3⟩ := leH_ent hh k e he
      rw [okK_eq (nmH_at hk1.2 he).1 hs.fix] at hg1
      rcases endH_fresh hp with h4 | h4
      · exact hs.sep k e0 g p u h1 (by rw [← h3]; exact ho) hg1 h4
      · exact fun e => h4.2 (by rw [e]; exact blocksOf_of he ho hg1)
    · obtain ⟨e0, h1, h2, h3⟩ := leH_ent hh k e he
      rw [okK_eq (nmH_at hk1.2 he).1 hs.fix] at hg1
      rcases hs.own k e0 g h1 (by rw [← h3]; exact ho) hg1 with h4 | h4
      · exact .inl h4
      · exact .inr h4.2
    · cases mv with
      | none => rfl
      | some m => exact upd_ne _ (fun e => hk2 (by rw [e])) _
  refine wp_mono (h.out hX ⟨n, hn5, w, M, blocksOf ρ H, ρ, fun k g => blkOf ρ H k = some g, fun k g h => blkOf_mem h⟩ rfl _ M _ w hsim) fun e a' w' ⟨st', ρ', M', hq, hs⟩ => ?_
  cases e with
  | normal => exact fin hq hs
  | ret => exact fin hq hs
  | _ => exact hq.elim

def haveH (st : St) : List (Nat × Ent) → Prop
  | [] => True
  | (k, e) :: l => (∃ e0, st.ent k = some e0 ∧ EntLe e0 e ∧ e.owned = e0.owned) ∧ haveH st l
theorem haveH_at {st : St} {k : Nat} {e : Ent} : ∀ {l : List (Nat × Ent)}, haveH st l → lk k l = some e → ∃ e0, st.ent k = some e0 ∧ EntLe e0 e ∧ e.owned = e0.owned
  | [], _, h => by cases h
  | (j, e') :: l, hh, h => by
    rw [lk_cons] at h
    split at h
    · rename_i hj; subst hj; cases h; exact hh.1
    · exact haveH_at hh.2 h
theorem haveH.heap {X : Cx} {R : Run} {ρ : Env} {M : Mem} {st : St} {a : Act} {w : World} (h : Sim X R ρ M st a w) {H : List (Nat × Ent)} (hh : haveH st H) : HeapOk ρ M w H where
  ents k e he := by
    obtain ⟨e0, h1, h2, h3⟩ := haveH_at hh he
    exact h2 _ _ _ _ (h.ents k e0 h1)
  apart k k' e e' he he' ho ho' := by
    obtain ⟨e0, h1, h2, h3⟩ := haveH_at hh he
    obtain ⟨e0', h1', h2', h3'⟩ := haveH_at hh he'
    exact h.apart k k' e0 e0' h1 h1' (by rw [← h3]; exact ho) (by rw [← h3']; exact ho')
  sep k e g p v he ho := by
    obtain ⟨e0, h1, h2, h3⟩ := haveH_at hh he
    exact h.sep k e0 g p v h1 (by rw [← h3]; exact ho)
theorem haveH.blocks {X : Cx} {R : Run} {ρ : Env} {M : Mem} {st : St} {a : Act} {w : World} (h : Sim X R ρ M st a w) {H : List (Nat × Ent)} (hh : haveH st H) {g : Nat} (hg : g ∈ blocksOf ρ H) : ∃ k e e0, lk k H = some e ∧ st.ent k = some e0 ∧ e0.owned = true ∧ (ρ k).1 = some g := by
  obtain ⟨k, e, h1, h2, h3⟩ := blocksOf_mem hg
  obtain ⟨e0, h4, h5, h6⟩ := haveH_at hh h1
  exact ⟨k, e, e0, h1, h4, by rw [← h6]; exact h2, h3⟩

theorem HC.run {X : Cx} {f : FuncId} {args : List AV} {H : List (Nat × Ent)} {r : AV} {H' : List (Nat × Ent)} {mv : Option Nat} (hC : HC X f args H r H' mv) {cs : List AV} (ha : AVsLe cs args) {st : St} (hh : haveH st H)
    {o : Oper} (hop : CallOp X st o f cs)
    {R : Run} {ρ : Env} {M : Mem} {a : Act} {w : World} (h : Sim X R ρ M st a w) {K : Act → World → Prop} {Q : Exit → Act → World → Prop} (hk : ∀ v ρ' M' w', HPost X.dr ρ M w H ρ' M' w' r H' mv v → K (a.put o.dst v) w') : o.wp X.P a w K Q := by
  obtain ⟨hl, hat⟩ := AVsLe_at ha
  obtain ⟨vs, hrun, hvl, hvd⟩ := hop.run ρ M a w h.ev hC.fn
  have hlen : args.length = vs.length := by omega
  have hc := hC.out M w ρ vs (Cx.glob_mono h.m0 h.g0) h.pub hlen (fun i d v h1 h2 => by
    obtain ⟨c, e1, e2⟩ := hat i d h1
    obtain ⟨v', e3, e4⟩ := hvd i c e1
    rw [h2] at e3; cases e3
    exact e2 ρ M v e4) (haveH.heap h hh)
  unfold Oper.wp
  rw [hrun, Oper.upon_enter]
  refine hc.mono fun e w' ⟨v, ρ', M', he, hP⟩ => ?_
  subst he
  exact hk v ρ' M' w' hP

def junkO (m : Option Nat) (c : AV) : AV := match m with
  | none => c
  | some r => AV.junkR r c
def junkFO (m : Option Nat) (fr : List (Nat × AV)) : List (Nat × AV) := match m with
  | none => fr
  | some r => junkF r fr
def junkHO (m : Option Nat) (hp : List (Nat × Ent)) : List (Nat × Ent) := match m with
  | none => hp
  | some r => junkH r hp
def appH : List (Nat × Ent) → List (Nat × Ent) → List (Nat × Ent)
  | [], hp => hp
  | q :: l, hp => q :: appH l hp
theorem lk_appH (k : Nat) (hp : List (Nat × Ent)) : ∀ l : List (Nat × Ent), lk k (appH l hp) = (match lk k l with
    | some e => some e
    | none => lk k hp)
  | [] => rfl
  | (j, e) :: l => by
    simp only [appH, lk_cons, lk_appH k hp l]
    by_cases h : j = k
    · rw [if_pos h, if_pos h]
    · rw [if_neg h, if_neg h]
def subK (H' : List (Nat × Ent)) : List (Nat × Ent) → Bool
  | [] => true
  | (k, _) :: l => match inK k H' with
    | true => subK H' l
    | false => false
theorem inK_true {k : Nat} : ∀ {l : List (Nat × Ent)}, inK k l = true → ∃ e, lk k l = some e
  | [], h => by cases h
  | (j, e) :: l, h => by
    unfold inK at h
    rw [lk_cons]
    by_cases hj : j = k
    · exact ⟨e, if_pos hj⟩
    · rw [if_neg hj]
      split at h
      · rename_i hb; exact absurd (Nat.eq_of_beq_eq_true hb) hj
      · exact inK_true h
theorem subK_at {H' : List (Nat × Ent)} {k : Nat} {e : Ent} : ∀ {l : List (Nat × Ent)}, subK H' l = true → lk k l = some e → ∃ e', lk k H' = some e'
  | [], _, h => by cases h
  | (j, e') :: l, hs, h => by
    rw [lk_cons] at h
    unfold subK at hs
    split at hs
    · rename_i h1
      split at h
      · rename_i hj; subst hj; exact inK_true h1
      · exact subK_at hs h
    · cases hs
def mvOk (mv : Option Nat) (H' : List (Nat × Ent)) : Bool := match mv with
  | none => true
  | some m => match kp m with
    | true => false
    | false => inK m H'
theorem Sim.called {X : Cx} {R : Run} {ρ ρ' : Env} {M M' : Mem} {st : St} {a : Act} {w w' : World} {H H' : List (Nat × Ent)} {r : AV} {mv : Option Nat} {v : Value} {d : Option Nat} (h : Sim X R ρ M st a w) (hh : haveH st H) (hP : HPost X.dr ρ M w H ρ' M' w' r H' mv v)
    (hsub : subK H' H = true) (hmv : mvOk mv H' = true) (hd : ∀ t, d = some t → t < R.n) : Sim X R ρ' M' ⟨slotL d r (junkFO mv st.fr), appH H' (junkHO mv st.hp)⟩ (a.put d v) w' := by
  have hne : ∀ k, mv ≠ some k → ρ' k = ρ k := hP.env
  have hden : ∀ {c : AV} {u : Value}, DenA ρ M c u → DenA ρ' M' (junkO mv c) u := fun {c u} hc => by
    cases mv with
    | none => exact hc.keep hP.mem fun k _ => hne k (by simp)
    | some m => exact AV.junkR_den hP.mem (fun k hk => hne k (fun e => hk (Option.some.inj e).symm)) hc
  have hgetj : ∀ t, (⟨junkFO mv st.fr, st.hp⟩ : St).get t = junkO mv (st.get t) := fun t => by
    cases mv with
    | none => rfl
    | some m => exact get_junk m st st.hp t
  have hents : ∀ k e, lk k (appH H' (junkHO mv st.hp)) = some e → lk k H' = some e ∨ (lk k H' = none ∧ lk k H = none ∧ mv ≠ some k ∧ ∃ e0, st.ent k = some e0 ∧ e.owned = e0.owned ∧ (mv = none ∧ e = e0 ∨ ∃ m, mv = some m ∧ e = Ent.junkR m e0)) := fun k e he => by
    rw [lk_appH] at he
    cases hq : lk k H' with
    | some e' => rw [hq] at he; exact .inl he
    | none =>
      rw [hq] at he
      refine .inr ⟨rfl, ?_, ?_, ?_⟩
      · cases hH : lk k H with
        | none => rfl
        | some e1 => obtain ⟨e', h1⟩ := subK_at hsub hH; rw [hq] at h1; cases h1
      · intro e1
        subst e1
        unfold mvOk at hmv
        split at hmv
        · rename_i h1; cases h1
        · rename_i m h1
          cases h1
          split at hmv
          · cases hmv
          · obtain ⟨e', h2⟩ := inK_true hmv
            rw [hq] at h2; cases h2
      · cases mv with
        | none => exact ⟨e, he, rfl, .inl ⟨rfl, rfl⟩⟩
        | some m =>
          have he' : lk k (junkH m st.hp) = some e := he
          unfold junkH at he'
          rw [lk_map] at he'
          cases hl : lk k st.hp with
          | none => rw [hl] at he'; cases he'
          | some e0 => rw [hl] at he'; cases he'; exact ⟨e0, hl, Ent.junkR_owned m e0, .inr ⟨m, rfl, rfl⟩⟩
  have hoff : ∀ k e0 g, st.ent k = some e0 → e0.owned = true → (ρ k).1 = some g → lk k H = none → g ∉ blocksOf ρ H := fun k e0 g he ho hg hn hm => by
    obtain ⟨j, e1, e2, h1, h2, h3, h4⟩ := haveH.blocks h hh hm
    refine h.apart k j e0 e2 he h2 ho h3 (fun e => ?_) g hg h4
    subst e
    rw [hn] at h1; cases h1
  have hnew : ∀ k e g, lk k H' = some e → e.owned = true → (ρ' k).1 = some g → ∀ k2 e2, st.ent k2 = some e2 → e2.owned = true → lk k2 H = none → (ρ k2).1 ≠ some g := fun k e g he ho hg k2 e2 he2 ho2 hn2 hg2 => by
    rcases hP.own k e g he ho hg with h1 | h1
    · have := (h.ents k2 e2 he2).lt ho2 g hg2
      omega
    · exact hoff k2 e2 g he2 ho2 hg2 hn2 (blkOf_mem h1)
  refine ⟨by rw [put_sz]; exact h.size, by rw [put_df]; exact h.defers, h.chg.trans hP.chg (fun g hg hlt => ?_), Mem.le_trans h.m0 hP.mem, h.g0, fun p u hp => ?_, hP.pub, fun t => ?_, fun k e he => ?_, fun k e g he ho hg => ?_, fun k k' e e' he he' ho ho' hkk g hg hg' => ?_, fun k e g p u he ho hg hp => ?_, fun k hk => ?_, fun hd => Nat.le_trans (h.drn hd) (hP.drn hd), h.kn⟩
  · obtain ⟨k, e, e0, h1, h2, h3, h4⟩ := haveH.blocks h hh hg
    rcases h.own k e0 g h2 h3 h4 with h5 | h5
    · omega
    · exact R.hsub _ _ h5.2
  · rcases hP.fresh p u hp with h1 | h1
    · exact h.fresh p u h1
    · have := h.chg.size; exact .inr (by omega)
  · have hbase : ∀ t, DenA ρ' M' ((⟨junkFO mv st.fr, appH H' (junkHO mv st.hp)⟩ : St).get t) (a.tmps.getD t undef) := fun t => by
      have : (⟨junkFO mv st.fr, appH H' (junkHO mv st.hp)⟩ : St).get t = (⟨junkFO mv st.fr, st.hp⟩ : St).get t := rfl
      rw [this, hgetj]
      exact hden (h.slots t)
    cases d with
    | none => exact hbase t
    | some u =>
      have e1 := St.get_cons ⟨junkFO mv st.fr, st.hp⟩ u r (appH H' (junkHO mv st.hp)) t
      show DenA ρ' M' ((⟨(u, r) :: junkFO mv st.fr, appH H' (junkHO mv st.hp)⟩ : St).get t) _
      rw [e1, put_get a u v (by rw [h.size]; exact hd u rfl)]
      by_cases hu : u = t
      · rw [if_pos hu, if_pos hu]; exact hP.den
      · rw [if_neg hu, if_neg hu]; exact hbase t
  · rcases hents k e he with h1 | ⟨h1, hH, hm, e0, h2, h3, h4⟩
    · exact hP.heap.ents k e h1
    · have h0 := h.ents k e0 h2
      have hb : ∀ g, e0.owned = true → (ρ k).1 = some g → g < w.heap.size → w'.heap[g]? = w.heap[g]? := fun g ho hg hlt => hP.chg.block g hlt (hoff k e0 g h2 ho hg hH)
      rcases h4 with ⟨hm0, rfl⟩ | ⟨m, hm1, rfl⟩
      · exact h0.keep hP.mem (hne k hm) (fun j _ => hne j (by rw [hm0]; simp)) hb
      · cases e0 with
        | blk t cs =>
          obtain ⟨g, vs, e1, e3, e4, e5⟩ := h0
          refine ⟨g, vs, by rw [hne k hm]; exact e1, by rw [hb g rfl e1 (Array.getElem?_eq_some_iff.1 e3).1]; exact e3, by simpa using e4, fun i c u hi hu => ?_⟩
          rw [List.getElem?_map] at hi
          cases hci : cs[i]? with
          | none => rw [hci] at hi; cases hi
          | some c0 =>
            rw [hci] at hi; cases hi
            have := hden (e5 i c0 u hci hu)
            rw [hm1] at this
            exact this
        | row E' s' n' f' => exact h0.keep hP.mem (hne k hm) (fun _ hu => by cases hu) hb
        | pub s' n' f' => exact h0.keep hP.mem (hne k hm) (fun _ hu => by cases hu) hb
        | dead => trivial
        | mp P' k' t' L' => exact h0.keep hP.mem (hne k hm) (fun _ hu => by cases hu) hb
        | mpx => exact h0.keep hP.mem (hne k hm) (fun _ hu => by cases hu) hb
        | it => exact h0.keep hP.mem (hne k hm) (fun _ hu => by cases hu) hb
  · rcases hents k e he with h1 | ⟨h1, hH, hm, e0, h2, h3, h4⟩
    · rcases hP.own k e g h1 ho hg with h5 | h5
      · have := h.chg.size; exact .inl (by omega)
      · obtain ⟨e1, k1, k2, k3⟩ := blkOf_inv h5
        obtain ⟨e0, k4, _, k5⟩ := haveH_at hh k1
        exact h.own k e0 g k4 (by rw [← k5]; exact k2) k3
    · rw [hne k hm] at hg
      exact h.own k e0 g h2 (by rw [← h3]; exact ho) hg
  · rcases hents k e he with h1 | ⟨h1, hH, hm, e0, h2, h3, h4⟩
    · rcases hents k' e' he' with h1' | ⟨h1', hH', hm', e0', h2', h3', h4'⟩
      · exact hP.heap.apart k k' e e' h1 h1' ho ho' hkk g hg hg'
      · rw [hne k' hm'] at hg'
        exact hnew k e g h1 ho hg k' e0' h2' (by rw [← h3']; exact ho') hH' hg'
    · rw [hne k hm] at hg
      rcases hents k' e' he' with h1' | ⟨h1', hH', hm', e0', h2', h3', h4'⟩
      · exact hnew k' e' g h1' ho' hg' k e0 h2 (by rw [← h3]; exact ho) hH hg
      · rw [hne k' hm'] at hg'
        exact h.apart k k' e0 e0' h2 h2' (by rw [← h3]; exact ho) (by rw [← h3']; exact ho') hkk g hg hg'
  · rcases hents k e he with h1 | ⟨h1, hH, hm, e0, h2, h3, h4⟩
    · exact hP.heap.sep k e g p u h1 ho hg hp
    · rw [hne k hm] at hg
      rcases hP.fresh p u hp with h5 | h5
      · exact h.sep k e0 g p u h2 (by rw [← h3]; exact ho) hg h5
      · have := (h.ents k e0 h2).lt (by rw [← h3]; exact ho) g hg
        omega
  · refine (hne k fun e => ?_).trans (h.fix k hk)
    subst e
    unfold mvOk at hmv
    simp only [hk] at hmv
    cases hmv

def calledK (n : Nat) (st : St) (d : Option Nat) (r : AV) (H H' : List (Nat × Ent)) (mv : Option Nat) (K : St → Prop) : Prop := match subK H' H with
  | false => False
  | true => match mvOk mv H' with
    | false => False
    | true => match d with
      | none => st.un fun fr hp => K ⟨junkFO mv fr, appH H' (junkHO mv hp)⟩
      | some t => match Nat.ble (t + 1) n with
        | false => False
        | true => force r fun r => st.un fun fr hp => K ⟨(t, r) :: junkFO mv fr, appH H' (junkHO mv hp)⟩
theorem ExCall.byH {X : Cx} {n : Nat} {st : St} {d : Option Nat} {f : FuncId} {cs args : List AV} {H H' : List (Nat × Ent)} {r : AV} {mv : Option Nat} {K : St → Prop} (hC : HC X f args H r H' mv) (ha : AVsLe cs args) (hh : haveH st H) (hk : calledK n st d r H H' mv K) : ExCall X n st d f cs K := by
  constructor
  intro o hop hd R hn ρ M a w hs K' Q hK'
  unfold calledK at hk
  split at hk
  · exact hk.elim
  rename_i hsub
  split at hk
  · exact hk.elim
  rename_i hmv
  refine hC.run ha hh hop hs fun v ρ' M' w' hP => ?_
  subst hd
  split at hk
  · rename_i hdn
    have := hs.called (d := none) hh hP hsub hmv (fun t ht => by cases ht)
    rw [hdn]
    exact hK' _ _ _ _ _ hk this
  · rename_i t hdt
    split at hk
    · exact hk.elim
    rename_i hb
    have hb := Nat.le_of_ble_eq_true hb
    rw [force_eq] at hk
    have := hs.called (d := some t) hh hP hsub hmv (fun t' ht => by cases ht; omega)
    rw [hdt]
    exact hK' _ _ _ _ _ hk this

def isH (st : St) : List (Nat × Ent) → Prop
  | [] => True
  | (k, e) :: l => st.ent k = some e ∧ isH st l
theorem isH.have {st : St} : ∀ {l : List (Nat × Ent)}, isH st l → haveH st l
  | [], _ => trivial
  | (k, e) :: l, h => ⟨⟨e, h.1, EntLe.refl e, rfl⟩, h.2.have⟩
theorem AVsLe.refl : ∀ l : List AV, AVsLe l l
  | [] => trivial
  | c :: l => ⟨AVle.refl c, AVsLe.refl l⟩
theorem ExCall.h {X : Cx} {n : Nat} {st : St} {d : Option Nat} {f : FuncId} {cs args : List AV} {H H' : List (Nat × Ent)} {r : AV} {mv : Option Nat} {K : St → Prop} (l : List (Nat × Nat)) (hl : injB l = true) (hC : HC X f args H r H' mv) (ha : cs = AV.ren.renL (rnm l) args) (hh : isH st (renH (rnm l) H))
    (hk : calledK n st d (r.ren (rnm l)) (renH (rnm l) H) (renH (rnm l) H') (renMv (rnm l) mv) K) : ExCall X n st d f cs K :=
  ExCall.byH (hC.ren l hl) (ha ▸ AVsLe.refl _) hh.have hk

theorem HPost.fext {dr : Bool} {ρ : Env} {M : Mem} {w : World} {ρ' : Env} {M' : Mem} {w' : World} {r : AV} {mv : Option Nat} {v : Value} {d : Option Nat} {q : Nat} {e e' : Ent} (hP : HPost dr ρ M w [(q, e)] ρ' M' w' r [(q, e')] mv v) (hmv : ∀ m, mv = some m → m = q) :
    FExt dr ρ M w ρ' M' w' d (some q) ⟨r, some (e', mv.isSome)⟩ true v where
  env k hk := hP.env k fun h => by
    have := hmv k h
    subst this
    exact hk rfl
  keep hn := by
    cases mv with
    | none => funext k; exact hP.env k (by simp)
    | some m => exact absurd rfl (hn e')
  mem := hP.mem
  fresh := hP.fresh
  pubN p u hp := .inr (hP.pub p u hp)
  os := hP.chg.os
  tape := hP.chg.tape
  output := hP.chg.output
  size := hP.chg.size
  block k hk hn := hP.chg.block k hk fun hm => by
    obtain ⟨j, e1, h1, h2, h3⟩ := blocksOf_mem hm
    rw [lk_cons] at h1
    split at h1
    · rename_i hj; subst hj; exact hn rfl q rfl h3
    · cases h1
  den := hP.den
  drn := hP.drn
  ent q' e1 b hq he := by
    cases hq
    cases he
    have hl : lk q [(q, e')] = some e' := by rw [lk_cons, if_pos rfl]
    refine ⟨hP.heap.ents q e' hl, fun ho g hg => ?_⟩
    rcases hP.own q e' g hl ho hg with h1 | h1
    · exact .inl ⟨h1, fun p u hp => hP.heap.sep q e' g p u hl ho hg hp⟩
    · obtain ⟨_, _, _, h2⟩ := blkOf_inv h1
      exact .inr ⟨rfl, h2⟩
theorem CallK.h {X : Cx} {st : St} {d : Option Nat} {f : FuncId} {cs args : List AV} {q q' : Nat} {e e' : Ent} {r : AV} {mv : Option Nat} {K : Option Nat → Fx → Prop} (l : List (Nat × Nat)) (hl : injB l = true) (hC : HC X f args [(q, e)] r [(q', e')] mv) (hq : Nat.beq q q' = true) (ha : cs = AV.ren.renL (rnm l) args) (hh : isH st (renH (rnm l) [(q, e)]))
    (ho : e.owned = true) (hmv : (match mv with
      | none => true
      | some m => match kp (rnm l q) with
        | true => false
        | false => Nat.beq m q) = true) (hk : K (some (rnm l q)) ⟨r.ren (rnm l), some (e'.ren (rnm l), mv.isSome)⟩) : CallK X st d f cs K := by
  obtain rfl := Nat.eq_of_beq_eq_true hq
  refine ⟨some (rnm l q), ⟨r.ren (rnm l), some (e'.ren (rnm l), mv.isSome)⟩, fun o hop hd => ?_, hk⟩
  have hmv' : ∀ m, renMv (rnm l) mv = some m → m = rnm l q := fun m hm => by
    cases mv with
    | none => cases hm
    | some m' =>
      cases hm
      simp only at hmv
      split at hmv
      · cases hmv
      · rw [Nat.eq_of_beq_eq_true hmv]
  have hsome : (renMv (rnm l) mv).isSome = mv.isSome := by cases mv <;> rfl
  refine ⟨fun h => (by cases h), fun e1 q1 h1 h2 => ?_, true, fun _ h => (by cases h), fun _ => ⟨rnm l q, _, rfl, hh.1, by rw [Ent.ren_owned]; exact ho⟩, fun R ρ M a w hs K' Q hK' => ?_⟩
  · cases h2
    refine .inl ?_
    cases mv with
    | none => cases h1
    | some m =>
      simp only at hmv
      split at hmv
      · cases hmv
      · assumption
  · refine (hC.ren l hl).run (ha ▸ AVsLe.refl _) hh.have hop hs fun v ρ' M' w' hP => ?_
    have := hP.fext (d := o.dst) hmv'
    rw [hsome] at this
    exact hK' v ρ' M' w' this
theorem HPost.fextN {dr : Bool} {ρ : Env} {M : Mem} {w : World} {ρ' : Env} {M' : Mem} {w' : World} {r : AV} {v : Value} {d : Option Nat} {q : Nat} {e' : Ent} (hP : HPost dr ρ M w [] ρ' M' w' r [(q, e')] (some q) v) :
    FExt dr ρ M w ρ' M' w' d (some q) ⟨r, some (e', true)⟩ false v where
  env k hk := hP.env k hk
  keep hn := absurd rfl (hn e')
  mem := hP.mem
  fresh := hP.fresh
  pubN p u hp := .inr (hP.pub p u hp)
  os := hP.chg.os
  tape := hP.chg.tape
  output := hP.chg.output
  size := hP.chg.size
  block k hk hn := hP.chg.block k hk fun hm => by
    obtain ⟨j, e1, h1, h2, h3⟩ := blocksOf_mem hm
    cases h1
  den := hP.den
  drn := hP.drn
  ent q' e1 b hq he := by
    cases hq
    cases he
    have hl : lk q [(q, e')] = some e' := by rw [lk_cons, if_pos rfl]
    refine ⟨hP.heap.ents q e' hl, fun ho g hg => ?_⟩
    rcases hP.own q e' g hl ho hg with h1 | h1
    · exact .inl ⟨h1, fun p u hp => hP.heap.sep q e' g p u hl ho hg hp⟩
    · obtain ⟨_, h2, _, _⟩ := blkOf_inv h1
      cases h2
theorem CallK.hn {X : Cx} {st : St} {d : Option Nat} {f : FuncId} {cs args : List AV} {q q' : Nat} {e' : Ent} {r : AV} {K : Option Nat → Fx → Prop} (l : List (Nat × Nat)) (hl : injB l = true) (hC : HC X f args [] r [(q, e')] (some q')) (hq : Nat.beq q q' = true) (ha : cs = AV.ren.renL (rnm l) args) (hd : d = some (rnm l q))
    (hk : K (some (rnm l q)) ⟨r.ren (rnm l), some (e'.ren (rnm l), true)⟩) : CallK X st d f cs K := by
  obtain rfl := Nat.eq_of_beq_eq_true hq
  refine ⟨some (rnm l q), ⟨r.ren (rnm l), some (e'.ren (rnm l), true)⟩, fun o hop hdo => ?_, hk⟩
  refine ⟨fun h => (by cases h), fun e1 q1 h1 h2 => .inr (by rw [hdo, hd]; exact h2), false, fun h => (by cases h), fun h => (by cases h), fun R ρ M a w hs K' Q hK' => ?_⟩
  refine (hC.ren l hl).run (ha ▸ AVsLe.refl _) (H := []) trivial hop hs fun v ρ' M' w' hP => ?_
  exact hK' v ρ' M' w' (HPost.fextN (d := o.dst) hP)

theorem AVle.bo {c d : AV} {a b : Bool} (hc : boolOf c = some a) (hd : boolOf d = some b) (h : (a = true) ↔ (b = true)) : AVle c d := fun ρ M v hv => by
  have e : a = b := by cases a <;> cases b <;> simp_all
  subst e
  have := boolOf_den hc hv
  subst this
  unfold boolOf at hd
  split at hd
  · cases hd; exact .tt
  · cases hd; exact .ff
  · cases hd; exact .dat (.val _)
  · cases hd
theorem boolOf_pure {d : AV} {b : Bool} (h : boolOf d = some b) : d.pure = true := by
  unfold boolOf at h
  split at h <;> first | rfl | cases h
theorem ResLe.bo {X : Cx} {st : St} {c d : AV} {a b : Bool} (hc : boolOf c = some a) (hd : boolOf d = some b) (h : (a = true) ↔ (b = true)) : ResLe X st c d := ResLe.pure (AVle.bo hc hd h) (boolOf_pure hd)
theorem ResLe.row0 {X : Cx} {st : St} {r s n : Nat} {f : Nat → Nat → D} (hr : rowOf (st.ent r) s = some (n, f)) : ResLe X st (.own r s 0 n) (.dat (.lst s n f)) := ResLe.own hr (by omega) fun i hi j hj => by rw [Nat.zero_add]; exact Dle.refl _
theorem ResH.row0 {X : Cx} {st : St} {H' : List (Nat × Ent)} {r s n : Nat} {f : Nat → Nat → D} (hr5 : Nat.ble 5000 r = false) (hk : inK r H' = false) (hr : rowOf (st.ent r) s = some (n, f)) (hlo : X.lo = 5000 := by rfl) : ResH X st H' (.own r s 0 n) (.dat (.lst s n f)) := ResH.own hr5 hk hr (by omega) (fun i hi j hj => by rw [Nat.zero_add]; exact Dle.refl _) hlo
theorem AVle.own {r s lo n m : Nat} (h : n = m) : AVle (.own r s lo n) (.own r s lo m) := .of_eq (by rw [h])
theorem ArgsP.refl : ∀ {cs : List AV}, pureL cs = true → ArgsP cs cs
  | [], _ => trivial
  | c :: l, h => by
    unfold pureL at h
    split at h
    · rename_i hc
      exact ⟨ArgP.of (AVle.refl c) hc, ArgsP.refl h⟩
    · cases h
theorem CallA.d2 {X : Cx} {st : St} {f : FuncId} {ds : List AV} {r : AV} (hp : pureL ds = true) (hc : ACalls X f ds r) : CallA X st f ds r := CallA.data hc (ArgsP.refl hp)
inductive Ends {σ : Type} (c : σ → Prop) (step : σ → σ) : σ → σ → Prop where
  | stop (s : σ) (h : ¬ c s) : Ends c step s s
  | go (s t : σ) (h : c s) (h' : Ends c step (step s) t) : Ends c step s t
theorem Ends.next {σ : Type} {c : σ → Prop} {step : σ → σ} {s t : σ} (h : Ends c step s t) (hc : c s) : Ends c step (step s) t := by
  cases h with
  | stop _ h => exact absurd hc h
  | go _ _ _ h' => exact h'
theorem Ends.done {σ : Type} {c : σ → Prop} {step : σ → σ} {s t : σ} (h : Ends c step s t) (hc : ¬ c s) : s = t := by
  cases h with
  | stop _ h => rfl
  | go _ _ h _ => exact absurd h hc
theorem Ends.ex {σ : Type} {c : σ → Prop} {step : σ → σ} (I : σ → Prop) (μ : σ → Nat) (hI : ∀ s, I s → c s → I (step s) ∧ μ (step s) < μ s) : ∀ (m : Nat) (s : σ), μ s ≤ m → I s → ∃ t, Ends c step s t ∧ I t ∧ ¬ c t := by
  intro m
  induction m with
  | zero =>
    intro s hm hs
    by_cases hc : c s
    · have := (hI s hs hc).2
      omega
    · exact ⟨s, .stop s hc, hs, hc⟩
  | succ m ih =>
    intro s hm hs
    by_cases hc : c s
    · obtain ⟨h1, h2⟩ := hI s hs hc
      obtain ⟨t, h3, h4⟩ := ih (step s) (by omega) h1
      exact ⟨t, .go s t hc h3, h4⟩
    · exact ⟨s, .stop s hc, hs, hc⟩
theorem Ends.of {σ : Type} {c : σ → Prop} {step : σ → σ} (I : σ → Prop) (μ : σ → Nat) (s : σ) (hs : I s) (hI : ∀ s, I s → c s → I (step s) ∧ μ (step s) < μ s) : ∃ t, Ends c step s t ∧ I t ∧ ¬ c t := Ends.ex I μ hI (μ s) s (Nat.le_refl _) hs

theorem W.adoptB {X : Cx} {n : Nat} {st : St} {Q : Exit → St → Prop} {c : Code} (b j r E s : Nat) (f : Nat → Nat → D) {T : TypeId} {cs : List AV} (hb : st.ent b = some (.blk T cs)) (hj : cs[j]? = some (.dat (.val (.slice none 0 0)))) (hf : cleanF r st.fr = true) (hh : cleanH r st.hp = true) (hr : AV.uses r (st.get r) = false) (hbr : Nat.beq b r = false)
    (h : St.un st fun fr hp => W X n c ⟨fr, (b, .blk T (cs.take j ++ [.own r s 0 0] ++ cs.drop (j + 1))) :: (r, .row E s 0 f) :: hp⟩ Q) (hkr : kp r = false := by exact rfl) : W X n c st Q := ⟨fun hX R hn ρ M a w hsim => by
  have hne : ∀ k, k ≠ r → upd ρ r (none, 0) k = ρ k := fun k hk => upd_ne ρ hk _
  have hbr' : b ≠ r := fun e => by subst e; rw [Nat.beq_refl] at hbr; cases hbr
  have hslot : ∀ u, AV.uses r (st.get u) = false := fun u => by
    by_cases hu : u = r
    · subst hu; exact hr
    · exact get_uses hf hu
  refine (show W X n c ⟨st.fr, (b, .blk T (cs.take j ++ [.own r s 0 0] ++ cs.drop (j + 1))) :: (r, .row E s 0 f) :: st.hp⟩ Q from h).out hX R hn (upd ρ r (none, 0)) M a w ?_
  have hents : ∀ k q, (⟨st.fr, (b, .blk T (cs.take j ++ [.own r s 0 0] ++ cs.drop (j + 1))) :: (r, .row E s 0 f) :: st.hp⟩ : St).ent k = some q → (k = b ∧ q = .blk T (cs.take j ++ [.own r s 0 0] ++ cs.drop (j + 1))) ∨ (k = r ∧ q = .row E s 0 f) ∨ (k ≠ r ∧ st.ent k = some q) := fun k q hq => by
    have hq' : lk k ((b, .blk T (cs.take j ++ [.own r s 0 0] ++ cs.drop (j + 1))) :: (r, .row E s 0 f) :: st.hp) = some q := hq
    rw [lk_cons] at hq'
    split at hq'
    · rename_i hrk; cases hq'; exact .inl ⟨hrk.symm, rfl⟩
    · rw [lk_cons] at hq'
      split at hq'
      · rename_i hrk; cases hq'; exact .inr (.inl ⟨hrk.symm, rfl⟩)
      · rename_i hrk; exact .inr (.inr ⟨fun e => hrk e.symm, hq'⟩)
  have hu : ∀ k q, k ≠ r → st.ent k = some q → ∀ i, q.uses i = true → i ≠ r := fun k q hk h1 i hi e => by
    subst e
    rw [cleanH_get hh hk q h1] at hi; cases hi
  have hjl : j < cs.length := (List.getElem?_eq_some_iff.1 hj).1
  refine ⟨hsim.size, hsim.defers, hsim.chg, hsim.m0, hsim.g0, hsim.fresh, hsim.pub, fun u => ?_, fun k q hq => ?_, fun k q g hq ho hg => ?_, fun k k' q q' hq hq' ho ho' hkk g hg hg' => ?_, fun k q g p v hq ho hg hp => ?_, fun k hk => (hne k fun e => by rw [e, hkr] at hk; cases hk).trans (hsim.fix k hk), hsim.drn, hsim.kn⟩
  · exact (hsim.slots u).keep (Mem.le_refl _) fun k hk => hne k fun e => by subst e; rw [hslot u] at hk; cases hk
  · rcases hents k q hq with ⟨rfl, rfl⟩ | ⟨rfl, rfl⟩ | ⟨hk, h1⟩
    · obtain ⟨g, vs, e1, e3, e4, e5⟩ := (hsim.ents k _ hb).keep (ρ' := upd ρ r (none, 0)) (M' := M) (w' := w) (Mem.le_refl _) (hne k hbr') (fun i hi => hne i (hu k _ hbr' hb i hi)) fun _ _ _ _ => rfl
      refine ⟨g, vs, e1, e3, by simp; omega, fun i c' v hi hv => ?_⟩
      have hs := seg_at (l := cs) (vs := [AV.own r s 0 0]) (off := j) (i := i) (by simp; omega)
      simp only [List.length_cons, List.length_nil, Nat.zero_add] at hs
      rw [hs] at hi
      split at hi
      · rename_i hij
        obtain rfl : i = j := by omega
        simp at hi
        subst hi
        have h2 := val_of (e5 i _ v hj hv)
        subst h2
        have := DenA.own (ρ := upd ρ r (none, 0)) (M := M) r s 0 0
        rw [upd_same, partOf_zero] at this
        exact this
      · exact e5 i c' v hi hv
    · refine ⟨[], ?_, fun i hi => absurd hi (by omega)⟩
      rw [upd_same]
      exact World.ownsRow_nil w 0 E s
    · exact (hsim.ents k q h1).keep (Mem.le_refl _) (hne k hk) (fun i hi => hne i (hu k q hk h1 i hi)) fun _ _ _ _ => rfl
  · rcases hents k q hq with ⟨rfl, rfl⟩ | ⟨rfl, rfl⟩ | ⟨hk, h1⟩
    · rw [hne k hbr'] at hg; exact hsim.own k _ g hb rfl hg
    · rw [upd_same] at hg; cases hg
    · rw [hne k hk] at hg; exact hsim.own k q g h1 ho hg
  · have hown : ∀ {k q}, (⟨st.fr, (b, .blk T (cs.take j ++ [.own r s 0 0] ++ cs.drop (j + 1))) :: (r, .row E s 0 f) :: st.hp⟩ : St).ent k = some q → q.owned = true → (upd ρ r (none, 0) k).1 = some g → (ρ k).1 = some g ∧ ∃ e0, st.ent k = some e0 ∧ e0.owned = true := fun {k q} hq ho hg => by
      rcases hents k q hq with ⟨rfl, rfl⟩ | ⟨rfl, rfl⟩ | ⟨hk, h1⟩
      · rw [hne k hbr'] at hg; exact ⟨hg, _, hb, rfl⟩
      · rw [upd_same] at hg; cases hg
      · rw [hne k hk] at hg; exact ⟨hg, q, h1, ho⟩
    obtain ⟨h1, e0, h2, h3⟩ := hown hq ho hg
    obtain ⟨h1', e0', h2', h3'⟩ := hown hq' ho' hg'
    exact hsim.apart k k' e0 e0' h2 h2' h3 h3' hkk g h1 h1'
  · rcases hents k q hq with ⟨rfl, rfl⟩ | ⟨rfl, rfl⟩ | ⟨hk, h1⟩
    · rw [hne k hbr'] at hg; exact hsim.sep k _ g p v hb rfl hg hp
    · rw [upd_same] at hg; cases hg
    · rw [hne k hk] at hg; exact hsim.sep k q g p v h1 ho hg hp⟩

theorem Sim.publish {X : Cx} {R : Run} {ρ : Env} {M : Mem} {st : St} {a : Act} {w : World} {r s n : Nat} {E : TypeId} {f : Nat → Nat → D} (h : Sim X R ρ M st a w) (he : st.ent r = some (.row E s n f)) (hr : r < 5000) (hlo : X.lo = 5000) :
    ∃ M', Mem.le M M' ∧ Sim X R ρ M' ⟨st.fr, (r, .pub s n f) :: st.hp⟩ a w := by
  obtain ⟨M', hM'⟩ : ∃ M' : Mem, M' = fun p => match M p with
    | some v => some v
    | none => if (ρ r).1 = some p.block then allM w p else none := ⟨_, rfl⟩
  have hle : Mem.le M M' := fun p v hp => by rw [hM']; simp only [hp]
  have hnew : ∀ p v, M' p = some v → M p = some v ∨ ((ρ r).1 = some p.block ∧ allM w p = some v) := fun p v hp => by
    rw [hM'] at hp
    cases hm : M p with
    | some u => simp only [hm] at hp; cases hp; exact .inl rfl
    | none =>
      simp only [hm] at hp
      split at hp
      · rename_i hb; exact .inr ⟨hb, hp⟩
      · cases hp
  have hof : ∀ p v, (ρ r).1 = some p.block → w.cell? p = some v → v.oneCell' = true → M' p = some v := fun p v hb hc ho => by
    rw [hM']
    cases hm : M p with
    | some u =>
      have := (h.pub p u hm).1
      rw [hc] at this; cases this
      simp only [hm]
    | none =>
      simp only [hm, if_pos hb]
      exact allM_of hc ho
  have hents : ∀ k q, (⟨st.fr, (r, .pub s n f) :: st.hp⟩ : St).ent k = some q → (k = r ∧ q = .pub s n f) ∨ (k ≠ r ∧ st.ent k = some q) := fun k q hq => by
    have hq' : lk k ((r, .pub s n f) :: st.hp) = some q := hq
    rw [lk_cons] at hq'
    split at hq'
    · rename_i hrk; cases hq'; exact .inl ⟨hrk.symm, rfl⟩
    · rename_i hrk; exact .inr ⟨fun e => hrk e.symm, hq'⟩
  refine ⟨M', hle, ⟨h.size, h.defers, h.chg, Mem.le_trans h.m0 hle, h.g0, fun p v hp => ?_, fun p v hp => ?_, fun t => (h.slots t).keep hle fun _ _ => rfl, fun k q hq => ?_, fun k q g hq ho hg => ?_, fun k k' q q' hq hq' ho ho' => ?_, fun k q g p v hq ho hg hp => ?_, h.fix, h.drn, h.kn⟩⟩
  · rcases hnew p v hp with h1 | ⟨h1, h2⟩
    · exact h.fresh p v h1
    · rcases h.own r _ p.block he rfl h1 with h3 | h3
      · exact .inr h3
      · omega
  · rcases hnew p v hp with h1 | ⟨h1, h2⟩
    · exact h.pub p v h1
    · exact allM_ok w p v h2
  · rcases hents k q hq with ⟨rfl, rfl⟩ | ⟨hk, h1⟩
    · have hcell := fun g hg i hi j hj => row_cell (h.ents k _ he) (g := g) hg (k := i) hi (j := j) hj
      obtain ⟨hc1, hc2, hc3⟩ := rowOf_cap (s := s) (n := n) (f := f) h (r := k) (by rw [he]; unfold rowOf; simp only [Nat.beq_refl])
      have hch : ∃ u : Nat → Nat → Value, ∀ i, i < n → ∀ j, j < s → ∀ gg, (ρ k).1 = some gg → w.cell? ⟨gg, i * s + j, none⟩ = some (u i j) ∧ DenD M (f i j) (u i j) ∧ (u i j).oneCell' = true := by
        cases hg : (ρ k).1 with
        | none => exact ⟨fun _ _ => undef, fun i hi => by have := hc3 hg; omega⟩
        | some gg =>
          refine ⟨fun i j => if hh : i < n ∧ j < s then (hcell gg hg i hh.1 j hh.2).choose else undef, fun i hi j hj g' hg' => ?_⟩
          cases hg'
          have hh : i < n ∧ j < s := ⟨hi, hj⟩
          simp only [dif_pos hh]
          exact (hcell gg hg i hh.1 j hh.2).choose_spec
      obtain ⟨u, hu⟩ := hch
      show DenD M' (.lst s n f) (.slice (addrOf (ρ k).1) n (ρ k).2)
      refine .lst s n f _ _ u hc1 hc2 (fun e => ?_) (fun ad e i hi j hj => ?_) (fun i hi j hj => ?_)
      · cases hg : (ρ k).1 with
        | none => exact hc3 hg
        | some gg => rw [hg] at e; cases e
      · cases hg : (ρ k).1 with
        | none => have := hc3 hg; omega
        | some gg =>
          rw [hg] at e
          cases e
          obtain ⟨k1, k2, k3⟩ := hu i hi j hj gg hg
          rw [add_off, Nat.zero_add]
          exact hof _ _ hg k1 k3
      · cases hg : (ρ k).1 with
        | none => have := hc3 hg; omega
        | some gg => exact (hu i hi j hj gg hg).2.1.mono hle
    · exact (h.ents k q h1).keep hle rfl (fun _ _ => rfl) fun _ _ _ _ => rfl
  · rcases hents k q hq with ⟨rfl, rfl⟩ | ⟨hk, h1⟩
    · cases ho
    · exact h.own k q g h1 ho hg
  · rcases hents k q hq with ⟨rfl, rfl⟩ | ⟨hk, h1⟩
    · cases ho
    · rcases hents k' q' hq' with ⟨rfl, rfl⟩ | ⟨hk', h1'⟩
      · cases ho'
      · exact h.apart k k' q q' h1 h1' ho ho'
  · rcases hents k q hq with ⟨rfl, rfl⟩ | ⟨hk, h1⟩
    · cases ho
    · rcases hnew p v hp with h2 | ⟨h2, h3⟩
      · exact h.sep k q g p v h1 ho hg h2
      · intro e
        rw [e] at h2
        exact h.apart k r q _ h1 he ho rfl hk g hg h2
theorem W.publish {X : Cx} {n : Nat} {st : St} {Q : Exit → St → Prop} {c : Code} (r : Nat) {s m : Nat} {E : TypeId} {f : Nat → Nat → D} (he : st.ent r = some (.row E s m f)) (h : St.un st fun fr hp => W X n c ⟨fr, (r, .pub s m f) :: hp⟩ Q) (hr : r < 5000 := by exact Nat.le_of_ble_eq_true rfl) (hlo : X.lo = 5000 := by rfl) : W X n c st Q := ⟨fun hX R hn ρ M a w hs => by
  obtain ⟨M', _, hs'⟩ := hs.publish he hr hlo
  exact (show W X n c ⟨st.fr, (r, .pub s m f) :: st.hp⟩ Q from h).out hX R hn ρ M' a w hs'⟩
theorem ExCall.pub {X : Cx} {n : Nat} {st : St} {d : Option Nat} {f' : FuncId} {cs : List AV} {K : St → Prop} (r : Nat) {s m : Nat} {E : TypeId} {f : Nat → Nat → D} (he : st.ent r = some (.row E s m f)) (h : St.un st fun fr hp => ExCall X n ⟨fr, (r, .pub s m f) :: hp⟩ d f' cs K) (hr : r < 5000 := by exact Nat.le_of_ble_eq_true rfl) (hlo : X.lo = 5000 := by rfl) : ExCall X n st d f' cs K := by
  constructor
  intro o hop hd R hn ρ M a w hs K' Q hK'
  obtain ⟨M', _, hs'⟩ := hs.publish he hr hlo
  have h' : ExCall X n ⟨st.fr, (r, .pub s m f) :: st.hp⟩ d f' cs K := h
  have e : ∀ x, (⟨st.fr, (r, .pub s m f) :: st.hp⟩ : St).ev X x = st.ev X x := fun x => by cases x <;> rfl
  exact h'.out o ⟨fun ρ M a w he hf => hop.run ρ M a w (fun x => by rw [← e x]; exact he x) hf⟩ hd R hn ρ M' a w hs' K' Q hK'
def ArgQ (X : Cx) (st : St) (c d : AV) : Prop := ∀ R ρ M a w v, Sim X R ρ M st a w → DenA ρ M c v → DenP M d v
def ArgsQ (X : Cx) (st : St) : List AV → List AV → Prop
  | [], [] => True
  | c :: l, d :: r => ArgQ X st c d ∧ ArgsQ X st l r
  | _, _ => False
theorem ArgsQ_at {X : Cx} {st : St} : ∀ {cs ds : List AV}, ArgsQ X st cs ds → ds.length = cs.length ∧ ∀ (i : Nat) (d : AV), ds[i]? = some d → ∃ c, cs[i]? = some c ∧ ArgQ X st c d
  | [], [], _ => ⟨rfl, fun i d h => by simp at h⟩
  | c :: l, d :: r, h => by
    obtain ⟨h1, h2⟩ := ArgsQ_at h.2
    refine ⟨by simp [h1], fun i d' hi => ?_⟩
    cases i with
    | zero => simp at hi; subst hi; exact ⟨c, rfl, h.1⟩
    | succ i => obtain ⟨c', e1, e2⟩ := h2 i d' (by simpa using hi); exact ⟨c', by simpa using e1, e2⟩
  | [], _ :: _, h => h.elim
  | _ :: _, [], h => h.elim
theorem ArgQ.pure {X : Cx} {st : St} {c d : AV} (h : AVle c d) (hd : d.pure = true) : ArgQ X st c d := fun R ρ M a w v hs hc => AV.pure_den (h _ _ _ hc) hd
theorem ArgQ.refl {X : Cx} {st : St} {c : AV} (hd : c.pure = true) : ArgQ X st c c := ArgQ.pure (AVle.refl c) hd
theorem ArgQ.nil {X : Cx} {st : St} {s : Nat} {f : Nat → Nat → D} : ArgQ X st (.dat (.val (.slice none 0 0))) (.dat (.lst s 0 f)) := ArgQ.pure (AVle.dat (Dle.nil s f)) rfl
theorem ArgQ.own {X : Cx} {st : St} {r s n N : Nat} {f g : Nat → Nat → D} (hr : st.ent r = some (.pub s N f)) (hn : n = N) (hfg : ∀ i, i < n → ∀ j, j < s → Dle (f i j) (g i j)) : ArgQ X st (.own r s 0 n) (.dat (.lst s n g)) := fun R ρ M a w v hs hc ρ' => by
  obtain rfl := own_of hc
  subst hn
  have h1 : DenD M (.lst s n f) (.slice (addrOf (ρ r).1) n (ρ r).2) := hs.ents r _ hr
  rw [partOf_zero, Nat.sub_zero]
  exact .dat (Dle.lst rfl hfg M _ h1)
theorem ArgQ.agg {X : Cx} {st : St} {cs ds : List AV} (h : ArgsQ X st cs ds) : ArgQ X st (.agg cs) (.agg ds) := fun R ρ M a w v hs hc ρ' => by
  obtain ⟨vs, rfl, hl, hd⟩ := agg_of hc
  obtain ⟨h1, h2⟩ := ArgsQ_at h
  exact .agg ds vs (by omega) fun i c v e1 e2 => by
    obtain ⟨c', e3, e4⟩ := h2 i c e1
    exact e4 R ρ M a w v hs (hd i c' v e3 e2) ρ'
theorem CallA.d4 {X : Cx} {st : St} {f : FuncId} {cs ds : List AV} {r : AV} (hc : ACalls X f ds r) (ha : ArgsQ X st cs ds) : CallA X st f cs r := by
  constructor
  intro o hop R ρ M a w h K Q hk
  obtain ⟨vs, hrun, hvl, hvd⟩ := hop.run ρ M a w h.ev hc.fn
  obtain ⟨hl, hat⟩ := ArgsQ_at ha
  have hlen : ds.length = vs.length := by omega
  have hC := hc.out M w vs (Cx.glob_mono h.m0 h.g0) h.pub hlen (fun i d v h1 h2 => by
    obtain ⟨c, e1, e2⟩ := hat i d h1
    obtain ⟨v', e3, e4⟩ := hvd i c e1
    rw [h2] at e3; cases e3
    exact e2 R ρ M a w v h e4)
  unfold Oper.wp
  rw [hrun, Oper.upon_enter]
  refine hC.mono fun e w' ⟨v, M', he, hd, hle, hfr, hp, hb, hdr⟩ => ?_
  subst he
  exact hk v ρ M' w' ⟨fun _ _ => rfl, hle, hfr, hp, hb, hd ρ, fun e he => (by cases he), hdr⟩

theorem W.pubD {X : Cx} {n : Nat} {st : St} {Q : Exit → St → Prop} {c : Code} (t r : Nat) {s m : Nat} {E : TypeId} {f : Nat → Nat → D} (ht : st.get t = .own r s 0 m) (he : st.ent r = some (.row E s m f)) (h : St.un st fun fr hp => W X n c ⟨(t, .dat (.lst s m f)) :: fr, (r, .pub s m f) :: hp⟩ Q) (hr : r < 5000 := by exact Nat.le_of_ble_eq_true rfl) (hlo : X.lo = 5000 := by rfl) : W X n c st Q := ⟨fun hX R hn ρ M a w hs => by
  obtain ⟨M', _, hs'⟩ := hs.publish he hr hlo
  have h' : W X n c ⟨(t, .dat (.lst s m f)) :: st.fr, (r, .pub s m f) :: st.hp⟩ Q := h
  refine h'.out hX R hn ρ M' a w (hs'.reslot ?_)
  have h1 := hs'.slots t
  have h2 : (⟨st.fr, (r, .pub s m f) :: st.hp⟩ : St).get t = .own r s 0 m := ht
  rw [h2] at h1
  rw [own_of h1, partOf_zero, Nat.sub_zero]
  have h3 : EntOk ρ M' w r (.pub s m f) := hs'.ents r _ (by show lk r _ = _; rw [lk_cons, if_pos rfl])
  exact .dat h3⟩
section
variable {X : Cx} {n : Nat} {st : St} {Q : Exit → St → Prop}
theorem Zs {c d : Code} (h : W X n c st (fun e st' => match e with
    | .normal => W X n d st' Q
    | e => Q e st')) : W X n (.seq c d) st Q := W.seq h
theorem Zk {i : Nat} {c : Code} (h : W X n c st (fun e st' => match e with
    | .exit j => match Nat.beq j i with
      | true => Q .normal st'
      | false => Q (.exit j) st'
    | e => Q e st')) : W X n (.block i c) st Q := W.block h
theorem Za {i : Nat} {l : List Oper} (h : ex X n l l st (Q .normal)) : W X n (.region i l.toArray false) st Q := W.region h
theorem Zas (k : Nat) {i : Nat} {l : List Oper} (h : ex X n l l st (Q .normal)) (hi : Nat.beq i k = false := by rfl) : W X n (.region i l.toArray false) st Q := W.region h
theorem Zr (h : Q .ret st) : W X n .ret st Q := W.ret h
theorem Zp (h : Q .normal st) : W X n .skip st Q := W.skip h
theorem Ze {i : Nat} (h : Q (.exit i) st) : W X n (.exit i) st Q := W.exit h
theorem Zd {x : Operand} {c d : Code} (h : cond1 (st.ev X x) (W X n c st Q) (W X n d st Q)) : W X n (.cond x c d) st Q := W.cond h
end
theorem Zn {k : IntKind} {e z : Int} {K : Int → Prop} (c : K z) (h : z = k.wrap e := by first | with_reducible exact divOk (by omega) (by omega) (by omega) | with_reducible exact modOk (by omega) (by omega) (by omega) (by omega) | exact wrapOk (by omega) | with_reducible exact wrapU (by omega) | exact wrapOk (by (simp only [Int.toNat_natCast] at *); omega)) : NumK k e K := ⟨z, h, c⟩
theorem Zc {p K : Prop} (c : K) (h : p := by first | omega | (simp; done) | (simp; omega) | exact rfl | exact ⟨by assumption, rfl⟩) : CndK p K := ⟨h, c⟩
theorem Zb {e : Bool} {A B PA PB : Prop} (ha : PA → A) (hb : PB → B)
    (h1 : e = true → PA := by intro h; first | ((try simp only [decide_eq_true_eq, decide_eq_false_iff_not, Bool.and_eq_true, Bool.or_eq_true, Bool.not_eq_true', Bool.not_eq_false', Bool.or_eq_false_iff, Bool.and_eq_false_iff, Int.not_lt, Int.not_le, gt_iff_lt, ge_iff_le] at h); exact h) | exact h)
    (h2 : e = false → PB := by intro h; first | ((try simp only [decide_eq_true_eq, decide_eq_false_iff_not, Bool.and_eq_true, Bool.or_eq_true, Bool.not_eq_true', Bool.not_eq_false', Bool.or_eq_false_iff, Bool.and_eq_false_iff, Int.not_lt, Int.not_le, gt_iff_lt, ge_iff_le] at h); exact h) | exact h) : BrK e A B := ⟨fun h => ha (h1 h), fun h => hb (h2 h)⟩
theorem Zx {P : Prop} (h : False := by first | omega | contradiction) : P := h.elim
theorem Zy {X : Cx} {n : Nat} {st : St} {d : Option Nat} {f : FuncId} {cs : List AV} {K : St → Prop} {r : AV} (h : ACalls X f cs r) (hk : aftK n st d r none K) (hp : pureL cs = true := by rfl) : ExCall X n st d f cs K := ExCall.by (CallA.d2 hp h) hk
theorem Zz {X : Cx} {st : St} {d : Option Nat} {f : FuncId} {cs : List AV} {K : Option Nat → Fx → Prop} {r : AV} (h : ACalls X f cs r) (hk : K none ⟨r, none⟩) (hp : pureL cs = true := by rfl) : CallK X st d f cs K := CallK.by (CallA.d2 hp h) hk
theorem Zq {X : Cx} {n : Nat} {st : St} {d : Option Nat} {f : FuncId} {cs ds : List AV} {K : St → Prop} {r : AV} (h : ACalls X f ds r) (hk : aftK n st d r none K) (ha : ArgsQ X st cs ds := by ((repeat' (first | exact trivial | exact ArgQ.refl rfl | exact ArgQ.nil | exact ArgQ.own rfl rfl (fun _ _ _ _ => Dle.refl _) | refine ArgQ.agg ?_ | refine And.intro ?_ ?_ | exact ArgQ.pure (AVle.int (by omega)) rfl)); first | done | fail)) : ExCall X n st d f cs K := ExCall.by (CallA.d4 h ha) hk
theorem Zw {X : Cx} {st : St} {d : Option Nat} {f : FuncId} {cs ds : List AV} {K : Option Nat → Fx → Prop} {r : AV} (h : ACalls X f ds r) (hk : K none ⟨r, none⟩) (ha : ArgsQ X st cs ds := by ((repeat' (first | exact trivial | exact ArgQ.refl rfl | exact ArgQ.nil | exact ArgQ.own rfl rfl (fun _ _ _ _ => Dle.refl _) | refine ArgQ.agg ?_ | refine And.intro ?_ ?_ | exact ArgQ.pure (AVle.int (by omega)) rfl)); first | done | fail)) : CallK X st d f cs K := CallK.by (CallA.d4 h ha) hk
theorem Zi {X : Cx} {st : St} {k : IntKind} {a b : Int} (h : a = b) : ResLe X st (.dat (.val (.int k a))) (.dat (.val (.int k b))) := ResLe.pure (AVle.int h) rfl
theorem Zl {X : Cx} {st : St} {c : AV} (h : c.pure = true := by rfl) : ResLe X st c c := ResLe.pure (AVle.refl c) h
theorem Zm {X : Cx} {st : St} {s : Nat} {f : Nat → Nat → D} : ResLe X st (.dat (.val (.slice none 0 0))) (.dat (.lst s 0 f)) := ResLe.pure (AVle.dat (Dle.nil _ _)) rfl
theorem Zo {X : Cx} {st : St} {c d : AV} {a b : Bool} {P : Prop} (hc : boolOf c = some a := by rfl) (hd : boolOf d = some b := by rfl) (hn : P → ((a = true) ↔ (b = true)) := by (intro h; simp only [decide_eq_true_eq, true_iff, iff_true, false_iff, iff_false, Bool.false_eq_true, Bool.not_eq_true', decide_eq_false_iff_not]; exact h)) (h : P) : ResLe X st c d := ResLe.bo hc hd (hn h)
theorem Yr {c : AV} : AVle c c := AVle.refl c
theorem Yi {k : IntKind} {a b : Int} (h : a = b) : AVle (.dat (.val (.int k a))) (.dat (.val (.int k b))) := AVle.int h
theorem Yo {r s lo n m : Nat} (h : n = m) : AVle (.own r s lo n) (.own r s lo m) := AVle.own h
theorem Yd {d : D} : AVle (.dat d) (.dat d) := AVle.refl _
theorem Yn {s : Nat} {f : Nat → Nat → D} : AVle (.dat (.val (.slice none 0 0))) (.dat (.lst s 0 f)) := AVle.dat (Dle.nil _ _)
theorem Ye {c d : AV} (h : c = d) : AVle c d := AVle.of_eq h
theorem Yf {e : Ent} : EntLe e e := EntLe.refl e
theorem Yb {t : TypeId} {cs ds : List AV} (h : AVsLe cs ds) : EntLe (.blk t cs) (.blk t ds) := EntLe.blk h
theorem Yw {E : TypeId} {s n m : Nat} {f g : Nat → Nat → D} (hn : n = m) (h : ∀ i, i < n → ∀ j, j < s → Dle (f i j) (g i j)) : EntLe (.row E s n f) (.row E s m g) := EntLe.row hn h
theorem Yq {p : Prop} (h : p := by first | exact trivial | exact Yr | exact Yi (by first | rfl | omega) | exact Yo (by first | rfl | omega) | exact Yd | exact Yn | exact Ye (by first | rfl | omega) | exact ⟨_, rfl, Yf, rfl⟩ | fail) : p := h
theorem Zrq {p : Prop} (h : p := by first | exact trivial | exact Zm | exact Zl | exact ResLe.row0 rfl | exact Zi (by first | rfl | omega) | exact Zo (h := by first | rfl | omega) | exact ResLe.bo rfl rfl Iff.rfl | fail) : p := h
theorem Zhq {p : Prop} (h : p := by first | exact trivial | exact AVle.refl _ | exact EntLe.refl _ | exact AVle.int (by first | rfl | omega) | exact ResH.same (AVle.refl _) | exact ResH.same (AVle.own (by first | rfl | omega)) | exact ResH.same (AVle.int (by first | rfl | omega)) | exact ResH.same (AVle.bool (by simp only [decide_eq_true_eq, decide_eq_false_iff_not, decide_eq_decide]; first | rfl | omega)) | exact ResH.same (AVle.tt_ (by simp only [decide_eq_true_eq, decide_eq_false_iff_not, decide_eq_decide]; first | rfl | omega)) | exact ResH.same (AVle.ff_ (by simp only [decide_eq_true_eq, decide_eq_false_iff_not, decide_eq_decide]; first | rfl | omega)) | exact ResH.same (AVle.tt_ rfl) | exact ResH.same (AVle.ff_ rfl) | exact ⟨_, rfl, EntLe.refl _, rfl⟩ | fail) : p := h
theorem Yz {p : Prop} (h : p := by ((repeat' (first | exact Yq | refine ⟨_, rfl, Yb ?_, rfl⟩ | refine ⟨_, rfl, Yw (by first | rfl | omega) ?_, rfl⟩ | refine And.intro ?_ ?_)); (first | done | fail))) : p := h
theorem Zrz {p : Prop} (h : p := by ((repeat' (first | exact Zrq | refine ResLe.agg ?_ | refine And.intro ?_ ?_ | ((conv => whnf); first | exact Zrq | refine ResLe.agg ?_ | refine And.intro ?_ ?_))); (first | done | fail))) : p := h
section
variable {X : Cx} {n : Nat}
def wstep (X : Cx) (n k : Nat) : Code → St → (Exit → St → Prop) → Prop
  | .seq c d, st, Q => W X n c st fun e st' => match e with
    | .normal => W X n d st' Q
    | e => Q e st'
  | .skip, st, Q => Q .normal st
  | .exit i, st, Q => Q (.exit i) st
  | .ret, st, Q => Q .ret st
  | .block i c, st, Q => W X n c st fun e st' => match e with
    | .exit j => match Nat.beq j i with
      | true => Q .normal st'
      | false => Q (.exit j) st'
    | e => Q e st'
  | .cond x c d, st, Q => cond1 (st.ev X x) (W X n c st Q) (W X n d st Q)
  | .region i a b, st, Q => match b with
    | true => False
    | false => match Nat.beq i k with
      | true => False
      | false => ex X n a.toList a.toList st (Q .normal)
  | _, _, _ => False
def goB (k : Nat) : Code → Bool
  | .region i _ b => match b with
    | true => false
    | false => match Nat.beq i k with
      | true => false
      | false => true
  | .seq .. => true
  | .skip => true
  | .exit _ => true
  | .ret => true
  | .block .. => true
  | .cond .. => true
  | _ => false
theorem Zv (k : Nat) {c : Code} {st : St} {Q : Exit → St → Prop} (h : wstep X n k c st Q) (hg : goB k c = true := by rfl) : W X n c st Q := by
  clear hg
  cases c with
  | seq c d => exact W.seq h
  | skip => exact W.skip h
  | exit i => exact W.exit h
  | ret => exact W.ret h
  | block i c => exact W.block h
  | cond x c d => exact W.cond h
  | region i a b =>
    cases b with
    | true => exact h.elim
    | false =>
      unfold wstep at h
      simp only at h
      split at h
      · exact h.elim
      · obtain ⟨l⟩ := a
        exact W.region h
  | _ => exact False.elim h
theorem Zg {c : Code} {st : St} {Q : Exit → St → Prop} (h : wstep X n 999999 c st Q) (hg : goB 999999 c = true := by rfl) : W X n c st Q := Zv 999999 h hg
theorem Zt {id : Nat} {l : List Oper} {st : St} {Q : Exit → St → Prop} (tb : List (Nat × (List Nat × List (Option Nat × Option Nat)))) {ms : List Nat} {drs : List (Option Nat × Option Nat)}
    (h : exD X n l ms drs st l ms drs 0 [] fun effs => CndK (apartB ms effs drs 0 = true) (Q .normal (vw (fun _ => .app) drs effs 0 st))) (hm : X.P.follows .mixedOrders = true := by exact mixed) (ht : lk id tb = some (ms, drs) := by rfl) (hB : drawB n l ms drs = true := by rfl) : W X n (.region id l.toArray true) st Q := W.drawT tb ht hm hB h
theorem Zu {p : Bool → Prop} {K : Bool → Prop} (h : ∀ b, p b → K b) : UnK p K := UnK.mk h
end
end Go.Proofs.Ytoeghejbgibioaa
