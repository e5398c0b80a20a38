/- A quiet operation's description afterwards; stores; appends. -/
import Derived.Test.YtekdobbhkklapaaGreatVh
namespace Go.Proofs.YtekdobbhkklapaaGreat
open Go Go.RowKit
set_option linter.unusedVariables false
set_option linter.unusedSimpArgs false

/-- The parts of a description, written out. -/
def St.un (st : St) (K : List (Nat × AV) → List (Nat × Ent) → Prop) : Prop := match st with
  | ⟨fr, hp⟩ => K fr hp
def cleanF (t : Nat) : List (Nat × AV) → Bool
  | [] => true
  | (s, c) :: r => match Nat.beq s t with
    | true => cleanF t r
    | false => match AV.uses t c with
      | true => false
      | false => cleanF t r
def cleanH (t : Nat) : List (Nat × Ent) → Bool
  | [] => true
  | (s, c) :: r => match Nat.beq s t with
    | true => cleanH t r
    | false => match Ent.uses t c with
      | true => false
      | false => cleanH t r
theorem cleanF_get {t s : Nat} : ∀ {l : List (Nat × AV)}, cleanF t l = true → s ≠ t → ∀ c, lk s l = some c → AV.uses t c = false
  | [], _, _, c, h => by cases h
  | (s', c') :: r, h, hne, c, hl => by
    simp only [cleanF] at h
    rw [lk_cons] at hl
    split at hl
    · rename_i he
      subst he
      cases hl
      have : Nat.beq s' t = false := by
        cases hb : Nat.beq s' t
        · rfl
        · exact absurd (Nat.eq_of_beq_eq_true hb) hne
      rw [this] at h
      simp only at h
      split at h
      · cases h
      · rename_i hu; exact hu
    · split at h
      · exact cleanF_get h hne c hl
      · split at h
        · cases h
        · exact cleanF_get h hne c hl
theorem cleanH_get {t s : Nat} : ∀ {l : List (Nat × Ent)}, cleanH t l = true → s ≠ t → ∀ c, lk s l = some c → Ent.uses t c = false
  | [], _, _, c, h => by cases h
  | (s', c') :: r, h, hne, c, hl => by
    simp only [cleanH] at h
    rw [lk_cons] at hl
    split at hl
    · rename_i he
      subst he
      cases hl
      have : Nat.beq s' t = false := by
        cases hb : Nat.beq s' t
        · rfl
        · exact absurd (Nat.eq_of_beq_eq_true hb) hne
      rw [this] at h
      simp only at h
      split at h
      · cases h
      · rename_i hu; exact hu
    · split at h
      · exact cleanH_get h hne c hl
      · split at h
        · cases h
        · exact cleanH_get h hne c hl
theorem get_uses {t s : Nat} {st : St} (h : cleanF t st.fr = true) (hne : s ≠ t) : AV.uses t (st.get s) = false := by
  unfold St.get
  cases hq : lk s st.fr with
  | none => rfl
  | some c => exact cleanF_get h hne c hq

def St.aft (st : St) (d : Option Nat) (c : AV) (ne : Option Ent) : St := match d with
  | none => st
  | some t => match ne with
    | none => ⟨(t, c) :: st.fr, st.hp⟩
    | some e => ⟨(t, c) :: st.fr, (t, e) :: st.hp⟩
theorem St.get_cons (st : St) (t : Nat) (c : AV) (hp : List (Nat × Ent)) (s : Nat) : (⟨(t, c) :: st.fr, hp⟩ : St).get s = if t = s then c else st.get s := by
  unfold St.get
  rw [lk_cons]
  by_cases h : t = s
  · rw [if_pos h, if_pos h]
  · rw [if_neg h, if_neg h]
theorem put_get (a : Act) (t : Nat) (v : Value) (ht : t < a.tmps.size) (s : Nat) : (a.put (some t) v).tmps.getD s undef = if t = s then v else a.tmps.getD s undef := by
  by_cases h : t = s
  · subst h
    simp [Act.put, ht]
  · rw [if_neg h]
    simp [Act.put, Array.getElem?_setIfInBounds_ne h]
theorem put_sz (a : Act) (d : Option Tmp) (v : Value) : (a.put d v).tmps.size = a.tmps.size := by cases d <;> simp [Act.put]
theorem put_df (a : Act) (d : Option Tmp) (v : Value) : (a.put d v).defers = a.defers := by cases d <;> rfl

/-- What a description needs of the slot that is written. -/
def okDst (n : Nat) (st : St) (d : Option Nat) (ne : Option Ent) : Prop := ∀ t, d = some t → t < n ∧ (ne.isSome = true → cleanF t st.fr = true ∧ cleanH t st.hp = true)

theorem Sim.quiet {X : Cx} {R : Run} {ρ ρ' : Env} {M M' : Mem} {st : St} {a : Act} {w w' : World} {d : Option Nat} {c : AV} {ne : Option Ent} {v : Value} (h : Sim X R ρ M st a w) (hx : ExtQ X.dr ρ M w ρ' M' w' d c ne v) (hd : okDst R.n st d ne) :
    Sim X R ρ' M' (st.aft d c ne) (a.put d v) w' := by
  have hb := hx.bel
  have hsz := hb.size
  have hcsz := h.chg.size
  have henv : ∀ r, (∀ t, d = some t → ne.isSome = true → r ≠ t) → ρ' r = ρ r := fun r hr => hx.env r fun e he ht => by
    exact hr r ht (by rw [he]; rfl) rfl
  have hslot0 : ∀ s, (∀ t, d = some t → s ≠ t) → DenA ρ' M' (st.get s) (a.tmps.getD s undef) := fun s hs => by
    refine (h.slots s).keep hx.mem fun r hr => henv r fun t ht hne he => ?_
    subst he
    rw [get_uses ((hd r ht).2 hne).1 (hs r ht)] at hr
    cases hr
  have hent0 : ∀ r e, st.ent r = some e → (∀ t, d = some t → ne.isSome = true → r ≠ t) → EntOk ρ' M' w' r e := fun r e he hr => by
    refine (h.ents r e he).keep hx.mem (henv r hr) (fun k hk => henv k fun t ht hne hkt => ?_) (fun g ho hg hlt => hb.block g hlt)
    subst hkt
    rw [cleanH_get ((hd k ht).2 hne).2 (hr k ht hne) e he] at hk
    cases hk
  have hents : ∀ r e, (st.aft d c ne).ent r = some e → (∃ t, d = some t ∧ r = t ∧ ne = some e) ∨ (st.ent r = some e ∧ ∀ t, d = some t → ne.isSome = true → r ≠ t) := fun r e he => by
    cases d with
    | none => exact .inr ⟨he, fun t ht => by cases ht⟩
    | some t =>
      cases ne with
      | none => exact .inr ⟨he, fun t _ hn => by cases hn⟩
      | some e' =>
        have he' : lk r ((t, e') :: st.hp) = some e := he
        rw [lk_cons] at he'
        split at he'
        · rename_i htr
          cases he'
          exact .inl ⟨t, rfl, htr.symm, rfl⟩
        · rename_i htr
          exact .inr ⟨he', fun t' ht' _ hrt => by cases ht'; exact htr hrt.symm⟩
  refine ⟨by rw [put_sz]; exact h.size, by rw [put_df]; exact h.defers, h.chg.trans (.of_below (bs := []) hb) (fun g hg => by cases hg), Mem.le_trans h.m0 hx.mem, h.g0, fun p u hp => ?_, hx.pub, fun s => ?_, fun r e he => ?_, fun r e g he ho hg => ?_, fun r r' e e' he he' ho ho' hne g hg hg' => ?_, fun r e g p u he ho hg hp => ?_, fun k hk => (henv k fun t ht _ hkt => by
    subst hkt
    have h1 := (hd k ht).1
    have h2 := kp_small (k := k) (Nat.lt_of_lt_of_le h1 R.n5)
    rw [hk] at h2; cases h2).trans (h.fix k hk), fun hd => Nat.le_trans (h.drn hd) (hx.drn hd)⟩
  · rcases hx.fresh p u hp with h1 | h1
    · exact h.fresh p u h1
    · exact .inr (by omega)
  · cases d with
    | none => exact hslot0 s (fun t ht => by cases ht)
    | some t =>
      have ht := (hd t rfl).1
      have e1 : (st.aft (some t) c ne).get s = if t = s then c else st.get s := by
        cases ne <;> exact St.get_cons st t c _ s
      rw [e1, put_get a t v (by rw [h.size]; exact ht)]
      by_cases hts : t = s
      · rw [if_pos hts, if_pos hts]; exact hx.den
      · rw [if_neg hts, if_neg hts]
        exact hslot0 s (fun t' ht' => by cases ht'; exact fun e => hts e.symm)
  · rcases hents r e he with ⟨t, ht, rfl, hne⟩ | ⟨h1, h2⟩
    · obtain ⟨t', ht', hok, _⟩ := hx.new e hne
      rw [ht] at ht'; cases ht'
      exact hok
    · exact hent0 r e h1 h2
  · rcases hents r e he with ⟨t, ht, rfl, hne⟩ | ⟨h1, h2⟩
    · obtain ⟨t', ht', hok, hbk⟩ := hx.new e hne
      rw [ht] at ht'; cases ht'
      have := (hbk g hg).1
      exact .inl (by omega)
    · rw [henv r h2] at hg
      exact h.own r e g h1 ho hg
  · rcases hents r e he with ⟨t, ht, rfl, hn⟩ | ⟨h1, h2⟩
    · obtain ⟨t', ht', hok, hbk⟩ := hx.new e hn
      rw [ht] at ht'; cases ht'
      have hge := (hbk g hg).1
      rcases hents r' e' he' with ⟨t2, ht2, rfl, hn2⟩ | ⟨h3, h4⟩
      · rw [ht] at ht2; cases ht2; exact hne rfl
      · rw [henv r' h4] at hg'
        have := (h.ents r' e' h3).lt ho' g hg'
        omega
    · rw [henv r h2] at hg
      rcases hents r' e' he' with ⟨t2, ht2, rfl, hn2⟩ | ⟨h3, h4⟩
      · obtain ⟨t', ht', hok, hbk⟩ := hx.new e' hn2
        rw [ht2] at ht'; cases ht'
        have hge := (hbk g hg').1
        have := (h.ents r e h1).lt ho g hg
        omega
      · rw [henv r' h4] at hg'
        exact h.apart r r' e e' h1 h3 ho ho' hne g hg hg'
  · rcases hents r e he with ⟨t, ht, rfl, hne⟩ | ⟨h1, h2⟩
    · obtain ⟨t', ht', hok, hbk⟩ := hx.new e hne
      rw [ht] at ht'; cases ht'
      exact (hbk g hg).2 p u hp
    · rw [henv r h2] at hg
      rcases hx.fresh p u hp with h3 | h3
      · exact h.sep r e g p u h1 ho hg h3
      · have := (h.ents r e h1).lt ho g hg
        omega

/-- A store into own block r: this block alone turns. -/
theorem Sim.stored {X : Cx} {R : Run} {ρ : Env} {M : Mem} {st : St} {a : Act} {w w' : World} {r g : Nat} {e e' : Ent} (h : Sim X R ρ M st a w) (he : st.ent r = some e) (ho : e.owned = true) (ho' : e'.owned = true) (hg : (ρ r).1 = some g)
    (hok : EntOk ρ M w' r e') (hw : Chg [g] w w') (hs : w'.heap.size = w.heap.size) (hdr : w.drawn ≤ w'.drawn) : Sim X R ρ M ⟨st.fr, (r, e') :: st.hp⟩ a w' := by
  have hents : ∀ k q, (⟨st.fr, (r, e') :: st.hp⟩ : St).ent k = some q → (k = r ∧ q = e') ∨ (k ≠ r ∧ st.ent k = some q) := fun k q hq => by
    have hq' : lk k ((r, e') :: st.hp) = some q := hq
    rw [lk_cons] at hq'
    split at hq'
    · rename_i hrk; cases hq'; exact .inl ⟨hrk.symm, rfl⟩
    · rename_i hrk; exact .inr ⟨fun e => hrk e.symm, hq'⟩
  have hpub : PubOk M w' := fun p v hp => by
    obtain ⟨h1, h2⟩ := h.pub p v hp
    refine ⟨(World.cell?_of_block (hw.block _ (cell_lt h1) ?_)).trans h1, h2⟩
    simp
    exact h.sep r e g p v he ho hg hp
  refine ⟨h.size, h.defers, h.chg.trans hw (fun k hk hlt => ?_), h.m0, h.g0, h.fresh, hpub, h.slots, fun k q hq => ?_, fun k q b hq hoq hb => ?_, fun k k' q q' hq hq' hoq hoq' hne b hb hb' => ?_, fun k q b p v hq hoq hb hp => ?_, h.fix, fun hd => Nat.le_trans (h.drn hd) hdr⟩
  · simp at hk
    subst hk
    rcases h.own r e k he ho hg with h1 | h1
    · omega
    · exact R.hsub _ _ h1.2
  · rcases hents k q hq with ⟨rfl, rfl⟩ | ⟨hne, h1⟩
    · exact hok
    · refine (h.ents k q h1).keep (Mem.le_refl _) rfl (fun _ _ => rfl) fun b hob hb hlt => hw.block b hlt ?_
      simp
      intro hbg
      subst hbg
      exact h.apart k r q e h1 he hob ho hne b hb hg
  · rcases hents k q hq with ⟨rfl, rfl⟩ | ⟨hne, h1⟩
    · exact h.own k e b he ho hb
    · exact h.own k q b h1 hoq hb
  · rcases hents k q hq with ⟨rfl, rfl⟩ | ⟨hn, h1⟩
    · rcases hents k' q' hq' with ⟨rfl, rfl⟩ | ⟨hn', h1'⟩
      · exact hne rfl
      · exact h.apart k k' e q' he h1' ho hoq' hne b hb hb'
    · rcases hents k' q' hq' with ⟨rfl, rfl⟩ | ⟨hn', h1'⟩
      · exact h.apart k k' q e h1 he hoq ho hne b hb hb'
      · exact h.apart k k' q q' h1 h1' hoq hoq' hne b hb hb'
  · rcases hents k q hq with ⟨rfl, rfl⟩ | ⟨hne, h1⟩
    · exact h.sep k e b p v he ho hb hp
    · exact h.sep k q b p v h1 hoq hb hp

end Go.Proofs.YtekdobbhkklapaaGreat
