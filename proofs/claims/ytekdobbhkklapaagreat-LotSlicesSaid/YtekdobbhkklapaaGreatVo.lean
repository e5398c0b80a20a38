/- One operation of a region that draws its order: what it does to any description that says as much as its own view. -/
import Derived.Test.YtekdobbhkklapaaGreatVn
namespace Go.Proofs.YtekdobbhkklapaaGreat
open Go Go.RowKit
set_option linter.unusedVariables false
set_option linter.unusedSimpArgs false
set_option linter.unnecessarySimpa false

/-- What an operation may do: to its slot, to public memory, to the own block that it names. -/
structure FExt (dr : Bool) (ρ : Env) (M : Mem) (w : World) (ρ' : Env) (M' : Mem) (w' : World) (d r : Option Nat) (x : Fx) (lo : Bool) (v : Value) : Prop where
  env : ∀ k, r ≠ some k → ρ' k = ρ k
  keep : (∀ e, x.e ≠ some (e, true)) → ρ' = ρ
  mem : Mem.le M M'
  fresh : ∀ p u, M' p = some u → M p = some u ∨ w.heap.size ≤ p.block
  pubN : ∀ p u, M' p = some u → M p = some u ∨ (w'.cell? p = some u ∧ u.oneCell' = true)
  os : w'.os = w.os
  tape : w'.tape = w.tape
  output : w'.output = w.output
  size : w.heap.size ≤ w'.heap.size
  block : ∀ k, k < w.heap.size → (lo = true → ∀ q, r = some q → (ρ q).1 ≠ some k) → w'.heap[k]? = w.heap[k]?
  den : DenA ρ' M' x.c v
  ent : ∀ q e b, r = some q → x.e = some (e, b) → EntOk ρ' M' w' q e ∧ (e.owned = true → ∀ g, (ρ' q).1 = some g → (w.heap.size ≤ g ∧ ∀ p u, M' p = some u → p.block ≠ g) ∨ (lo = true ∧ (ρ q).1 = some g))
  drn : dr = true → w.drawn ≤ w'.drawn

theorem sfd_get (d r : Option Nat) (x : Fx) (s : St) (t : Nat) : (fxD d r x s).get t = (fxF d r x s.sf).g t := congrArg (fun q => SF.g q t) (sf_fxD d r x s)
theorem sfd_ent (d r : Option Nat) (x : Fx) (s : St) (k : Nat) : (fxD d r x s).ent k = (fxF d r x s.sf).h k := congrArg (fun q => SF.h q k) (sf_fxD d r x s)

theorem slotF_den {X : Cx} {R : Run} {ρ ρ' : Env} {M M' : Mem} {s : St} {a : Act} {w : World} (h : Sim X R ρ M s a w) {d : Option Nat} {c : AV} {v : Value} {g : Nat → AV} (hd : ∀ t, d = some t → t < R.n) (hc : DenA ρ' M' c v) (hg : ∀ t, DenA ρ' M' (g t) (a.tmps.getD t undef)) (t : Nat) :
    DenA ρ' M' (slotF d c g t) ((a.put d v).tmps.getD t undef) := by
  cases d with
  | none => exact hg t
  | some u =>
    rw [put_get a u v (by rw [h.size]; exact hd u rfl)]
    show DenA ρ' M' (if u = t then c else g t) _
    by_cases hu : u = t
    · rw [if_pos hu, if_pos hu]; exact hc
    · rw [if_neg hu, if_neg hu]; exact hg t

/-- An effect carried out on any description that says as much. -/
theorem Sim.fx {X : Cx} {R : Run} {ρ ρ' : Env} {M M' : Mem} {s : St} {a : Act} {w w' : World} {d r : Option Nat} {x : Fx} {lo : Bool} {v : Value} (h : Sim X R ρ M s a w) (hx : FExt X.dr ρ M w ρ' M' w' d r x lo v) (hd : ∀ t, d = some t → t < R.n) (hfit : r = none → x.e = none)
    (hlx : lo = true → x.e ≠ none) (hlo : lo = true → ∃ q e0, r = some q ∧ s.ent q = some e0 ∧ e0.owned = true) (hmv : ∀ e q, x.e = some (e, true) → r = some q → kp q = false ∨ d = some q) : Sim X R ρ' M' (fxD d r x s) (a.put d v) w' := by
  have hblk : ∀ k q, s.ent k = some q → q.owned = true → (∀ j, r = some j → j ≠ k) → ∀ g, (ρ k).1 = some g → g < w.heap.size → w'.heap[g]? = w.heap[g]? := fun k q hk ho hjk g hg hlt => hx.block g hlt fun hl j hj hgj => by
    obtain ⟨q', e0, h1, h2, h3⟩ := hlo hl
    rw [hj] at h1; cases h1
    exact h.apart j k e0 q h2 hk h3 ho (hjk j hj) g hgj hg
  have hpub : PubOk M' w' := fun p u hp => by
    rcases hx.pubN p u hp with h1 | h1
    · obtain ⟨h2, h3⟩ := h.pub p u h1
      refine ⟨(World.cell?_of_block (hx.block p.block (cell_lt h2) fun hl j hj hgj => ?_)).trans h2, h3⟩
      obtain ⟨q', e0, k1, k2, k3⟩ := hlo hl
      rw [hj] at k1; cases k1
      exact h.sep j e0 p.block p u k2 k3 hgj h1 rfl
    · exact h1
  have hchg : Chg R.bs R.w0 w' := by
    refine ⟨hx.os.trans h.chg.os, hx.tape.trans h.chg.tape, hx.output.trans h.chg.output, Nat.le_trans h.chg.size hx.size, fun k hk hn => (hx.block k (Nat.lt_of_lt_of_le hk h.chg.size) fun hl j hj hgj => ?_).trans (h.chg.block k hk hn)⟩
    obtain ⟨q', e0, k1, k2, k3⟩ := hlo hl
    rw [hj] at k1; cases k1
    rcases h.own j e0 k k2 k3 hgj with h4 | h4
    · omega
    · exact hn (R.hsub _ _ h4.2)
  have hfresh : ∀ p u, M' p = some u → R.M0 p = some u ∨ R.w0.heap.size ≤ p.block := fun p u hp => by
    rcases hx.fresh p u hp with h1 | h1
    · exact h.fresh p u h1
    · have := h.chg.size; exact .inr (by omega)
  -- own blocks: which they are
  have hents : ∀ k e, (fxD d r x s).ent k = some e → (∃ b, r = some k ∧ x.e = some (e, b)) ∨ (∃ e0, s.ent k = some e0 ∧ e.owned = e0.owned ∧ ρ' k = ρ k ∧ (x.e = none ∨ r ≠ some k) ∧ (e = e0 ∧ ρ' = ρ ∨ ∃ q, r = some q ∧ e = Ent.junkR q e0)) := by
    intro k e he
    rw [sfd_ent] at he
    unfold fxF at he
    cases hr : r with
    | none =>
      rw [hr] at he
      have hxe := hfit hr
      have hρ := hx.keep fun e h => by rw [hxe] at h; cases h
      exact .inr ⟨e, he, rfl, by rw [hρ], .inl hxe, .inl ⟨rfl, hρ⟩⟩
    | some q =>
      rw [hr] at he
      cases hxe : x.e with
      | none =>
        rw [hxe] at he
        have hρ := hx.keep fun e h => by rw [hxe] at h; cases h
        exact .inr ⟨e, he, rfl, by rw [hρ], .inl rfl, .inl ⟨rfl, hρ⟩⟩
      | some p =>
        obtain ⟨e1, b⟩ := p
        rw [hxe] at he
        cases b with
        | true =>
          have h' : (if q = k then some e1 else (s.ent k).map (Ent.junkR q)) = some e := he
          by_cases hk : q = k
          · rw [if_pos hk] at h'
            cases h'
            exact .inl ⟨true, by rw [hk], rfl⟩
          · rw [if_neg hk] at h'
            cases hs : s.ent k with
            | none => rw [hs] at h'; cases h'
            | some e0 =>
              rw [hs] at h'
              cases h'
              exact .inr ⟨e0, rfl, Ent.junkR_owned q e0, hx.env k (by rw [hr]; exact fun e => hk (Option.some.inj e)), .inr fun e => hk (Option.some.inj e), .inr ⟨q, rfl, rfl⟩⟩
        | false =>
          have h' : (if q = k then some e1 else s.ent k) = some e := he
          have hρ := hx.keep fun e h => by rw [hxe] at h; cases h
          by_cases hk : q = k
          · rw [if_pos hk] at h'
            cases h'
            exact .inl ⟨false, by rw [hk], rfl⟩
          · rw [if_neg hk] at h'
            exact .inr ⟨e, h', rfl, by rw [hρ], .inr fun e => hk (Option.some.inj e), .inl ⟨rfl, hρ⟩⟩
  have hnewg : ∀ k e b, r = some k → x.e = some (e, b) → e.owned = true → ∀ g, (ρ' k).1 = some g → (w.heap.size ≤ g ∧ ∀ p u, M' p = some u → p.block ≠ g) ∨ ∃ e0, s.ent k = some e0 ∧ e0.owned = true ∧ (ρ k).1 = some g := fun k e b hr he ho g hg => by
    rcases (hx.ent k e b hr he).2 ho g hg with h1 | ⟨h1, h2⟩
    · exact .inl h1
    · obtain ⟨q', e0, k1, k2, k3⟩ := hlo h1
      rw [hr] at k1; cases k1
      exact .inr ⟨e0, k2, k3, h2⟩
  refine ⟨by rw [put_sz]; exact h.size, by rw [put_df]; exact h.defers, hchg, Mem.le_trans h.m0 hx.mem, h.g0, hfresh, hpub, fun t => ?_, fun k e he => ?_, fun k e g he ho hg => ?_, fun k k' e e' he he' ho ho' hne g hg hg' => ?_, fun k e g p u he ho hg hp => ?_, fun k hk => ?_, fun hd => Nat.le_trans (h.drn hd) (hx.drn hd)⟩
  rotate_right
  · have hkk : ρ' k = ρ k := by
      by_cases hr : r = some k
      · by_cases hxe : ∃ e, x.e = some (e, true)
        · obtain ⟨e, hxe⟩ := hxe
          rcases hmv e k hxe hr with h1 | h1
          · rw [hk] at h1; cases h1
          · have h2 := kp_small (k := k) (Nat.lt_of_lt_of_le (hd k h1) R.n5)
            rw [hk] at h2; cases h2
        · exact congrFun (hx.keep fun e h => hxe ⟨e, h⟩) k
      · exact hx.env k hr
    exact hkk.trans (h.fix k hk)
  · rw [sfd_get]
    unfold fxF
    cases hr : r with
    | none =>
      have hρ := hx.keep fun e h => by rw [hfit hr] at h; cases h
      exact slotF_den h hd hx.den (fun t => by rw [hρ]; exact (h.slots t).keep hx.mem fun _ _ => rfl) t
    | some q =>
      cases hxe : x.e with
      | none =>
        have hρ := hx.keep fun e h => by rw [hxe] at h; cases h
        exact slotF_den h hd hx.den (fun t => by rw [hρ]; exact (h.slots t).keep hx.mem fun _ _ => rfl) t
      | some p =>
        obtain ⟨e1, b⟩ := p
        cases b with
        | true => exact slotF_den h hd hx.den (fun t => AV.junkR_den hx.mem (fun k hk => hx.env k (by rw [hr]; exact fun e => hk (Option.some.inj e).symm)) (h.slots t)) t
        | false =>
          have hρ := hx.keep fun e h => by rw [hxe] at h; cases h
          exact slotF_den h hd hx.den (fun t => by rw [hρ]; exact (h.slots t).keep hx.mem fun _ _ => rfl) t
  · rcases hents k e he with ⟨b, h1, h2⟩ | ⟨e0, h1, h2, h3, h4, h5⟩
    · exact (hx.ent k e b h1 h2).1
    · have hb : ∀ g, e0.owned = true → (ρ k).1 = some g → g < w.heap.size → w'.heap[g]? = w.heap[g]? := fun g ho hg hlt => by
        rcases h4 with h4 | h4
        · exact hx.block g hlt fun hl j hj hgj => absurd h4 (hlx hl)
        · exact hblk k e0 h1 ho (fun j hj e => h4 (by rw [hj, e])) g hg hlt
      rcases h5 with ⟨rfl, hρ⟩ | ⟨q, hq, rfl⟩
      · exact (h.ents k e h1).keep hx.mem h3 (fun j _ => by rw [hρ]) hb
      · have h0 := h.ents k e0 h1
        cases e0 with
        | blk t cs =>
          obtain ⟨g, vs, e1, e3, e4, e5⟩ := h0
          refine ⟨g, vs, by rw [h3]; exact e1, by rw [hb g rfl e1 (Array.getElem?_eq_some_iff.1 e3).1]; exact e3, by simpa using e4, fun i c u hi hu => ?_⟩
          rw [List.getElem?_map] at hi
          cases hci : cs[i]? with
          | none => rw [hci] at hi; cases hi
          | some c0 =>
            rw [hci] at hi; cases hi
            exact AV.junkR_den hx.mem (fun j hj => hx.env j (by rw [hq]; exact fun e => hj (Option.some.inj e).symm)) (e5 i c0 u hci hu)
        | row E' s' n' f' => exact h0.keep hx.mem h3 (fun _ hu => by cases hu) hb
        | pub s' n' f' => exact h0.keep hx.mem h3 (fun _ hu => by cases hu) hb
        | dead => trivial
  · rcases hents k e he with ⟨b, h1, h2⟩ | ⟨e0, h1, h2, h3, h4, h5⟩
    · rcases hnewg k e b h1 h2 ho g hg with h6 | ⟨e0, k1, k2, k3⟩
      · have := h.chg.size; exact .inl (by omega)
      · exact h.own k e0 g k1 k2 k3
    · rw [h3] at hg
      exact h.own k e0 g h1 (by rw [← h2]; exact ho) hg
  · rcases hents k e he with ⟨b, h1, h2⟩ | ⟨e0, h1, h2, h3, h4, h5⟩
    · rcases hents k' e' he' with ⟨b', h1', h2'⟩ | ⟨e0', h1', h2', h3', h4', h5'⟩
      · rw [h1] at h1'; cases h1'; exact hne rfl
      · rw [h3'] at hg'
        rcases hnewg k e b h1 h2 ho g hg with h6 | ⟨e1, k1, k2, k3⟩
        · have := (h.ents k' e0' h1').lt (by rw [← h2']; exact ho') g hg'
          omega
        · exact h.apart k k' e1 e0' k1 h1' k2 (by rw [← h2']; exact ho') hne g k3 hg'
    · rw [h3] at hg
      rcases hents k' e' he' with ⟨b', h1', h2'⟩ | ⟨e0', h1', h2', h3', h4', h5'⟩
      · rcases hnewg k' e' b' h1' h2' ho' g hg' with h6 | ⟨e1, k1, k2, k3⟩
        · have := (h.ents k e0 h1).lt (by rw [← h2]; exact ho) g hg
          omega
        · exact h.apart k k' e0 e1 h1 k1 (by rw [← h2]; exact ho) k2 hne g hg k3
      · rw [h3'] at hg'
        exact h.apart k k' e0 e0' h1 h1' (by rw [← h2]; exact ho) (by rw [← h2']; exact ho') hne g hg hg'
  · rcases hents k e he with ⟨b, h1, h2⟩ | ⟨e0, h1, h2, h3, h4, h5⟩
    · rcases hnewg k e b h1 h2 ho g hg with h6 | ⟨e1, k1, k2, k3⟩
      · exact h6.2 p u hp
      · rcases hx.fresh p u hp with h7 | h7
        · exact h.sep k e1 g p u k1 k2 k3 h7
        · have := (h.ents k e1 k1).lt k2 g k3
          omega
    · rw [h3] at hg
      rcases hx.fresh p u hp with h7 | h7
      · exact h.sep k e0 g p u h1 (by rw [← h2]; exact ho) hg h7
      · have := (h.ents k e0 h1).lt (by rw [← h2]; exact ho) g hg
        omega

/-- What an operation does where its view is V. -/
structure FStep (X : Cx) (V : St) (o : Oper) (r : Option Nat) (x : Fx) : Prop where
  fit : r = none → x.e = none
  mv : ∀ e q, x.e = some (e, true) → r = some q → kp q = false ∨ o.dst = some q
  out : ∃ lo : Bool, (lo = true → x.e ≠ none) ∧ (lo = true → ∃ q e0, r = some q ∧ V.ent q = some e0 ∧ e0.owned = true) ∧
    ∀ R ρ M a w, Sim X R ρ M V a w → ∀ (K : Act → World → Prop) (Q : Exit → Act → World → Prop), (∀ v ρ' M' w', FExt X.dr ρ M w ρ' M' w' o.dst r x lo v → K (a.put o.dst v) w') → o.wp X.P a w K Q

theorem FExt.le {dr : Bool} {ρ ρ' : Env} {M M' : Mem} {w w' : World} {d r : Option Nat} {x : Fx} {lo : Bool} {v : Value} {c : AV} (h : FExt dr ρ M w ρ' M' w' d r x lo v) (hc : AVle x.c c) : FExt dr ρ M w ρ' M' w' d r ⟨c, x.e⟩ lo v :=
  ⟨h.env, h.keep, h.mem, h.fresh, h.pubN, h.os, h.tape, h.output, h.size, h.block, hc _ _ _ h.den, h.ent, h.drn⟩
theorem FStep.le {X : Cx} {V : St} {o : Oper} {r : Option Nat} {x : Fx} {c : AV} (h : FStep X V o r x) (hc : AVle x.c c) : FStep X V o r ⟨c, x.e⟩ := by
  obtain ⟨h1, hm, lo, h2, h3, h4⟩ := h
  exact ⟨h1, hm, lo, h2, h3, fun R ρ M a w hs K Q hk => h4 R ρ M a w hs K Q fun v ρ' M' w' hx => hk v ρ' M' w' (hx.le hc)⟩
/-- A stronger view. -/
theorem FStep.wk {X : Cx} {V V' : St} {o : Oper} {r : Option Nat} {x : Fx} (h : FStep X V o r x) (hw : Wk V'.sf V.sf) : FStep X V' o r x := by
  obtain ⟨h1, hm, lo, h2, h3, h4⟩ := h
  refine ⟨h1, hm, lo, h2, fun hl => ?_, fun R ρ M a w hs K Q hk => h4 R ρ M a w (hs.wk hw) K Q hk⟩
  obtain ⟨q, e0, k1, k2, k3⟩ := h3 hl
  rcases hw.h q e0 k2 with rfl | ⟨e1, k4, k5⟩
  · cases k3
  · exact ⟨q, e1, k1, k4, k5.owned k3⟩

/-- The name that a new block gets. -/
def neR (d : Option Nat) (ne : Option Ent) : Option Nat := match ne with
  | some _ => d
  | none => none
/-- Quiet operations so. -/
theorem FStep.quiet {X : Cx} {V : St} {o : Oper} {c : AV} {ne : Option Ent} (hd : ne = none ∨ o.dst ≠ none) (h : Astep X V o c ne) : FStep X V o (neR o.dst ne) ⟨c, ne.map fun e => (e, true)⟩ := by
  refine ⟨fun hr => ?_, fun e q hx hr => ?_, false, fun h => (by cases h), fun h => (by cases h), fun R ρ M a w hs K Q hk => h R ρ M a w hs K Q fun v ρ' M' w' hx => hk v ρ' M' w' ?_⟩
  · cases ne with
    | none => rfl
    | some e =>
      rcases hd with hd | hd
      · cases hd
      · exact absurd hr hd
  · cases ne with
    | none => cases hx
    | some e' => exact .inr hr
  · refine ⟨fun k hk => hx.env k fun e he hdk => ?_, fun hn => ?_, hx.mem, hx.fresh, fun p u hp => .inr (hx.pub p u hp), hx.bel.os, hx.bel.tape, hx.bel.output, hx.bel.size, fun k hk _ => hx.bel.block k hk, hx.den, fun q e b hr he => ?_, hx.drn⟩
    · subst he
      exact hk hdk
    · cases ne with
      | none => funext r; exact hx.env r fun e he => by cases he
      | some e => exact absurd rfl (hn e)
    · cases ne with
      | none => cases he
      | some e' =>
        cases he
        obtain ⟨t, ht, h1, h2⟩ := hx.new e rfl
        have hq : o.dst = some q := hr
        rw [hq] at ht; cases ht
        exact ⟨h1, fun _ g hg => .inl (h2 g hg)⟩

/-- Stores so. -/
def stX (X : Cx) (st : St) (t : TypeId) (p x : Operand) (K : Nat → Ent → Prop) : Prop := match lk t X.T with
  | none => False
  | some ti => match (st.ev X x).cells with
    | none => False
    | some vs => match Nat.beq vs.length ti.size with
      | false => False
      | true => match onesA vs with
        | false => False
        | true => match st.ev X p with
          | .ptr r off => match st.ent r with
            | some (.blk E cs) => match Nat.ble (off + vs.length) cs.length with
              | true => K r (.blk E (cs.take off ++ vs ++ cs.drop (off + vs.length)))
              | false => False
            | _ => False
          | .rptr r s k j => match st.ent r with
            | some (.row E s' n f) => match Nat.beq s s' with
              | false => False
              | true => match mapD vs with
                | none => False
                | some ds => match Nat.ble (j + vs.length) s with
                  | true => CndK (k < n) (K r (.row E s n (setF f k j ds)))
                  | false => False
            | _ => False
          | _ => False
theorem FExt.store {dr : Bool} {ρ : Env} {M : Mem} {w : World} {d : Option Nat} {r g : Nat} {cs : Array Value} {e : Ent} (hg : (ρ r).1 = some g) (hok : EntOk ρ M (w.setRow g cs) r e) : FExt dr ρ M w ρ M (w.setRow g cs) d (some r) ⟨.junk, some (e, false)⟩ true undef :=
  ⟨fun _ _ => rfl, fun _ => rfl, Mem.le_refl _, fun _ _ h => .inl h, fun _ _ h => .inl h, rfl, rfl, rfl, by rw [setRow_size]; exact Nat.le_refl _, fun k hk hn => setRow_other w g cs k fun e => hn rfl r rfl (by rw [hg, e]), .junk _, fun q e' b hq he => by
    cases hq
    cases he
    exact ⟨hok, fun _ g' hg' => .inr ⟨rfl, hg'⟩⟩, fun _ => Nat.le_refl _⟩
/-- Appends so. -/
def apX (X : Cx) (st : St) (d : Option Nat) (t : TypeId) (x y : Operand) (K : Nat → AV → Ent → Prop) : Prop := match d with
  | none => False
  | some dt => match lk t X.T with
    | some ⟨.slice E es eb ez, _, _⟩ => match Nat.beq ez.cells.size es with
      | false => False
      | true => match Nat.ble 1 es with
        | false => False
        | true => match st.ev X x with
          | .own r s 0 k => match Nat.beq es s with
            | false => False
            | true => match st.ent r with
              | some (.row E' s' N f) => match Nat.beq E E' with
                | false => False
                | true => match Nat.beq es s' with
                  | false => False
                  | true => match kp r with
                    | true => False
                    | false => srcK X st es y fun m g => CndK (k = N ∧ (N + m) * eb ≤ 140737488355328 ∧ N + m ≤ 4611686018427387904) (K r (.own r s 0 (N + m)) (.row E s (N + m) (catF N f g)))
              | _ => False
          | .dat (.val (.slice none 0 0)) => srcK X st es y fun m g => CndK (m * eb ≤ 140737488355328 ∧ m ≤ 4611686018427387904) (K dt (.own dt es 0 m) (.row E es m g))
          | _ => False
    | _ => False
theorem FExt.grow {dr : Bool} {ρ : Env} {M : Mem} {w w' : World} {d : Option Nat} {r : Nat} {lo : Bool} {ob b' : Option Nat} {cap' E s n : Nat} {f : Nat → Nat → D} {ys : List Value} (hp : PubOk M w) (hob : ∀ g, ob = some g → lo = true ∧ (ρ r).1 = some g) (hgr : w.grownBy w' ob) (hb : b' = ob ∨ b' = some w.heap.size)
    (how : w'.ownsRow 0 E s (.slice (addrOf b') n cap') n ys) (hys : ∀ i, i < n → ∀ j, j < s → ∃ u, ys[i * s + j]? = some u ∧ DenD M (f i j) u ∧ u.oneCell' = true) (hdr : w.drawn ≤ w'.drawn) :
    FExt dr ρ M w (upd ρ r (b', cap')) M w' d (some r) ⟨.own r s 0 n, some (.row E s n f, true)⟩ lo (.slice (addrOf b') n cap') := by
  refine ⟨fun k hk => upd_ne ρ (fun e => hk (by rw [e])) _, fun h => absurd rfl (h _), Mem.le_refl _, fun _ _ h => .inl h, fun _ _ h => .inl h, hgr.os, hgr.tape, hgr.output, hgr.size, fun k hk hn => hgr.block k hk fun e => ?_, ?_, fun q e b hq he => ?_, fun _ => hdr⟩
  · obtain ⟨h1, h2⟩ := hob k e.symm
    exact hn h1 r rfl h2
  · have := DenA.own (ρ := upd ρ r (b', cap')) (M := M) r s 0 n
    rw [upd_same, partOf_zero, Nat.sub_zero] at this
    exact this
  · cases hq
    cases he
    refine ⟨⟨ys, by rw [upd_same]; exact how, hys⟩, fun _ g hg => ?_⟩
    rw [upd_same] at hg
    rcases hb with hb | hb
    · obtain ⟨h1, h2⟩ := hob g (by rw [← hb]; exact hg)
      exact .inr ⟨h1, h2⟩
    · rw [hb] at hg
      cases hg
      exact .inl ⟨Nat.le_refl _, fun p u hpu => hp.off hpu⟩

section
variable {X : Cx} {st : St} {o : Oper}
theorem srcX {s : Nat} {y : Operand} {K : Nat → (Nat → Nat → D) → Prop} (hs : srcK X st s y K) : ∃ m g, K m g ∧ ∀ R ρ M a w, Sim X R ρ M st a w → Src M w s (a.eval y) m g := by
  have key : ∃ m g, K m g ∧ srcK X st s y fun m' g' => m' = m ∧ g' = g := by
    unfold srcK at hs ⊢
    split at hs
    · split at hs
      · rename_i hb; exact ⟨_, _, hs, by simp only [hb]; first | trivial | exact ⟨rfl, rfl⟩ | exact ⟨trivial, trivial⟩⟩
      · exact hs.elim
    · split at hs
      · rename_i hb
        split at hs
        · rename_i hr; exact ⟨_, _, hs.nxt, by simp only [hb, hr]; exact ⟨hs.cnd, (by first | trivial | exact ⟨rfl, rfl⟩ | exact ⟨trivial, trivial⟩)⟩⟩
        · exact hs.elim
      · exact hs.elim
    · exact ⟨_, _, hs, rfl, rfl⟩
    · exact hs.elim
  obtain ⟨m, g, h1, h2⟩ := key
  refine ⟨m, g, h1, fun R ρ M a w h => ?_⟩
  obtain ⟨m', g', ⟨rfl, rfl⟩, h3⟩ := src_den h h2
  exact h3
theorem s_storeX (hX : X.ok) {t : TypeId} {p x : Operand} (ho : o.op = .store t p x) (hd : o.dst = none) {K : Nat → Ent → Prop} (hk : stX X st t p x K) : ∃ r e, K r e ∧ FStep X st o (some r) ⟨.junk, some (e, false)⟩ := by
  unfold stX at hk
  split at hk
  · exact hk.elim
  rename_i ti hti
  obtain ⟨⟨d, hdd, _, _⟩, ⟨inf, hinf, hsz, _⟩, _⟩ := hX t ti hti
  split at hk
  · exact hk.elim
  rename_i vs hvs
  split at hk
  · exact hk.elim
  rename_i hlen
  have hlen := Nat.eq_of_beq_eq_true hlen
  split at hk
  · exact hk.elim
  rename_i hone
  have hrun : ∀ {R : Run} {ρ : Env} {M : Mem} {a : Act} {w : World} (h : Sim X R ρ M st a w) {g off : Nat} {cur : Array Value} {E : TypeId}, a.eval p = .pointer (some ⟨g, off, none⟩) → w.heap[g]? = some (.cells cur E (0, 0)) → off + vs.length ≤ cur.size →
      (execOp a.eval o).run X.P w = .ok .skip (w.setRow g (cur.toList.take off ++ (a.eval x).cells.toList ++ cur.toList.drop (off + vs.length)).toArray) := by
    intro R ρ M a w h g off cur E hp hg hoff
    obtain ⟨h1, h2⟩ := AV.cells_den (h.ev x) hvs
    have hst := run_storeCells_at X.P g off E (a.eval x).cells.toList 0 cur w hg (by simp; omega) (fun v hv => by
      obtain ⟨i, hi⟩ := List.getElem?_of_mem hv
      have hlt : i < vs.length := by
        have := (List.getElem?_eq_some_iff.1 hi).1
        simp at this; omega
      exact AV.one_den (onesA_at hone i _ (List.getElem?_eq_getElem hlt)) (h2 i _ v (List.getElem?_eq_getElem hlt) (by simpa using hi)))
    have hsz2 : (a.eval x).cells.size = inf.size := by omega
    unfold execOp
    simp only [ho, Instr.storeAt, Instr.sureAddr, hp, storeVar, Sem.run_bind, Sem.run_pure, Result.andThen_ok, run_sizeOf hinf, hsz2, ne_eq, not_true_eq_false, if_false, hst]
    simp [h1]
  split at hk
  · rename_i r off hp
    split at hk
    · rename_i E cs he
      split at hk
      · rename_i hle
        have hle := Nat.le_of_ble_eq_true hle
        refine ⟨r, _, hk, fun e => (by cases e), fun e q h => (by cases h), true, fun _ => (by intro e; cases e), fun _ => ⟨r, _, rfl, he, rfl⟩, fun R ρ M a w h K' Q hK' => ?_⟩
        obtain ⟨g, hg, hv⟩ := ptr_of (hp ▸ h.ev p)
        obtain ⟨g', cur, hg', hh, hl, hc⟩ := h.ents r _ he
        rw [hg] at hg'; cases hg'
        obtain ⟨h1, h2⟩ := AV.cells_den (h.ev x) hvs
        have hr := hrun h hv hh (by omega)
        have hl2 : off + (a.eval x).cells.toList.length ≤ cur.toList.length := by simp; omega
        have hok : EntOk ρ M (w.setRow g (cur.toList.take off ++ (a.eval x).cells.toList ++ cur.toList.drop (off + vs.length)).toArray) r (.blk E (cs.take off ++ vs ++ cs.drop (off + vs.length))) :=
          ⟨g, _, hg, setRow_heap w g cur _ E (0, 0) hh, by rw [seg_len hle]; simp; omega, fun i c v hi hv2 => by
            rw [seg_at hle] at hi
            have hv3 : (cur.toList.take off ++ (a.eval x).cells.toList ++ cur.toList.drop (off + (a.eval x).cells.toList.length))[i]? = some v := by
              have e : (a.eval x).cells.toList.length = vs.length := by simp; omega
              rw [e]; simpa using hv2
            rw [seg_at hl2] at hv3
            have e : (a.eval x).cells.toList.length = vs.length := by simp; omega
            rw [e] at hv3
            split at hi
            · rename_i hin
              rw [if_pos hin] at hv3
              exact h2 _ c v hi (by simpa using hv3)
            · rename_i hin
              rw [if_neg hin] at hv3
              exact hc _ c v hi (by simpa using hv3)⟩
        unfold Oper.wp
        rw [hr]
        exact hK' undef ρ M _ (FExt.store hg hok)
      · exact hk.elim
    · exact hk.elim
  · rename_i r s k j hp
    split at hk
    · rename_i E s' N f he
      split at hk
      · exact hk.elim
      rename_i hs
      obtain rfl := Nat.eq_of_beq_eq_true hs
      split at hk
      · exact hk.elim
      rename_i ds hds
      split at hk
      · rename_i hle
        have hle := Nat.le_of_ble_eq_true hle
        obtain ⟨hkn, hk⟩ := hk
        refine ⟨r, _, hk, fun e => (by cases e), fun e q h => (by cases h), true, fun _ => (by intro e; cases e), fun _ => ⟨r, _, rfl, he, rfl⟩, fun R ρ M a w h K' Q hK' => ?_⟩
        obtain ⟨g, hg, hv⟩ := rptr_of (hp ▸ h.ev p)
        obtain ⟨xs, ⟨hxl, how⟩, hf⟩ := h.ents r _ he
        obtain ⟨h1, h2⟩ := AV.cells_den (h.ev x) hvs
        obtain ⟨hd1, hd2⟩ := mapD_at hds
        rcases how with ⟨hn1, hn2⟩ | ⟨g', cap, cur, hsl, _, hh, hnc, hcm, hcs, htake⟩
        · rw [hg] at hn1; simp [addrOf] at hn1
        · rw [hg] at hsl
          simp [addrOf] at hsl
          obtain ⟨rfl, hcap⟩ := hsl
          have hin : k * s + j + vs.length ≤ N * s := by
            have : (k + 1) * s ≤ N * s := Nat.mul_le_mul_right s hkn
            rw [Nat.add_mul, Nat.one_mul] at this
            omega
          have hNc : N * s ≤ cap * s := Nat.mul_le_mul_right s hnc
          have hr := hrun h hv hh (by omega)
          have e : (a.eval x).cells.toList.length = vs.length := by simp; omega
          have hl2 : (k * s + j) + (a.eval x).cells.toList.length ≤ cur.toList.length := by simp; omega
          have hok : EntOk ρ M (w.setRow g (cur.toList.take (k * s + j) ++ (a.eval x).cells.toList ++ cur.toList.drop (k * s + j + vs.length)).toArray) r (.row E s N (setF f k j ds)) → o.wp X.P a w K' Q := fun hok => by
            unfold Oper.wp
            rw [hr]
            exact hK' undef ρ M _ (FExt.store hg hok)
          refine hok ⟨_, ⟨?_, .inr ⟨g, cap, _, by rw [hg, hcap]; rfl, Nat.zero_le _, setRow_heap w g cur _ E (0, 0) hh, hnc, hcm, ?_, rfl⟩⟩, ?_⟩
          · simp; omega
          · have := seg_len hl2
            rw [e] at this
            simp at this ⊢
            omega
          · intro i hi j' hj'
            have hij : i * s + j' < N * s := by
              have : (i + 1) * s ≤ N * s := Nat.mul_le_mul_right s hi
              rw [Nat.add_mul, Nat.one_mul] at this
              omega
            have hget : ((cur.toList.take (k * s + j) ++ (a.eval x).cells.toList ++ cur.toList.drop (k * s + j + vs.length)).toArray.toList.take (N * s))[i * s + j']? = if k * s + j ≤ i * s + j' ∧ i * s + j' < k * s + j + vs.length then (a.eval x).cells.toList[i * s + j' - (k * s + j)]? else cur.toList[i * s + j']? := by
              rw [List.getElem?_take, if_pos hij]
              have := seg_at (i := i * s + j') hl2
              rw [e] at this
              exact this
            have hwhere : (k * s + j ≤ i * s + j' ∧ i * s + j' < k * s + j + vs.length) ↔ (i = k ∧ j ≤ j' ∧ j' < j + vs.length) := by
              constructor
              · intro ⟨q1, q2⟩
                have : i = k := by
                  rcases Nat.lt_trichotomy i k with hlt | heq | hgt
                  · have : (i + 1) * s ≤ k * s := Nat.mul_le_mul_right s hlt
                    rw [Nat.add_mul, Nat.one_mul] at this
                    omega
                  · exact heq
                  · have : (k + 1) * s ≤ i * s := Nat.mul_le_mul_right s hgt
                    rw [Nat.add_mul, Nat.one_mul] at this
                    omega
                subst this
                exact ⟨rfl, by omega, by omega⟩
              · rintro ⟨rfl, q1, q2⟩
                exact ⟨by omega, by omega⟩
            rw [hget]
            rw [setF_eq]
            by_cases hc : i = k ∧ j ≤ j' ∧ j' < j + vs.length
            · rw [if_pos (hwhere.2 hc), if_pos (by rw [hd1]; exact hc)]
              obtain ⟨rfl, q1, q2⟩ := hc
              have hlt : j' - j < vs.length := by omega
              have e3 : i * s + j' - (i * s + j) = j' - j := by omega
              rw [e3]
              obtain ⟨d', e1, e2⟩ := hd2 _ _ (List.getElem?_eq_getElem hlt)
              have hlt2 : j' - j < (a.eval x).cells.size := by omega
              have hval : (a.eval x).cells[j' - j]? = some (a.eval x).cells[j' - j] := Array.getElem?_eq_getElem hlt2
              obtain ⟨e4, e5⟩ := AV.toD_den e2 (h2 _ _ _ (List.getElem?_eq_getElem hlt) hval)
              refine ⟨_, by simpa using hval, ?_, e5⟩
              rw [List.getD_eq_getElem?_getD, e1]
              exact e4
            · rw [if_neg (fun hq => hc (hwhere.1 hq)), if_neg (by rw [hd1]; exact hc)]
              obtain ⟨u, hu1, hu2, hu3⟩ := hf i hi j' hj'
              rw [← htake, List.getElem?_take, if_pos hij] at hu1
              exact ⟨u, hu1, hu2, hu3⟩
      · exact hk.elim
    · exact hk.elim
  · exact hk.elim


theorem s_appendX (hX : X.ok) {t : TypeId} {x y : Operand} (ho : o.op = .call { callee := .builtin .append, args := #[x, y], argTypes := #[t, t] }) {K : Nat → AV → Ent → Prop} (hk : apX X st o.dst t x y K) : ∃ r c e, K r c e ∧ FStep X st o (some r) ⟨c, some (e, true)⟩ := by
  unfold apX at hk
  split at hk
  · exact hk.elim
  rename_i dt hd
  split at hk
  · rename_i E es eb ez sz z hti
    obtain ⟨_, _, hu, ie, hie, hsz, hby, hz⟩ := hX t _ hti
    split at hk
    · exact hk.elim
    rename_i hzs
    have hzs := Nat.eq_of_beq_eq_true hzs
    split at hk
    · exact hk.elim
    rename_i hes
    have hes := Nat.le_of_ble_eq_true hes
    split at hk
    · rename_i r s k hx
      split at hk
      · exact hk.elim
      rename_i hss
      obtain rfl := Nat.eq_of_beq_eq_true hss
      split at hk
      · rename_i E' s' N f he
        split at hk
        · exact hk.elim
        rename_i hE
        obtain rfl := Nat.eq_of_beq_eq_true hE
        split at hk
        · exact hk.elim
        rename_i hs'
        obtain rfl := Nat.eq_of_beq_eq_true hs'
        split at hk
        · exact hk.elim
        rename_i hkp
        obtain ⟨m, g, ⟨⟨rfl, hb1, hb2⟩, hK⟩, hsrc'⟩ := srcX hk
        refine ⟨r, _, _, hK, fun e => (by cases e), fun e q _ hq => by cases hq; exact .inl hkp, true, fun _ => (by intro e; cases e), fun _ => ⟨r, _, rfl, he, rfl⟩, fun R ρ M a w h K' Q hK' => ?_⟩
        have hsrc := hsrc' R ρ M a w h
        have hv := own_of (hx ▸ h.ev x)
        rw [partOf_zero, Nat.sub_zero] at hv
        obtain ⟨xs, hown, hf⟩ := h.ents r _ he
        obtain ⟨b', cap', w', ys, hrun, hgr, hbb, how, hys⟩ := run_append (ty := o.type) hu hie hsz hby hz hzs hes hown hf hsrc hb1 hb2
        have hfx := FExt.grow (dr := X.dr) (d := o.dst) (r := r) (lo := true) (ob := (ρ r).1) (M := M) (ρ := ρ) (s := es) (n := k + m) (E := E) (f := catF k f g) h.pub (fun g hg => ⟨rfl, hg⟩) hgr hbb (how) hys (run_drawn hrun)
        refine wp_val (v := .slice (addrOf b') (k + m) cap') (w' := w') ?_ (hK' _ _ _ _ hfx)
        unfold execOp
        simp only [ho, resolve, invoke, builtin, Sem.run_bind, Sem.run_pure, Result.andThen_ok, List.map_toArray, List.map_cons, List.map_nil, hv, hrun]
      · exact hk.elim
    · rename_i hx
      obtain ⟨m, g, ⟨⟨hb1, hb2⟩, hK⟩, hsrc'⟩ := srcX hk
      refine ⟨dt, _, _, hK, fun e => (by cases e), fun e q _ hq => by cases hq; exact .inr hd, false, fun h => (by cases h), fun h => (by cases h), fun R ρ M a w h K' Q hK' => ?_⟩
      have hsrc := hsrc' R ρ M a w h
      have hv := val_of (hx ▸ h.ev x)
      obtain ⟨b', cap', w', ys, hrun, hgr, hbb, how, hys⟩ := run_append (ty := o.type) (b := none) (cap := 0) (f := fun _ _ => .val undef) hu hie hsz hby hz hzs hes (World.ownsRow_nil w 0 E es) (fun i hi => absurd hi (by omega)) hsrc (by rw [Nat.zero_add]; exact hb1) (by omega)
      rw [Nat.zero_add] at how hys hrun
      have hfx := FExt.grow (dr := X.dr) (d := o.dst) (r := dt) (lo := false) (ob := none) (M := M) (ρ := ρ) (s := es) (n := m) (E := E) (f := g) h.pub (fun g hg => by cases hg) hgr hbb (how) (fun i hi j hj => by
        obtain ⟨u, e1, e2, e3⟩ := hys i hi j hj
        exact ⟨u, e1, by simpa [catF] using e2, e3⟩) (run_drawn hrun)
      refine wp_val (v := .slice (addrOf b') m cap') (w' := w') ?_ (hK' _ _ _ _ hfx)
      have hrun' : (Builtin.append_ #[t, t] o.type #[.slice none 0 0, a.eval y]).run X.P w = .ok (.slice (addrOf b') m cap') w' := hrun
      unfold execOp
      simp only [ho, resolve, invoke, builtin, Sem.run_bind, Sem.run_pure, Result.andThen_ok, List.map_toArray, List.map_cons, List.map_nil, hv, hrun']
    · exact hk.elim
  · exact hk.elim


end
end Go.Proofs.YtekdobbhkklapaaGreat
