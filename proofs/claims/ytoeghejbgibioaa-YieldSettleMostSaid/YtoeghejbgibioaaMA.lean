/- The walk beside rows that lie hidden: a matrix whose rows are own blocks. -/
import Derived.Test.YtoeghejbgibioaaVt
namespace Go.Proofs.Ytoeghejbgibioaa
open Go Go.RowKit
set_option linter.unusedVariables false
set_option linter.unusedSimpArgs false

structure Gh where
  m : Nat
  n : Nat
  G : Env
  F : Nat → Nat → Int
structure Top where
  n : Nat
  n5 : n ≤ 5000
  w0 : World
  M0 : Mem
def rowI (f : Nat → Int) : Nat → Nat → D := fun b _ => .val (.int .i64 (f b))
structure Tops (X : Cx) (T : Top) (R : Run) : Prop where
  n : R.n = T.n
  chg : Chg [] T.w0 R.w0
  m0 : Mem.le T.M0 R.M0
  fresh : ∀ p v, R.M0 p = some v → T.M0 p = some v ∨ T.w0.heap.size ≤ p.block
  bs : ∀ g, g ∈ R.bs → T.w0.heap.size ≤ g
  drn : X.dr = true → T.w0.drawn ≤ R.w0.drawn
structure Hid (E : TypeId) (T : Top) (γ : Gh) (R : Run) : Prop where
  ent : ∀ i, i < γ.m → EntOk γ.G R.M0 R.w0 i (.row E 1 γ.n (rowI (γ.F i)))
  old : ∀ i g, i < γ.m → (γ.G i).1 = some g → T.w0.heap.size ≤ g
  off : ∀ i g, i < γ.m → (γ.G i).1 = some g → g ∉ R.bs
  inj : ∀ i j g, i < γ.m → j < γ.m → i ≠ j → (γ.G i).1 = some g → (γ.G j).1 ≠ some g
  sep : ∀ i g p v, i < γ.m → (γ.G i).1 = some g → R.M0 p = some v → p.block ≠ g
theorem Hid.lt {E : TypeId} {T : Top} {γ : Gh} {R : Run} (h : Hid E T γ R) {i g : Nat} (hi : i < γ.m) (hg : (γ.G i).1 = some g) : g < R.w0.heap.size := (h.ent i hi).lt rfl g hg
def HS (X : Cx) (E : TypeId) (T : Top) (γ : Gh) (st : St) (a : Act) (w : World) : Prop := ∃ R ρ M, Tops X T R ∧ Hid E T γ R ∧ Sim X R ρ M st a w

def bsOf (st : St) (ρ : Env) : List Nat := st.hp.filterMap fun q => match st.ent q.1 with
  | some e => match e.owned with
    | true => (ρ q.1).1
    | false => none
  | none => none
theorem mem_bsOf {st : St} {ρ : Env} {g : Nat} : g ∈ bsOf st ρ ↔ ∃ r e, st.ent r = some e ∧ e.owned = true ∧ (ρ r).1 = some g := by
  unfold bsOf
  rw [List.mem_filterMap]
  constructor
  · rintro ⟨⟨r, e0⟩, _, h⟩
    simp only at h
    split at h
    · rename_i e he
      split at h
      · rename_i ho; exact ⟨r, e, he, ho, h⟩
      · cases h
    · cases h
  · rintro ⟨r, e, h1, h2, h3⟩
    exact ⟨(r, e), lk_mem h1, by simp only [h1, h2, h3]⟩

def reR (R : Run) (st : St) (ρ : Env) (M : Mem) (w : World) : Run := ⟨R.n, R.n5, w, M, bsOf st ρ, ρ, fun _ g => g ∈ bsOf st ρ, fun _ _ h => h⟩
theorem Sim.re {X : Cx} {R : Run} {ρ : Env} {M : Mem} {st : St} {a : Act} {w : World} (h : Sim X R ρ M st a w) (hlo : X.lo = 0) : Sim X (reR R st ρ M w) ρ M st a w :=
  ⟨h.size, h.defers, Chg.refl _ _, Mem.le_refl _, Cx.glob_mono h.m0 h.g0, fun p v hp => .inl hp, h.pub, h.slots, h.ents, fun r e g he ho hg => .inr ⟨by rw [hlo]; exact Nat.zero_le _, mem_bsOf.2 ⟨r, e, he, ho, hg⟩⟩, h.apart, h.sep, fun _ _ => rfl, fun _ => Nat.le_refl _, fun q b hq => by
    obtain ⟨h1, h2⟩ := h.kn q b hq
    exact ⟨(h.fix q h2).trans h1, h2⟩⟩
theorem Sim.blkOk {X : Cx} {R : Run} {ρ : Env} {M : Mem} {st : St} {a : Act} {w : World} (h : Sim X R ρ M st a w) {g : Nat} (hg : g ∈ bsOf st ρ) : R.w0.heap.size ≤ g ∨ g ∈ R.bs := by
  obtain ⟨r, e, h1, h2, h3⟩ := mem_bsOf.1 hg
  rcases h.own r e g h1 h2 h3 with q | q
  · exact .inl q
  · exact .inr (R.hsub r g q.2)
theorem Tops.re {X : Cx} {T : Top} {R : Run} {ρ : Env} {M : Mem} {st : St} {a : Act} {w : World} (ht : Tops X T R) {Y : Cx} (h : Sim Y R ρ M st a w) (hd : Y.dr = X.dr) : Tops X T (reR R st ρ M w) :=
  ⟨ht.n, ht.chg.trans h.chg (fun g hg hl => absurd (ht.bs g hg) (Nat.not_le_of_lt hl)), Mem.le_trans ht.m0 h.m0, fun p v hp => by
    rcases h.fresh p v hp with q | q
    · exact ht.fresh p v q
    · exact .inr (Nat.le_trans ht.chg.size q), fun g hg => by
    rcases h.blkOk hg with q | q
    · exact Nat.le_trans ht.chg.size q
    · exact ht.bs g q, fun hx => Nat.le_trans (ht.drn hx) (h.drn (hd.trans hx))⟩
theorem Hid.re {X : Cx} {E : TypeId} {T : Top} {γ : Gh} {R : Run} {ρ : Env} {M : Mem} {st : St} {a : Act} {w : World} (hh : Hid E T γ R) (h : Sim X R ρ M st a w) : Hid E T γ (reR R st ρ M w) :=
  ⟨fun i hi => (hh.ent i hi).keep h.m0 rfl (fun _ _ => rfl) fun g _ hg hl => h.chg.block g hl (hh.off i g hi hg), hh.old, fun i g hi hg hm => by
    rcases h.blkOk hm with q | q
    · exact absurd (hh.lt hi hg) (Nat.not_lt_of_le q)
    · exact hh.off i g hi hg q, hh.inj, fun i g p v hi hg hp => by
    rcases h.fresh p v hp with q | q
    · exact hh.sep i g p v hi hg q
    · have := hh.lt hi hg; omega⟩

def rN : Nat := 900001
def dropH (r : Nat) : List (Nat × Ent) → List (Nat × Ent)
  | [] => []
  | (i, e) :: l => match Nat.beq i r with
    | true => dropH r l
    | false => (i, e) :: dropH r l
theorem lk_dropH (r k : Nat) : ∀ l : List (Nat × Ent), lk k (dropH r l) = if k = r then none else lk k l
  | [] => by simp [dropH, lk]
  | (i, e) :: l => by
    simp only [dropH]
    split
    · rename_i hb
      have hb := Nat.eq_of_beq_eq_true hb
      rw [lk_dropH r k l, lk_cons]
      by_cases h : k = r
      · rw [if_pos h, if_pos h]
      · rw [if_neg h, if_neg h, if_neg (fun q => h (q.symm.trans hb))]
    · rename_i hb
      have hb : i ≠ r := fun q => by rw [q, Nat.beq_refl] at hb; cases hb
      rw [lk_cons, lk_dropH r k l, lk_cons]
      by_cases h : k = r
      · rw [if_pos h, if_pos h, if_neg (fun q => hb (q.trans h))]
      · rw [if_neg h, if_neg h]
def dropS (r : Nat) (st : St) : St := ⟨junkF r st.fr, dropH r st.hp⟩
theorem dropS_le (r : Nat) (st : St) : St.le st (dropS r st) := ⟨fun t => by
    show (⟨junkF r st.fr, dropH r st.hp⟩ : St).get t = _ ∨ _
    rw [get_junk]
    unfold dropS AV.junkR
    split
    · exact .inl rfl
    · right
      show _ = (⟨junkF r st.fr, _⟩ : St).get t
      rw [get_junk]
      unfold AV.junkR
      simp only [*], fun k e he => by
    have : lk k (dropH r st.hp) = some e := he
    rw [lk_dropH] at this
    split at this
    · cases this
    · exact this⟩
theorem dropS_ent {r k : Nat} {st : St} {e : Ent} (h : (dropS r st).ent k = some e) : k ≠ r ∧ st.ent k = some e := by
  have : lk k (dropH r st.hp) = some e := h
  rw [lk_dropH] at this
  split at this
  · cases this
  · rename_i hn; exact ⟨hn, this⟩

def Cx.see (X : Cx) (b : Option Nat × Nat) : Cx := { X with kb := [(rN, b)] }
theorem Sim.show {X : Cx} {E : TypeId} {T : Top} {γ : Gh} {R : Run} {ρ : Env} {M : Mem} {st : St} {a : Act} {w : World} (h : Sim X R ρ M st a w) (hh : Hid E T γ R) (hlo : X.lo = 0) {i : Nat} (hi : i < γ.m) (hcF : cleanF rN st.fr = true) (hcH : cleanH rN st.hp = true) (hcG : AV.uses rN (st.get rN) = false) :
    ∃ R', R'.n = R.n ∧ R'.w0 = w ∧ R'.M0 = M ∧ (∀ g, g ∈ R'.bs ↔ g ∈ bsOf (dropS rN st) ρ ∨ (γ.G i).1 = some g) ∧ R'.ρ0 rN = γ.G i ∧ Sim (X.see (γ.G i)) R' (upd ρ rN (γ.G i)) M ⟨st.fr, (rN, .row E 1 γ.n (rowI (γ.F i))) :: dropH rN st.hp⟩ a w := by
  have hrow : EntOk γ.G M w i (.row E 1 γ.n (rowI (γ.F i))) := (hh.ent i hi).keep h.m0 rfl (fun _ _ => rfl) fun g _ hg hl => h.chg.block g hl (hh.off i g hi hg)
  have hrow' : EntOk (upd ρ rN (γ.G i)) M w rN (.row E 1 γ.n (rowI (γ.F i))) := by
    have e : (upd ρ rN (γ.G i)) rN = γ.G i := upd_same _ _ _
    obtain ⟨xs, h1, h2⟩ := hrow
    exact ⟨xs, by rw [e]; exact h1, h2⟩
  have hn : ∀ {k e}, (⟨st.fr, (rN, .row E 1 γ.n (rowI (γ.F i))) :: dropH rN st.hp⟩ : St).ent k = some e → k ≠ rN → st.ent k = some e := fun {k e} he hk => by
    have : lk k ((rN, Ent.row E 1 γ.n (rowI (γ.F i))) :: dropH rN st.hp) = some e := he
    rw [lk_cons, if_neg (fun q => hk q.symm), lk_dropH, if_neg hk] at this
    exact this
  have he0 : ∀ {e}, (⟨st.fr, (rN, .row E 1 γ.n (rowI (γ.F i))) :: dropH rN st.hp⟩ : St).ent rN = some e → e = .row E 1 γ.n (rowI (γ.F i)) := fun {e} he => by
    have : lk rN ((rN, Ent.row E 1 γ.n (rowI (γ.F i))) :: dropH rN st.hp) = some e := he
    rw [lk_cons, if_pos rfl] at this
    cases this
    rfl
  have hoff : ∀ r e g, r ≠ rN → st.ent r = some e → e.owned = true → (ρ r).1 = some g → (γ.G i).1 ≠ some g := fun r e g hr he ho hg hq => by
    rcases h.blkOk (mem_bsOf.2 ⟨r, e, he, ho, hg⟩) with q | q
    · exact absurd (hh.lt hi hq) (Nat.not_lt_of_le q)
    · exact hh.off i g hi hq q
  have hsep : ∀ g p v, (γ.G i).1 = some g → M p = some v → p.block ≠ g := fun g p v hg hp => by
    rcases h.fresh p v hp with q | q
    · exact hh.sep i g p v hi hg q
    · have := hh.lt hi hg; omega
  have hmem : ∀ g, g ∈ (bsOf (dropS rN st) ρ ++ (γ.G i).1.toList) ↔ g ∈ bsOf (dropS rN st) ρ ∨ (γ.G i).1 = some g := fun g => by
    rw [List.mem_append]
    cases (γ.G i).1 <;> simp [eq_comm]
  have hdr : ∀ {k e}, k ≠ rN → st.ent k = some e → (dropS rN st).ent k = some e := fun {k e} hk he => by
    show lk k (dropH rN st.hp) = some e
    rw [lk_dropH, if_neg hk]
    exact he
  refine ⟨⟨R.n, R.n5, w, M, bsOf (dropS rN st) ρ ++ (γ.G i).1.toList, upd ρ rN (γ.G i), fun _ g => g ∈ bsOf (dropS rN st) ρ ++ (γ.G i).1.toList, fun _ _ h => h⟩, rfl, rfl, rfl, hmem, upd_same ρ rN (γ.G i), ?_⟩
  refine ⟨h.size, h.defers, Chg.refl _ _, Mem.le_refl _, Cx.glob_mono h.m0 h.g0, fun p v hp => .inl hp, h.pub, fun t => ?_, fun r e he => ?_, fun r e g he ho hg => ?_, fun r r' e e' he he' ho ho' hne g hg => ?_, fun r e g p v he ho hg hp => ?_, fun _ _ => rfl, fun _ => Nat.le_refl _, fun q b hq => ?_⟩
  · refine (h.slots t).keep (Mem.le_refl _) fun k hk => upd_ne _ (fun e => ?_) _
    subst e
    have hu : AV.uses rN (st.get t) = false := by
      by_cases ht : t = rN
      · rw [ht]; exact hcG
      · exact get_uses hcF ht
    have hk : AV.uses rN (st.get t) = true := hk
    rw [hu] at hk
    cases hk
  · by_cases hr : r = rN
    · subst hr
      rw [he0 he]
      exact hrow'
    · refine (h.ents r e (hn he hr)).keep (Mem.le_refl _) (upd_ne _ hr _) (fun k hk => upd_ne _ (fun q => ?_) _) fun _ _ _ _ => rfl
      subst q
      rw [cleanH_get hcH hr e (hn he hr)] at hk
      cases hk
  · refine .inr ⟨by show X.lo ≤ r; rw [hlo]; exact Nat.zero_le _, (hmem g).2 ?_⟩
    by_cases hr : r = rN
    · subst hr
      rw [upd_same] at hg
      exact .inr hg
    · rw [upd_ne _ hr] at hg
      exact .inl (mem_bsOf.2 ⟨r, e, hdr hr (hn he hr), ho, hg⟩)
  · by_cases hr : r = rN
    · subst hr
      rw [upd_same] at hg
      rw [upd_ne _ (fun q => hne q.symm)]
      exact fun q => hoff r' e' g (fun q => hne q.symm) (hn he' (fun q => hne q.symm)) ho' q hg
    · rw [upd_ne _ hr] at hg
      by_cases hr' : r' = rN
      · subst hr'
        rw [upd_same]
        exact hoff r e g hr (hn he hr) ho hg
      · rw [upd_ne _ hr']
        exact h.apart r r' e e' (hn he hr) (hn he' hr') ho ho' hne g hg
  · by_cases hr : r = rN
    · subst hr
      rw [upd_same] at hg
      exact hsep g p v hg hp
    · rw [upd_ne _ hr] at hg
      exact h.sep r e g p v (hn he hr) ho hg hp
  · have hq : lk q [(rN, γ.G i)] = some b := hq
    rw [lk_cons] at hq
    split at hq
    · rename_i e
      subst e
      cases hq
      exact ⟨upd_same ρ rN (γ.G i), by rfl⟩
    · cases hq

structure WM (X : Cx) (n : Nat) (E : TypeId) (c : Code) (γ : Gh) (st : St) (Q : Exit → St → Gh → Prop) : Prop where
  out : X.ok → X.lo = 0 → X.kb = [] → ∀ T : Top, T.n = n → ∀ a w, HS X E T γ st a w → c.wp X.P (fun e a' w' => ∃ st' γ', Q e st' γ' ∧ HS X E T γ' st' a' w') a w
section
variable {X : Cx} {n : Nat} {E : TypeId} {γ : Gh} {st : St} {Q : Exit → St → Gh → Prop}
theorem WM.ofW {c : Code} (h : W X n c st fun e st' => Q e st' γ) : WM X n E c γ st Q := ⟨fun hX _ _ T hT a w ⟨R, ρ, M, h1, h2, h3⟩ => wp_mono (h.out hX R (h1.n.trans hT) ρ M a w h3) fun e a' w' ⟨st', ρ', M', hq, hs⟩ => ⟨st', γ, hq, R, ρ', M', h1, h2, hs⟩⟩
theorem WM.mono {c : Code} {Q' : Exit → St → Gh → Prop} (h : WM X n E c γ st Q') (hq : ∀ e st' γ', Q' e st' γ' → Q e st' γ') : WM X n E c γ st Q := ⟨fun hX hl hk T hT a w hs => wp_mono (h.out hX hl hk T hT a w hs) fun e a' w' ⟨st', γ', h1, h2⟩ => ⟨st', γ', hq _ _ _ h1, h2⟩⟩
theorem WM.seq {c d : Code} (h : WM X n E c γ st fun e st' γ' => match e with
    | .normal => WM X n E d γ' st' Q
    | e => Q e st' γ') : WM X n E (.seq c d) γ st Q := ⟨fun hX hl hk T hT a w hs => wp_seq (wp_mono (h.out hX hl hk T hT a w hs) fun e a' w' ⟨st', γ', hq, hs'⟩ => by
  cases e with
  | normal => exact hq.out hX hl hk T hT a' w' hs'
  | _ => exact ⟨st', γ', hq, hs'⟩)⟩
theorem WM.block {i : Nat} {c : Code} (h : WM X n E c γ st fun e st' γ' => match e with
    | .exit j => match Nat.beq j i with
      | true => Q .normal st' γ'
      | false => Q (.exit j) st' γ'
    | e => Q e st' γ') : WM X n E (.block i c) γ st Q := ⟨fun hX hl hk T hT a w hs => wp_block (wp_mono (h.out hX hl hk T hT a w hs) fun e a' w' ⟨st', γ', hq, hs'⟩ => by
  cases e with
  | exit j =>
    show if j = i then _ else _
    by_cases hj : j = i
    · subst hj
      rw [if_pos rfl]
      simp only [Nat.beq_refl] at hq
      exact ⟨st', γ', hq, hs'⟩
    · rw [if_neg hj]
      have : Nat.beq j i = false := by
        cases hb : Nat.beq j i
        · rfl
        · exact absurd (Nat.eq_of_beq_eq_true hb) hj
      simp only [this] at hq
      exact ⟨st', γ', hq, hs'⟩
  | _ => exact ⟨st', γ', hq, hs'⟩)⟩
theorem WM.cond {x : Operand} {c d : Code} (h : cond1 (st.ev X x) (WM X n E c γ st Q) (WM X n E d γ st Q)) : WM X n E (.cond x c d) γ st Q := ⟨fun hX hl hk T hT a w hs => by
  obtain ⟨R, ρ, M, h1, h2, h3⟩ := id hs
  have hx := h3.ev x
  unfold cond1 at h
  split at h
  · rename_i hc
    rw [hc] at hx
    generalize hv : a.eval x = v at hx
    cases hx
    exact wp_cond_true hv (h.out hX hl hk T hT a w hs)
  · rename_i hc
    rw [hc] at hx
    generalize hv : a.eval x = v at hx
    cases hx
    exact wp_cond_false hv (h.out hX hl hk T hT a w hs)
  · rename_i b hc
    rw [hc] at hx
    have hv := val_of hx
    cases b with
    | true => exact wp_cond_true hv ((h.yes rfl).out hX hl hk T hT a w hs)
    | false => exact wp_cond_false hv ((h.no rfl).out hX hl hk T hT a w hs)
  · exact h.elim⟩
theorem HS.le {T : Top} {a : Act} {w : World} (h : HS X E T γ st a w) {st' : St} (hf : leF st st'.fr) (hh : leH st st'.hp) : HS X E T γ st' a w := by
  obtain ⟨R, ρ, M, h1, h2, h3⟩ := h
  exact ⟨R, ρ, M, h1, h2, h3.le hf hh⟩
theorem WM.weak {c : Code} (st' : St) (hf : leF st st'.fr) (hh : leH st st'.hp) (h : WM X n E c γ st' Q) : WM X n E c γ st Q := ⟨fun hX hl hk T hT a w hs => h.out hX hl hk T hT a w (hs.le hf hh)⟩
theorem WM.loop {ι : Type} {c : Code} (S : ι → St) (Γ : ι → Gh) (P : ι → Prop) (μ : ι → Nat) (i0 : ι) (h0 : P i0) (hg : γ = Γ i0) (hf : leF st (S i0).fr) (hh : leH st (S i0).hp)
    (round : ∀ i, P i → WM X n E c (Γ i) (S i) (fun e st' γ' => match e with
      | .normal => ∃ i', P i' ∧ μ i' < μ i ∧ γ' = Γ i' ∧ leF st' (S i').fr ∧ leH st' (S i').hp
      | e => Q e st' γ')) : WM X n E (.loop c) γ st Q := ⟨fun hX hl hk T hT a w hs => by
  subst hg
  refine wp_loop_ix (I := fun i a w => P i ∧ HS X E T (Γ i) (S i) a w) μ i0 ⟨h0, hs.le hf hh⟩ fun i a w ⟨hp, hs⟩ => ?_
  refine wp_mono ((round i hp).out hX hl hk T hT a w hs) fun e a' w' ⟨st', γ', hq, hs'⟩ => ?_
  cases e with
  | normal =>
    obtain ⟨i', hp', hlt, hg', hf', hh'⟩ := hq
    subst hg'
    exact ⟨i', ⟨hp', hs'.le hf' hh'⟩, hlt⟩
  | _ => exact ⟨st', γ', hq, hs'⟩⟩

theorem WM.at (i : Nat) (hi : i < γ.m) {c : Code} (hcF : cleanF rN st.fr = true) (hcH : cleanH rN st.hp = true) (hcG : AV.uses rN (st.get rN) = false)
    (h : W (X.see (γ.G i)) n c ⟨st.fr, (rN, .row E 1 γ.n (rowI (γ.F i))) :: dropH rN st.hp⟩ fun e st1 => ∃ F f, st1.ent rN = some (.row E 1 γ.n f) ∧ (∀ b, b < γ.n → Dle (f b 0) (.val (.int .i64 (F i b)))) ∧ (∀ a, a ≠ i → F a = γ.F a) ∧ Q e (dropS rN st1) ⟨γ.m, γ.n, γ.G, F⟩) : WM X n E c γ st Q := ⟨fun hX hl hk T hT a w ⟨R, ρ, M, h1, h2, h3⟩ => by
  obtain ⟨R', e1, e2, e3, e4, e5, hs⟩ := h3.show h2 hl hi hcF hcH hcG
  refine wp_mono (h.out hX R' (e1.trans (h1.n.trans hT)) _ _ a w hs) fun e a' w' ⟨st1, ρ1, M1, ⟨F, f, q1, q2, q3, q4⟩, hs1⟩ => ⟨_, _, q4, ?_⟩
  have hρ : ρ1 rN = γ.G i := (hs1.fix rN (by rfl)).trans e5
  have hst : Sim X R' ρ1 M1 (dropS rN st1) a' w' := by
    have := hs1.weak (dropS_le rN st1)
    exact ⟨this.size, this.defers, this.chg, this.m0, this.g0, this.fresh, this.pub, this.slots, this.ents, this.own, this.apart, this.sep, this.fix, this.drn, fun q b hq => by rw [hk] at hq; cases hq⟩
  have hmem0 : ∀ g, g ∈ bsOf (dropS rN st) ρ → g ∈ bsOf st ρ := fun g hg => by
    obtain ⟨r, e, he, ho, hr⟩ := mem_bsOf.1 hg
    exact mem_bsOf.2 ⟨r, e, (dropS_ent he).2, ho, hr⟩
  have hoff : ∀ j g, j < γ.m → j ≠ i → (γ.G j).1 = some g → g ∉ R'.bs := fun j g hj hne hg hm => by
    rcases (e4 g).1 hm with q | q
    · rcases h3.blkOk (hmem0 g q) with q | q
      · exact absurd (h2.lt hj hg) (Nat.not_lt_of_le q)
      · exact h2.off j g hj hg q
    · exact h2.inj j i g hj hi hne hg q
  have hlt : ∀ j g, j < γ.m → (γ.G j).1 = some g → g < w.heap.size := fun j g hj hg => Nat.lt_of_lt_of_le (h2.lt hj hg) h3.chg.size
  have ht' : Tops X T R' := by
    refine ⟨e1.trans h1.n, ?_, ?_, fun p v hp => ?_, fun g hg => ?_, fun hx => ?_⟩
    · rw [e2]
      exact h1.chg.trans h3.chg fun g hg hl => absurd (h1.bs g hg) (Nat.not_le_of_lt hl)
    · rw [e3]; exact Mem.le_trans h1.m0 h3.m0
    · rw [e3] at hp
      rcases h3.fresh p v hp with q | q
      · exact h1.fresh p v q
      · exact .inr (Nat.le_trans h1.chg.size q)
    · rcases (e4 g).1 hg with q | q
      · rcases h3.blkOk (hmem0 g q) with q | q
        · exact Nat.le_trans h1.chg.size q
        · exact h1.bs g q
      · exact h2.old i g hi q
    · rw [e2]; exact Nat.le_trans (h1.drn hx) (h3.drn hx)
  refine ⟨reR R' (dropS rN st1) ρ1 M1 w', ρ1, M1, ht'.re hst rfl, ⟨fun j hj => ?_, h2.old, fun j g hj hg hm => ?_, h2.inj, fun j g p v hj hg hp => ?_⟩, hst.re hl⟩
  · show EntOk γ.G M1 w' j (.row E 1 γ.n (rowI (F j)))
    by_cases hne : j = i
    · subst hne
      obtain ⟨xs, x1, x2⟩ := hs1.ents rN _ q1
      refine ⟨xs, by rw [hρ] at x1; exact x1, fun b hb k hk0 => ?_⟩
      obtain ⟨u, u1, u2, u3⟩ := x2 b hb k hk0
      obtain rfl : k = 0 := by omega
      exact ⟨u, u1, q2 b hb _ _ u2, u3⟩
    · rw [q3 j hne]
      refine ((h2.ent j hj).keep h3.m0 rfl (fun _ _ => rfl) fun g _ hg hl0 => h3.chg.block g hl0 (h2.off j g hj hg)).keep (e3 ▸ hs1.m0) rfl (fun _ _ => rfl) fun g _ hg hl0 => ?_
      have := hs1.chg.block g (by rw [e2]; exact hl0) (hoff j g hj hne hg)
      rw [e2] at this
      exact this
  · obtain ⟨r, e, he, ho, hr⟩ := mem_bsOf.1 hm
    obtain ⟨hr1, he1⟩ := dropS_ent he
    by_cases hne : j = i
    · subst hne
      exact hs1.apart r rN e _ he1 q1 ho rfl hr1 g hr (by rw [hρ]; exact hg)
    · rcases hst.blkOk hm with q | q
      · rw [e2] at q
        exact absurd (hlt j g hj hg) (Nat.not_lt_of_le q)
      · exact hoff j g hj hne hg q
  · by_cases hne : j = i
    · subst hne
      exact hs1.sep rN _ g p v q1 rfl (by rw [hρ]; exact hg) hp
    · rcases hs1.fresh p v hp with q | q
      · rw [e3] at q
        rcases h3.fresh p v q with q | q
        · exact h2.sep j g p v hj hg q
        · have := h2.lt hj hg; omega
      · rw [e2] at q
        have := hlt j g hj hg
        omega⟩
theorem ex_app {X : Cx} (hX : X.ok) {R : Run} {ops l2 : List Oper} {Q : Exit → Act → World → Prop} : ∀ (l : List Oper) (st : St) (K : St → Prop), ex X R.n ops l st K → ∀ ρ M a w, Sim X R ρ M st a w →
    (∀ st' ρ' M' a' w', K st' → Sim X R ρ' M' st' a' w' → wpList X.P ops.toArray Q l2 a' w') → wpList X.P ops.toArray Q (l ++ l2) a w
  | [], st, K, h, ρ, M, a, w, hs, hQ => hQ st ρ M a w h hs
  | o :: r, st, K, h, ρ, M, a, w, hs, hQ => by
    obtain ⟨st', hs', hcase⟩ := exG_ok h rfl hs
    refine wpList_step fun K' hK' => ?_
    rcases hcase with ⟨hw, hy⟩ | ⟨hw, hno⟩
    · rw [if_pos hw]
      exact exOp_ok hX hy R rfl ρ M a w hs' K' Q fun st'' ρ' M' a' w' hk hs'' => hK' _ _ (ex_app hX r st'' K hk ρ' M' a' w' hs'' hQ)
    · rw [if_neg (by rw [hw]; simp)]
      obtain ⟨st'', hk, hs''⟩ := hs'.skip hno
      exact hK' _ _ (ex_app hX r st'' K hk ρ M _ w hs'' hQ)
theorem WM.lay {id : Nat} {l1 l2 : List Oper} (t r : Nat) (h : ex X n (l1 ++ l2) l1 st fun st1 => st1.get t = .own r 1 0 γ.n ∧ (∃ f, st1.ent r = some (.row E 1 γ.n f) ∧ ∀ b, b < γ.n → Dle (f b 0) (.val (.int .i64 (γ.F γ.m b)))) ∧
    ∀ b : Option Nat × Nat, ex X n (l1 ++ l2) l2 ⟨(t, .dat (.val (.slice (addrOf b.1) γ.n b.2))) :: junkF r st1.fr, dropH r st1.hp⟩ fun st2 => Q .normal st2 ⟨γ.m + 1, γ.n, upd γ.G γ.m b, γ.F⟩) : WM X n E (.region id (l1 ++ l2).toArray false) γ st Q := ⟨fun hX hl hk T hT a w ⟨R, ρ, M, h1, h2, h3⟩ => by
  obtain rfl : R.n = n := h1.n.trans hT
  refine wp_region_lit (ex_app hX l1 st _ h ρ M a w h3 fun st1 ρ1 M1 a1 w1 ⟨q1, ⟨f, q2, q3⟩, q4⟩ hs1 => ?_)
  have hs2 : Sim X R ρ1 M1 ⟨(t, .dat (.val (.slice (addrOf (ρ1 r).1) γ.n (ρ1 r).2))) :: junkF r st1.fr, dropH r st1.hp⟩ a1 w1 := by
    have hw := hs1.weak (dropS_le r st1)
    refine ⟨hw.size, hw.defers, hw.chg, hw.m0, hw.g0, hw.fresh, hw.pub, fun s => ?_, hw.ents, hw.own, hw.apart, hw.sep, hw.fix, hw.drn, hw.kn⟩
    have hg : ∀ s, (⟨(t, .dat (.val (.slice (addrOf (ρ1 r).1) γ.n (ρ1 r).2))) :: junkF r st1.fr, dropH r st1.hp⟩ : St).get s = if t = s then .dat (.val (.slice (addrOf (ρ1 r).1) γ.n (ρ1 r).2)) else (dropS r st1).get s := fun s => by
      unfold St.get
      simp only [lk_cons]
      by_cases e : t = s
      · simp [e]
      · simp only [if_neg e]; rfl
    rw [hg]
    split
    · rename_i e
      subst e
      have := hs1.slots t
      rw [q1] at this
      have hv := own_of this
      rw [partOf_zero, Nat.sub_zero] at hv
      rw [hv]
      exact .dat (.val _)
    · exact hw.slots s
  have hne : ∀ i g, i < γ.m → (γ.G i).1 = some g → (ρ1 r).1 ≠ some g := fun i g hi hg hr => by
    rcases hs1.blkOk (mem_bsOf.2 ⟨r, _, q2, rfl, hr⟩) with q | q
    · exact absurd (h2.lt hi hg) (Nat.not_lt_of_le q)
    · exact h2.off i g hi hg q
  have hu : ∀ i, i < γ.m → upd γ.G γ.m (ρ1 r) i = γ.G i := fun i hi => upd_ne _ (Nat.ne_of_lt hi) _
  have h2' := h2.re hs2
  have hh : Hid E T ⟨γ.m + 1, γ.n, upd γ.G γ.m (ρ1 r), γ.F⟩ (reR R ⟨(t, .dat (.val (.slice (addrOf (ρ1 r).1) γ.n (ρ1 r).2))) :: junkF r st1.fr, dropH r st1.hp⟩ ρ1 M1 w1) := by
    refine ⟨fun i hi => ?_, fun i g hi hg => ?_, fun i g hi hg hm => ?_, fun i j g hi hj hij hg hg' => ?_, fun i g p v hi hg hp => ?_⟩
    · by_cases e : i < γ.m
      · exact (h2'.ent i e).keep (Mem.le_refl _) (hu i e) (fun k hk => by cases hk) fun _ _ _ _ => rfl
      · obtain rfl : i = γ.m := by have : i < γ.m + 1 := hi; omega
        obtain ⟨xs, x1, x2⟩ := hs1.ents r _ q2
        refine ⟨xs, by show w1.ownsRow 0 E 1 (.slice (addrOf (upd γ.G γ.m (ρ1 r) γ.m).1) γ.n (upd γ.G γ.m (ρ1 r) γ.m).2) γ.n xs; rw [upd_same]; exact x1, fun b hb k hk0 => ?_⟩
        obtain ⟨u, u1, u2, u3⟩ := x2 b hb k hk0
        obtain rfl : k = 0 := by omega
        exact ⟨u, u1, q3 b hb _ _ u2, u3⟩
    · have hg : (upd γ.G γ.m (ρ1 r) i).1 = some g := hg
      by_cases e : i < γ.m
      · rw [show upd γ.G γ.m (ρ1 r) i = γ.G i from hu i e] at hg
        exact h2.old i g e hg
      · obtain rfl : i = γ.m := by have : i < γ.m + 1 := hi; omega
        rw [show upd γ.G γ.m (ρ1 r) γ.m = ρ1 r from upd_same _ _ _] at hg
        rcases hs1.blkOk (mem_bsOf.2 ⟨r, _, q2, rfl, hg⟩) with q | q
        · exact Nat.le_trans h1.chg.size q
        · exact h1.bs g q
    · have hg : (upd γ.G γ.m (ρ1 r) i).1 = some g := hg
      by_cases e : i < γ.m
      · rw [show upd γ.G γ.m (ρ1 r) i = γ.G i from hu i e] at hg
        exact h2'.off i g e hg hm
      · obtain rfl : i = γ.m := by have : i < γ.m + 1 := hi; omega
        rw [show upd γ.G γ.m (ρ1 r) γ.m = ρ1 r from upd_same _ _ _] at hg
        obtain ⟨k, e, he, ho, hr⟩ := mem_bsOf.1 hm
        have he : (dropS r st1).ent k = some e := he
        obtain ⟨hr1, he1⟩ := dropS_ent he
        exact hs1.apart k r e _ he1 q2 ho rfl hr1 g hr hg
    · have hi : i < γ.m + 1 := hi
      have hj : j < γ.m + 1 := hj
      have hg : (upd γ.G γ.m (ρ1 r) i).1 = some g := hg
      have hg' : (upd γ.G γ.m (ρ1 r) j).1 = some g := hg'
      by_cases e : i < γ.m
      · rw [show upd γ.G γ.m (ρ1 r) i = γ.G i from hu i e] at hg
        by_cases e' : j < γ.m
        · rw [show upd γ.G γ.m (ρ1 r) j = γ.G j from hu j e'] at hg'
          exact h2.inj i j g e e' hij hg hg'
        · obtain rfl : j = γ.m := by omega
          rw [show upd γ.G γ.m (ρ1 r) γ.m = ρ1 r from upd_same _ _ _] at hg'
          exact hne i g e hg hg'
      · obtain rfl : i = γ.m := by omega
        rw [show upd γ.G γ.m (ρ1 r) γ.m = ρ1 r from upd_same _ _ _] at hg
        have e' : j < γ.m := by omega
        rw [show upd γ.G γ.m (ρ1 r) j = γ.G j from hu j e'] at hg'
        exact hne j g e' hg' hg
    · have hg : (upd γ.G γ.m (ρ1 r) i).1 = some g := hg
      by_cases e : i < γ.m
      · rw [show upd γ.G γ.m (ρ1 r) i = γ.G i from hu i e] at hg
        exact h2'.sep i g p v e hg hp
      · obtain rfl : i = γ.m := by have : i < γ.m + 1 := hi; omega
        rw [show upd γ.G γ.m (ρ1 r) γ.m = ρ1 r from upd_same _ _ _] at hg
        exact hs1.sep r _ g p v q2 rfl hg hp
  refine ex_ok hX (R := reR R _ ρ1 M1 w1) l2 _ _ (q4 (ρ1 r)) ρ1 M1 a1 w1 (hs2.re hl) fun st3 ρ3 M3 a3 w3 hk3 hs3 => ⟨st3, _, hk3, _, ρ3, M3, h1.re hs2 rfl, hh, hs3⟩⟩
theorem WM.layK (k t r : Nat) {id : Nat} {l : List Oper} (h : ex X n l (l.take k) st fun st1 => st1.get t = .own r 1 0 γ.n ∧ (∃ f, st1.ent r = some (.row E 1 γ.n f) ∧ ∀ b, b < γ.n → Dle (f b 0) (.val (.int .i64 (γ.F γ.m b)))) ∧
    ∀ b : Option Nat × Nat, ex X n l (l.drop k) ⟨(t, .dat (.val (.slice (addrOf b.1) γ.n b.2))) :: junkF r st1.fr, dropH r st1.hp⟩ fun st2 => Q .normal st2 ⟨γ.m + 1, γ.n, upd γ.G γ.m b, γ.F⟩) : WM X n E (.region id l.toArray false) γ st Q := by
  have e := List.take_append_drop k l
  rw [← e]
  exact WM.lay t r (by rw [e]; exact h)
theorem WM.loopK {ι : Type} {c : Code} (live lrefs : List Nat) (inv : ι → List (Nat × AV)) (hinv : ι → List (Nat × Ent)) (Γ : ι → Gh) (P : ι → Prop) (μ : ι → Nat) (i0 : ι) (h0 : P i0) (hg : γ = Γ i0) (hf : leF st (inv i0)) (hh : leH st (hinv i0))
    (round : keepFK st live fun lf => keepHK st lrefs fun lh => ∀ i, P i → WM X n E c (Γ i) ⟨inv i ++ lf, hinv i ++ lh⟩ (fun e st' γ' => match e with
      | .normal => ∃ i', P i' ∧ μ i' < μ i ∧ γ' = Γ i' ∧ leF st' (inv i') ∧ leH st' (hinv i') ∧ leF st' lf ∧ leH st' lh
      | e => Q e st' γ')) : WM X n E (.loop c) γ st Q := by
  rw [keepFK_eq, keepHK_eq] at round
  refine WM.loop (fun i => ⟨inv i ++ keepF st live, hinv i ++ keepH st lrefs⟩) Γ P μ i0 h0 hg (leF_app hf (leF_keep st live)) (leH_app hh (leH_keep st lrefs)) fun i hi => ?_
  refine (round i hi).mono fun e st' γ' hq => ?_
  cases e with
  | normal =>
    obtain ⟨i', h1, h2, h7, h3, h4, h5, h6⟩ := hq
    exact ⟨i', h1, h2, h7, leF_app h3 h5, leH_app h4 h6⟩
  | _ => exact hq
theorem WM.cutK {ι : Type} {c d : Code} (live lrefs : List Nat) (inv : ι → List (Nat × AV)) (hinv : ι → List (Nat × Ent)) (Γ : ι → Gh) (P : ι → Prop)
    (h1 : keepFK st live fun lf => keepHK st lrefs fun lh => WM X n E c γ st (fun e st' γ' => match e with
      | .normal => ∃ i, P i ∧ γ' = Γ i ∧ leF st' (inv i) ∧ leH st' (hinv i) ∧ leF st' lf ∧ leH st' lh
      | e => Q e st' γ'))
    (h2 : keepFK st live fun lf => keepHK st lrefs fun lh => ∀ i, P i → WM X n E d (Γ i) ⟨inv i ++ lf, hinv i ++ lh⟩ Q) : WM X n E (.seq c d) γ st Q := by
  rw [keepFK_eq, keepHK_eq] at h1 h2
  refine WM.seq (h1.mono fun e st' γ' hq => ?_)
  cases e with
  | normal =>
    obtain ⟨i, q1, q2, q3, q4, q5, q6⟩ := hq
    subst q2
    exact WM.weak _ (leF_app q3 q5) (leH_app q4 q6) (h2 i q1)
  | _ => exact hq
end

theorem ACalls.ofM {X : Cx} (hX : X.ok) {f : FuncId} {fn : Func} {c : Code} {n : Nat} {rs : List ResultVar} {args : List AV} {r : AV} (hf : X.P.funcs[f]? = some fn) (hb : fn.body = some c) (hnm : (fn.name == "runtime.NumGoroutine") = false) (hn : fn.ntmps = n) (hrs : fn.results = rs.toArray) (hna : args.length ≤ n) (E : TypeId) (γ : Gh) (hm : γ.m = 0)
    (h : WM { X with lo := 0, kb := [] } n E c γ ⟨argsF args 0, []⟩ fun e st γ' => match e with
      | .ret => resOk { X with lo := 0, kb := [] } ⟨st.fr, []⟩ rs r
      | .normal => resOk { X with lo := 0, kb := [] } ⟨st.fr, []⟩ rs r
      | _ => False) (hn5 : n ≤ 5000 := by exact Nat.le_of_ble_eq_true rfl) : ACalls X f args r := by
  have hX' : Cx.ok { X with lo := 0, kb := [] } := hX
  refine ⟨⟨fn, hf, by rw [hb]; rfl, hnm⟩, fun M w vs hg hp hl hd => ?_⟩
  refine calls_of_wp hf hb ?_
  have hsim : Sim { X with lo := 0, kb := [] } ⟨n, hn5, w, M, [], fun _ => (none, 0), fun _ _ => False, fun _ _ h => h.elim⟩ (fun _ => (none, 0)) M ⟨argsF args 0, []⟩ { tmps := vs.toArray ++ Array.replicate (fn.ntmps - vs.toArray.size) undef, defers := [] } w := by
    refine ⟨?_, rfl, Chg.refl _ _, Mem.le_refl _, hg, fun p v hp => .inl hp, hp, fun t => ?_, fun r e he => (by cases he), fun r e g he => (by cases he), fun r r' e e' he => (by cases he), fun r e g p v he => (by cases he), fun _ _ => rfl, fun _ => Nat.le_refl _, fun q b hq => (by cases hq)⟩
    · simp [hn]
      have : vs.length ≤ n := by omega
      omega
    · have hget : (⟨argsF args 0, []⟩ : St).get t = match args[t]? with
        | some c => c
        | none => .junk := by
        unfold St.get
        rw [argsF_lk, if_pos (Nat.zero_le _), Nat.sub_zero]
        cases args[t]? <;> rfl
      rw [hget]
      cases ha : args[t]? with
      | none => exact .junk _
      | some c =>
        have hlt : t < vs.length := by
          have := (List.getElem?_eq_some_iff.1 ha).1
          omega
        have hv : (vs.toArray ++ Array.replicate (fn.ntmps - vs.toArray.size) undef).getD t undef = vs[t] := by
          simp [Array.getElem?_append, hlt]
        simp only [hv]
        exact hd t c vs[t] ha (by simp [hlt]) _
  have fin : ∀ {st' : St} {γ' : Gh} {a' : Act} {w' : World}, resOk { X with lo := 0, kb := [] } ⟨st'.fr, []⟩ rs r → HS { X with lo := 0, kb := [] } E ⟨n, hn5, w, M⟩ γ' st' a' w' → a'.defers = [] ∧ ∃ v, (results fn a'.tmps).run X.P w' = .ok v w' ∧ ∃ v_1 M', Ending.returned v = .returned v_1 ∧ DenP M' r v_1 ∧ Mem.le M M' ∧ (∀ p u, M' p = some u → M p = some u ∨ w.heap.size ≤ p.block) ∧ PubOk M' w' ∧ Below w.heap.size w w' ∧ (X.dr = true → w.drawn ≤ w'.drawn) := by
    rintro st' γ' a' w' hres ⟨R, ρ, M1, h1, h2, h3⟩
    have hs : Sim { X with lo := 0, kb := [] } ⟨R.n, R.n5, w, M, [], ρ, fun _ _ => False, fun _ _ h => h.elim⟩ ρ M1 ⟨st'.fr, []⟩ a' w' :=
      ⟨h3.size, h3.defers, h1.chg.trans h3.chg (fun g hg hl => absurd (h1.bs g hg) (Nat.not_le_of_lt hl)), Mem.le_trans h1.m0 h3.m0, hg, fun p v hp => by
        rcases h3.fresh p v hp with q | q
        · exact h1.fresh p v q
        · exact .inr (Nat.le_trans h1.chg.size q), h3.pub, h3.slots, fun r e he => (by cases he), fun r e g he => (by cases he), fun r r' e e' he => (by cases he), fun r e g p v he => (by cases he), fun _ _ => rfl, fun hx => Nat.le_trans (h1.drn hx) (h3.drn hx), fun q b hq => (by cases hq)⟩
    obtain ⟨v, hv, hd⟩ := resOk_run hX' rfl hs hrs hres
    refine ⟨hs.defers, v, hv, v, _, rfl, hd, Mem.le_trans hs.m0 (endM_le _ _ _), fun p u hp => ?_, endM_ok hs.pub, hs.chg.below, hs.drn⟩
    rcases endM_fresh hp with h1 | h1
    · exact hs.fresh p u h1
    · exact .inr h1
  have hms : HS { X with lo := 0, kb := [] } E ⟨n, hn5, w, M⟩ γ ⟨argsF args 0, []⟩ { tmps := vs.toArray ++ Array.replicate (fn.ntmps - vs.toArray.size) undef, defers := [] } w :=
    ⟨_, _, _, ⟨rfl, Chg.refl _ _, Mem.le_refl _, fun p v hp => .inl hp, fun g hg => (by cases hg), fun _ => Nat.le_refl _⟩, ⟨fun i hi => (by omega), fun i g hi => (by omega), fun i g hi => (by omega), fun i j g hi => (by omega), fun i g p v hi => (by omega)⟩, hsim⟩
  refine wp_mono (h.out hX' rfl rfl ⟨n, hn5, w, M⟩ rfl _ w hms) fun e a' w' ⟨st', γ', hq, hs⟩ => ?_
  cases e with
  | normal => exact fin hq hs
  | ret => exact fin hq hs
  | _ => exact hq.elim
end Go.Proofs.Ytoeghejbgibioaa
