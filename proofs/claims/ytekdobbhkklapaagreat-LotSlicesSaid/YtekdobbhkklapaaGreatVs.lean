/- Functions that are handed own blocks of their caller: contracts, how they are proved, calls by them. -/
import Derived.Test.YtekdobbhkklapaaGreatVp
import Derived.Test.YtekdobbhkklapaaGreatVq
namespace Go.Proofs.YtekdobbhkklapaaGreat
open Go Go.RowKit
set_option linter.unusedVariables false
set_option linter.unusedSimpArgs false
set_option linter.unnecessarySimpa false

/-! ### Lists of own blocks -/
structure HeapOk (ρ : Env) (M : Mem) (w : World) (H : List (Nat × Ent)) : Prop where
  ents : ∀ k e, lk k H = some e → EntOk ρ M w k e
  apart : ∀ k k' e e', lk k H = some e → lk k' H = some e' → e.owned = true → e'.owned = true → k ≠ k' → ∀ g, (ρ k).1 = some g → (ρ k').1 ≠ some g
  sep : ∀ k e g p v, lk k H = some e → e.owned = true → (ρ k).1 = some g → M p = some v → p.block ≠ g
def blkOf (ρ : Env) (H : List (Nat × Ent)) (k : Nat) : Option Nat := match lk k H with
  | some e => match e.owned with
    | true => (ρ k).1
    | false => none
  | none => none
def blocksOf (ρ : Env) (H : List (Nat × Ent)) : List Nat := H.filterMap fun q => blkOf ρ H q.1
theorem blocksOf_mem {ρ : Env} {H : List (Nat × Ent)} {g : Nat} (h : g ∈ blocksOf ρ H) : ∃ k e, lk k H = some e ∧ e.owned = true ∧ (ρ k).1 = some g := by
  unfold blocksOf at h
  rw [List.mem_filterMap] at h
  obtain ⟨q, _, hq⟩ := h
  unfold blkOf at hq
  split at hq
  · rename_i e he
    split at hq
    · rename_i ho; exact ⟨_, _, he, ho, hq⟩
    · cases hq
  · cases hq
theorem blkOf_mem {ρ : Env} {H : List (Nat × Ent)} {k g : Nat} (h : blkOf ρ H k = some g) : g ∈ blocksOf ρ H := by
  have h' := h
  unfold blkOf at h'
  split at h'
  · rename_i e he
    unfold blocksOf
    rw [List.mem_filterMap]
    exact ⟨(k, e), lk_mem he, h⟩
  · cases h'
theorem blkOf_of {ρ : Env} {H : List (Nat × Ent)} {k g : Nat} {e : Ent} (h : lk k H = some e) (ho : e.owned = true) (hg : (ρ k).1 = some g) : blkOf ρ H k = some g := by
  unfold blkOf
  simp only [h, ho, hg]
theorem blkOf_inv {ρ : Env} {H : List (Nat × Ent)} {k g : Nat} (h : blkOf ρ H k = some g) : ∃ e, lk k H = some e ∧ e.owned = true ∧ (ρ k).1 = some g := by
  unfold blkOf at h
  split at h
  · rename_i e he
    split at h
    · rename_i ho; exact ⟨e, he, ho, h⟩
    · cases h
  · cases h
theorem blocksOf_of {ρ : Env} {H : List (Nat × Ent)} {k g : Nat} {e : Ent} (h : lk k H = some e) (ho : e.owned = true) (hg : (ρ k).1 = some g) : g ∈ blocksOf ρ H := by
  unfold blocksOf
  rw [List.mem_filterMap]
  refine ⟨(k, e), lk_mem h, ?_⟩
  unfold blkOf
  simp only [h, ho, hg]

theorem ble_of {a b : Nat} (h : a ≤ b) : Nat.ble a b = true := by simpa [Nat.ble_eq] using h
def updO (mv : Option Nat) (ρ ρf : Env) : Env := match mv with
  | none => ρ
  | some m => upd ρ m (ρf m)
def updR (mv : Option Nat) (σ : Nat → Nat) (ρ ρf : Env) : Env := match mv with
  | none => ρ
  | some m => upd ρ (σ m) (ρf m)
/-- What such a call leaves behind. -/
structure HPost (dr : Bool) (ρ : Env) (M : Mem) (w : World) (H : List (Nat × Ent)) (ρ' : Env) (M' : Mem) (w' : World) (r : AV) (H' : List (Nat × Ent)) (mv : Option Nat) (v : Value) : Prop where
  den : DenA ρ' M' r v
  mem : Mem.le M M'
  fresh : ∀ p u, M' p = some u → M p = some u ∨ w.heap.size ≤ p.block
  pub : PubOk M' w'
  chg : Chg (blocksOf ρ H) w w'
  heap : HeapOk ρ' M' w' H'
  own : ∀ k e g, lk k H' = some e → e.owned = true → (ρ' k).1 = some g → w.heap.size ≤ g ∨ blkOf ρ H k = some g
  env : ∀ k, mv ≠ some k → ρ' k = ρ k
  drn : dr = true → w.drawn ≤ w'.drawn
/-- The contract of a function that is handed own blocks H of its caller: afterwards they are H'; the row mv may have gone elsewhere. -/
structure HC (X : Cx) (f : FuncId) (args : List AV) (H : List (Nat × Ent)) (r : AV) (H' : List (Nat × Ent)) (mv : Option Nat) : Prop where
  fn : FnOk X.P f
  out : ∀ (M : Mem) (w : World) (ρ : Env) (vs : List Value), X.glob M → PubOk M w → args.length = vs.length → (∀ (i : Nat) (c : AV) (v : Value), args[i]? = some c → vs[i]? = some v → DenA ρ M c v) → HeapOk ρ M w H →
    Calls X.P f vs.toArray w fun e w' => ∃ v ρ' M', e = .returned v ∧ HPost X.dr ρ M w H ρ' M' w' r H' mv v

theorem HC.at {X : Cx} {l : List Nat} {f : FuncId} {args : List AV} {H : List (Nat × Ent)} {r : AV} {H' : List (Nat × Ent)} {mv : Option Nat} (h : HC X f args H r H' mv) : HC { X with pb := l } f args H r H' mv := ⟨h.fn, h.out⟩
/-! ### Other names -/
def AV.ren (σ : Nat → Nat) : AV → AV
  | .ptr r o => .ptr (σ r) o
  | .own r s l n => .own (σ r) s l n
  | .rptr r s k j => .rptr (σ r) s k j
  | .agg cs => .agg (renL σ cs)
  | .tup cs => .tup (renL σ cs)
  | .junk => .junk
  | .tt => .tt
  | .ff => .ff
  | .dat d => .dat d
  | .ro n c => .ro n c
where renL (σ : Nat → Nat) : List AV → List AV
  | [] => []
  | c :: l => AV.ren σ c :: renL σ l
theorem renL_eq (σ : Nat → Nat) : ∀ cs : List AV, AV.ren.renL σ cs = cs.map (AV.ren σ)
  | [] => rfl
  | c :: l => by simp only [AV.ren.renL, List.map_cons, renL_eq σ l]
def Ent.ren (σ : Nat → Nat) : Ent → Ent
  | .blk t cs => .blk t (AV.ren.renL σ cs)
  | .row E s n f => .row E s n f
  | .pub s n f => .pub s n f
  | .dead => .dead
def renH (σ : Nat → Nat) : List (Nat × Ent) → List (Nat × Ent)
  | [] => []
  | (k, e) :: l => (σ k, Ent.ren σ e) :: renH σ l
theorem Ent.ren_owned (σ : Nat → Nat) (e : Ent) : (e.ren σ).owned = e.owned := by cases e <;> rfl
theorem DenA.ren {σ : Nat → Nat} {ρ : Env} {M : Mem} {c : AV} {v : Value} (h : DenA (fun k => ρ (σ k)) M c v) : DenA ρ M (c.ren σ) v := by
  induction h with
  | junk v => exact .junk v
  | tt => exact .tt
  | ff => exact .ff
  | dat h => exact .dat h
  | ptr r off g h => exact .ptr _ off g h
  | ro n c ad u hm hd => exact .ro n c ad u hm hd
  | own r size lo n => exact .own (σ r) size lo n
  | rptr r size k j g h => exact .rptr _ size k j g h
  | agg cs vs hl h ih =>
    show DenA ρ M (.agg (AV.ren.renL σ cs)) _
    rw [renL_eq]
    refine .agg _ vs (by simpa using hl) fun i c v hc hv => ?_
    rw [List.getElem?_map] at hc
    cases hq : cs[i]? with
    | none => rw [hq] at hc; cases hc
    | some c0 => rw [hq] at hc; cases hc; exact ih i c0 v hq hv
  | tup cs vs hl h ih =>
    show DenA ρ M (.tup (AV.ren.renL σ cs)) _
    rw [renL_eq]
    refine .tup _ vs (by simpa using hl) fun i c v hc hv => ?_
    rw [List.getElem?_map] at hc
    cases hq : cs[i]? with
    | none => rw [hq] at hc; cases hc
    | some c0 => rw [hq] at hc; cases hc; exact ih i c0 v hq hv
theorem DenA.unren {σ : Nat → Nat} {ρ : Env} {M : Mem} {c' : AV} {v : Value} (h : DenA ρ M c' v) : ∀ c : AV, c' = c.ren σ → DenA (fun k => ρ (σ k)) M c v := by
  induction h with
  | junk v => intro c hc; cases c <;> simp [AV.ren] at hc; exact .junk v
  | tt => intro c hc; cases c <;> simp [AV.ren] at hc; exact .tt
  | ff => intro c hc; cases c <;> simp [AV.ren] at hc; exact .ff
  | dat h => intro c hc; cases c <;> simp [AV.ren] at hc; subst hc; exact .dat h
  | ptr r off g h => intro c hc; cases c <;> simp [AV.ren] at hc; obtain ⟨rfl, rfl⟩ := hc; exact .ptr _ _ g h
  | ro n c ad u hm hd => intro c hc; cases c <;> simp [AV.ren] at hc; obtain ⟨rfl, rfl⟩ := hc; exact .ro _ _ ad u hm hd
  | own r size lo n => intro c hc; cases c <;> simp [AV.ren] at hc; obtain ⟨rfl, rfl, rfl, rfl⟩ := hc; exact DenA.own (ρ := fun k => ρ (σ k)) _ _ _ _
  | rptr r size k j g h => intro c hc; cases c <;> simp [AV.ren] at hc; obtain ⟨rfl, rfl, rfl, rfl⟩ := hc; exact .rptr _ _ _ _ g h
  | agg cs vs hl h ih =>
    intro c hc
    cases c <;> simp [AV.ren] at hc
    rename_i ds
    rw [renL_eq] at hc
    subst hc
    exact .agg _ vs (by simpa using hl) fun i c v hc hv => ih i (c.ren σ) v (by rw [List.getElem?_map, hc]; rfl) hv c rfl
  | tup cs vs hl h ih =>
    intro c hc
    cases c <;> simp [AV.ren] at hc
    rename_i ds
    rw [renL_eq] at hc
    subst hc
    exact .tup _ vs (by simpa using hl) fun i c v hc hv => ih i (c.ren σ) v (by rw [List.getElem?_map, hc]; rfl) hv c rfl
theorem EntOk.ren {σ : Nat → Nat} {ρ : Env} {M : Mem} {w : World} {k : Nat} {e : Ent} (h : EntOk (fun k => ρ (σ k)) M w k e) : EntOk ρ M w (σ k) (e.ren σ) := by
  cases e with
  | blk t cs =>
    obtain ⟨g, vs, h1, h2, h3, h4⟩ := h
    show EntOk ρ M w (σ k) (.blk t (AV.ren.renL σ cs))
    rw [renL_eq]
    refine ⟨g, vs, h1, h2, by simpa using h3, fun i c v hc hv => ?_⟩
    rw [List.getElem?_map] at hc
    cases hq : cs[i]? with
    | none => rw [hq] at hc; cases hc
    | some c0 => rw [hq] at hc; cases hc; exact (h4 i c0 v hq hv).ren
  | row E s n f => exact h
  | pub s n f => exact h
  | dead => trivial
theorem EntOk.unren {σ : Nat → Nat} {ρ : Env} {M : Mem} {w : World} {k : Nat} {e : Ent} (h : EntOk ρ M w (σ k) (e.ren σ)) : EntOk (fun k => ρ (σ k)) M w k e := by
  cases e with
  | blk t cs =>
    obtain ⟨g, vs, h1, h2, h3, h4⟩ := h
    rw [renL_eq] at h3 h4
    exact ⟨g, vs, h1, h2, by simpa using h3, fun i c v hc hv => (h4 i (c.ren σ) v (by rw [List.getElem?_map, hc]; rfl) hv).unren c rfl⟩
  | row E s n f => exact h
  | pub s n f => exact h
  | dead => trivial
theorem lk_ren {σ : Nat → Nat} (hσ : ∀ a b, σ a = σ b → a = b) (k : Nat) : ∀ H : List (Nat × Ent), lk (σ k) (renH σ H) = (lk k H).map (Ent.ren σ)
  | [] => rfl
  | (j, e) :: l => by
    simp only [renH, lk_cons, lk_ren hσ k l]
    by_cases h : j = k
    · rw [if_pos h, if_pos (by rw [h])]; rfl
    · rw [if_neg h, if_neg (fun he => h (hσ _ _ he))]
theorem lk_unren {σ : Nat → Nat} {k : Nat} {e : Ent} : ∀ {H : List (Nat × Ent)}, lk k (renH σ H) = some e → ∃ j, k = σ j
  | [], h => by cases h
  | (j, e') :: l, h => by
    simp only [renH, lk_cons] at h
    split at h
    · rename_i hk; exact ⟨j, hk.symm⟩
    · exact lk_unren h
theorem lk_unren' {σ : Nat → Nat} (hσ : ∀ a b, σ a = σ b → a = b) {k : Nat} {e : Ent} {H : List (Nat × Ent)} (h : lk k (renH σ H) = some e) : ∃ j e0, k = σ j ∧ lk j H = some e0 ∧ e = e0.ren σ := by
  obtain ⟨j, rfl⟩ := lk_unren h
  rw [lk_ren hσ] at h
  cases hq : lk j H with
  | none => rw [hq] at h; cases h
  | some e0 => rw [hq] at h; cases h; exact ⟨j, e0, rfl, hq, rfl⟩
theorem HeapOk.ren {σ : Nat → Nat} (hσ : ∀ a b, σ a = σ b → a = b) {ρ : Env} {M : Mem} {w : World} {H : List (Nat × Ent)} (h : HeapOk (fun k => ρ (σ k)) M w H) : HeapOk ρ M w (renH σ H) where
  ents k e he := by
    obtain ⟨j, e0, rfl, h1, rfl⟩ := lk_unren' hσ he
    exact (h.ents j e0 h1).ren
  apart k k' e e' he he' ho ho' hne := by
    obtain ⟨j, e0, rfl, h1, rfl⟩ := lk_unren' hσ he
    obtain ⟨j', e0', rfl, h1', rfl⟩ := lk_unren' hσ he'
    rw [Ent.ren_owned] at ho ho'
    exact h.apart j j' e0 e0' h1 h1' ho ho' fun e => hne (by rw [e])
  sep k e g p v he ho := by
    obtain ⟨j, e0, rfl, h1, rfl⟩ := lk_unren' hσ he
    rw [Ent.ren_owned] at ho
    exact h.sep j e0 g p v h1 ho
theorem HeapOk.unren {σ : Nat → Nat} (hσ : ∀ a b, σ a = σ b → a = b) {ρ : Env} {M : Mem} {w : World} {H : List (Nat × Ent)} (h : HeapOk ρ M w (renH σ H)) : HeapOk (fun k => ρ (σ k)) M w H where
  ents k e he := (h.ents (σ k) (e.ren σ) (by rw [lk_ren hσ, he]; rfl)).unren
  apart k k' e e' he he' ho ho' hne := h.apart (σ k) (σ k') (e.ren σ) (e'.ren σ) (by rw [lk_ren hσ, he]; rfl) (by rw [lk_ren hσ, he']; rfl) (by rw [Ent.ren_owned]; exact ho) (by rw [Ent.ren_owned]; exact ho') fun e => hne (hσ _ _ e)
  sep k e g p v he ho := h.sep (σ k) (e.ren σ) g p v (by rw [lk_ren hσ, he]; rfl) (by rw [Ent.ren_owned]; exact ho)
theorem blkOf_ren {σ : Nat → Nat} (hσ : ∀ a b, σ a = σ b → a = b) (ρ : Env) (H : List (Nat × Ent)) (k : Nat) : blkOf ρ (renH σ H) (σ k) = blkOf (fun k => ρ (σ k)) H k := by
  unfold blkOf
  rw [lk_ren hσ]
  cases lk k H with
  | none => rfl
  | some e => simp only [Option.map_some, Ent.ren_owned]
theorem blocksOf_ren {σ : Nat → Nat} (hσ : ∀ a b, σ a = σ b → a = b) (ρ : Env) (H : List (Nat × Ent)) : blocksOf ρ (renH σ H) = blocksOf (fun k => ρ (σ k)) H := by
  have hb : ∀ k, blkOf ρ (renH σ H) (σ k) = blkOf (fun k => ρ (σ k)) H k := blkOf_ren hσ ρ H
  have : ∀ L : List (Nat × Ent), (renH σ L).filterMap (fun q => blkOf ρ (renH σ H) q.1) = L.filterMap fun q => blkOf (fun k => ρ (σ k)) H q.1 := by
    intro L
    induction L with
    | nil => rfl
    | cons q L ih =>
      obtain ⟨k, e⟩ := q
      simp only [renH, List.filterMap_cons, hb, ih]
  exact this H

/-- Names by a table. -/
def rnm (l : List (Nat × Nat)) (k : Nat) : Nat := match lk k l with
  | some r => r
  | none => k + 2000000
def tgt (r : Nat) : List (Nat × Nat) → Bool
  | [] => false
  | (_, r') :: l => match Nat.beq r r' with
    | true => true
    | false => tgt r l
def injB : List (Nat × Nat) → Bool
  | [] => true
  | (_, r) :: l => match Nat.ble 2000000 r with
    | true => false
    | false => match tgt r l with
      | true => false
      | false => injB l
theorem tgt_of {k r : Nat} : ∀ {l : List (Nat × Nat)}, lk k l = some r → tgt r l = true
  | [], h => by cases h
  | (j, r') :: l, h => by
    rw [lk_cons] at h
    unfold tgt
    split
    · rfl
    · rename_i hb
      split at h
      · cases h; rw [Nat.beq_refl] at hb; cases hb
      · exact tgt_of h
theorem injB_lt {k r : Nat} : ∀ {l : List (Nat × Nat)}, injB l = true → lk k l = some r → r < 2000000
  | [], _, h => by cases h
  | (j, r') :: l, hi, h => by
    rw [lk_cons] at h
    unfold injB at hi
    split at hi
    · cases hi
    · rename_i hb
      split at hi
      · cases hi
      · split at h
        · cases h
          have : ¬ 2000000 ≤ r := fun hle => by
            have := ble_of hle
            rw [this] at hb; cases hb
          omega
        · exact injB_lt hi h
theorem injB_inj {a b r : Nat} : ∀ {l : List (Nat × Nat)}, injB l = true → lk a l = some r → lk b l = some r → a = b
  | [], _, h, _ => by cases h
  | (j, r') :: l, hi, ha, hb => by
    rw [lk_cons] at ha hb
    unfold injB at hi
    split at hi
    · cases hi
    · split at hi
      · cases hi
      · rename_i ht
        split at ha
        · rename_i h1
          cases ha
          split at hb
          · rename_i h2; rw [← h1, ← h2]
          · rw [tgt_of hb] at ht; cases ht
        · split at hb
          · cases hb
            rw [tgt_of ha] at ht; cases ht
          · exact injB_inj hi ha hb
theorem rnm_inj {l : List (Nat × Nat)} (h : injB l = true) : ∀ a b, rnm l a = rnm l b → a = b := by
  intro a b he
  unfold rnm at he
  cases ha : lk a l with
  | none =>
    cases hb : lk b l with
    | none => simp only [ha, hb] at he; omega
    | some r =>
      simp only [ha, hb] at he
      have := injB_lt h hb
      omega
  | some r =>
    cases hb : lk b l with
    | none =>
      simp only [ha, hb] at he
      have := injB_lt h ha
      omega
    | some r' =>
      simp only [ha, hb] at he
      subst he
      exact injB_inj h ha hb

def renMv (σ : Nat → Nat) : Option Nat → Option Nat
  | none => none
  | some m => some (σ m)
/-- The contract under other names. -/
theorem HC.ren {X : Cx} {f : FuncId} {args : List AV} {H : List (Nat × Ent)} {r : AV} {H' : List (Nat × Ent)} {mv : Option Nat} (l : List (Nat × Nat)) (hl : injB l = true) (h : HC X f args H r H' mv) :
    HC X f (AV.ren.renL (rnm l) args) (renH (rnm l) H) (r.ren (rnm l)) (renH (rnm l) H') (renMv (rnm l) mv) := by
  have hσ := rnm_inj hl
  generalize rnm l = σ at hσ
  refine ⟨h.fn, fun M w ρ vs hg hp hlen ha hH => ?_⟩
  rw [renL_eq] at hlen ha
  refine (h.out M w (fun k => ρ (σ k)) vs hg hp (by simpa using hlen) (fun i c v hc hv => (ha i (c.ren σ) v (by rw [List.getElem?_map, hc]; rfl) hv).unren c rfl) (hH.unren hσ)).mono fun e w' ⟨v, ρ', M', he, hP⟩ => ?_
  obtain ⟨ρc, hρc⟩ : ∃ ρc : Env, ρc = updR mv σ ρ ρ' := ⟨_, rfl⟩
  have hc : (fun k => ρc (σ k)) = ρ' := by
    funext k
    rw [hρc]
    cases mv with
    | none => exact (hP.env k (by simp)).symm
    | some m =>
      show upd ρ (σ m) (ρ' m) (σ k) = ρ' k
      by_cases hk : m = k
      · subst hk; exact upd_same _ _ _
      · rw [upd_ne _ (fun e => hk (hσ _ _ e).symm)]
        exact (hP.env k (by simpa using hk)).symm
  have hden := hP.den
  have hheap := hP.heap
  have hown := hP.own
  rw [← hc] at hden hheap hown
  refine ⟨v, ρc, M', he, hden.ren, hP.mem, hP.fresh, hP.pub, by rw [blocksOf_ren hσ]; exact hP.chg, hheap.ren hσ, fun k e g hk ho hg => ?_, fun k hk => ?_, hP.drn⟩
  · obtain ⟨j, e0, rfl, h1, rfl⟩ := lk_unren' hσ hk
    rw [Ent.ren_owned] at ho
    rw [blkOf_ren hσ]
    exact hown j e0 g h1 ho hg
  · rw [hρc]
    cases mv with
    | none => rfl
    | some m => exact upd_ne _ (fun e => hk (by rw [e]; rfl)) _

/-! ### How such a contract is proved -/
/-- When a call ends all that it made may be public, but for these blocks. -/
def endH (R : Run) (M : Mem) (w : World) (B : List Nat) : Mem := fun p => match M p with
  | some v => some v
  | none => match Nat.ble R.w0.heap.size p.block with
    | true => match B.contains p.block with
      | true => none
      | false => allM w p
    | false => none
theorem endH_le (R : Run) (M : Mem) (w : World) (B : List Nat) : Mem.le M (endH R M w B) := fun p v hp => by unfold endH; rw [hp]
theorem endH_ok {R : Run} {M : Mem} {w : World} {B : List Nat} (h : PubOk M w) : PubOk (endH R M w B) w := fun p v hp => by
  unfold endH at hp
  cases hm : M p with
  | some u => rw [hm] at hp; cases hp; exact h p _ hm
  | none =>
    rw [hm] at hp
    simp only at hp
    split at hp
    · split at hp
      · cases hp
      · exact allM_ok w p v hp
    · cases hp
theorem endH_fresh {R : Run} {M : Mem} {w : World} {B : List Nat} {p : Addr} {v : Value} (hp : endH R M w B p = some v) : M p = some v ∨ (R.w0.heap.size ≤ p.block ∧ p.block ∉ B) := by
  unfold endH at hp
  cases hm : M p with
  | some u => rw [hm] at hp; exact .inl hp
  | none =>
    rw [hm] at hp
    simp only at hp
    split at hp
    · rename_i hb
      split at hp
      · cases hp
      · rename_i hc; exact .inr ⟨Nat.le_of_ble_eq_true hb, fun hm => by rw [List.contains_iff_mem.2 hm] at hc; cases hc⟩
    · cases hp
theorem endH_of {R : Run} {M : Mem} {w : World} {B : List Nat} (hpub : PubOk M w) {p : Addr} {v : Value} (h : w.cell? p = some v) (ho : v.oneCell' = true) (hb : R.w0.heap.size ≤ p.block) (hn : p.block ∉ B) : endH R M w B p = some v := by
  unfold endH
  cases hm : M p with
  | some u =>
    have := (hpub p u hm).1
    rw [h] at this; cases this; rfl
  | none =>
    simp only
    have h1 : Nat.ble R.w0.heap.size p.block = true := ble_of hb
    have h2 : B.contains p.block = false := by
      cases hc : B.contains p.block with
      | false => rfl
      | true => exact absurd (List.contains_iff_mem.1 hc) hn
    rw [h1, h2]
    exact allM_of h ho

/-- Names of a list. -/
def inK (k : Nat) : List (Nat × Ent) → Bool
  | [] => false
  | (j, _) :: l => match Nat.beq j k with
    | true => true
    | false => inK k l
theorem inK_false {k : Nat} : ∀ {l : List (Nat × Ent)}, inK k l = false → lk k l = none
  | [], _ => rfl
  | (j, e) :: l, h => by
    unfold inK at h
    split at h
    · cases h
    · rename_i hb
      rw [lk_cons, if_neg (fun e => by subst e; rw [Nat.beq_refl] at hb; cases hb)]
      exact inK_false h
/-- A result that the function has as c, handed back as d; H' stays with the caller. -/
def ResH (X : Cx) (st : St) (H' : List (Nat × Ent)) (c d : AV) : Prop := ∀ R ρ M a w v, Sim X R ρ M st a w → leH st H' → DenA ρ M c v → DenA ρ (endH R M w (blocksOf ρ H')) d v
def RessH (X : Cx) (st : St) (H' : List (Nat × Ent)) : List AV → List AV → Prop
  | [], [] => True
  | c :: l, d :: r => ResH X st H' c d ∧ RessH X st H' l r
  | _, _ => False
theorem RessH_at {X : Cx} {st : St} {H' : List (Nat × Ent)} : ∀ {cs ds : List AV}, RessH X st H' cs ds → ds.length = cs.length ∧ ∀ (i : Nat) (d : AV), ds[i]? = some d → ∃ c, cs[i]? = some c ∧ ResH X st H' c d
  | [], [], _ => ⟨rfl, fun i d h => by simp at h⟩
  | c :: l, d :: r, h => by
    obtain ⟨h1, h2⟩ := RessH_at h.2
    refine ⟨by simp [h1], fun i d' hi => ?_⟩
    cases i with
    | zero => simp at hi; subst hi; exact ⟨c, rfl, h.1⟩
    | succ i => obtain ⟨c', e1, e2⟩ := h2 i d' (by simpa using hi); exact ⟨c', by simpa using e1, e2⟩
  | [], _ :: _, h => h.elim
  | _ :: _, [], h => h.elim
theorem ResH.same {X : Cx} {st : St} {H' : List (Nat × Ent)} {c d : AV} (h : AVle c d) : ResH X st H' c d := fun R ρ M a w v hs _ hc => (h _ _ _ hc).keep (endH_le R M w _) fun _ _ => rfl
theorem ResH.agg {X : Cx} {st : St} {H' : List (Nat × Ent)} {cs ds : List AV} (h : RessH X st H' cs ds) : ResH X st H' (.agg cs) (.agg ds) := fun R ρ M a w v hs hh hc => by
  obtain ⟨vs, rfl, hl, hd⟩ := agg_of hc
  obtain ⟨h1, h2⟩ := RessH_at h
  exact .agg ds vs (by omega) fun i c v e1 e2 => by
    obtain ⟨c', e3, e4⟩ := h2 i c e1
    exact e4 R ρ M a w v hs hh (hd i c' v e3 e2)
/-- A new own row, handed back as public. -/
theorem ResH.own {X : Cx} {st : St} {H' : List (Nat × Ent)} {r s lo n N : Nat} {f g : Nat → Nat → D} (hr5 : Nat.ble 5000 r = false) (hk : inK r H' = false) (hr : rowOf (st.ent r) s = some (N, f)) (hle : lo + n ≤ N) (hfg : ∀ i, i < n → ∀ j, j < s → Dle (f (lo + i) j) (g i j)) : ResH X st H' (.own r s lo n) (.dat (.lst s n g)) := by
  intro R ρ M a w v hs hh hc
  have hr5' : ¬ 5000 ≤ r := fun hle => by rw [ble_of hle] at hr5; cases hr5
  obtain rfl := own_of hc
  obtain ⟨hc1, hc2, hc3⟩ := rowOf_cap hs hr
  have hnb : ∀ e gg, st.ent r = some e → e.owned = true → (ρ r).1 = some gg → gg ∉ blocksOf ρ H' := fun e gg he ho hg hm => by
    obtain ⟨k, e', h1, h2, h3⟩ := blocksOf_mem hm
    obtain ⟨e0, h4, h5, h6⟩ := leH_ent hh k e' h1
    refine hs.apart r k e e0 he h4 ho (by rw [← h6]; exact h2) (fun e => ?_) gg hg h3
    subst e
    rw [inK_false hk] at h1; cases h1
  have hcell : ∀ gg, (ρ r).1 = some gg → ∀ i, i < n → ∀ j, j < s → ∃ u, endH R M w (blocksOf ρ H') ⟨gg, (lo + i) * s + j, none⟩ = some u ∧ DenD M (f (lo + i) j) u := by
    intro gg hg i hi j hj
    obtain ⟨u, h1, h2, h3⟩ := rowOf_cell hs hr hg (k := lo + i) (by omega) hj
    refine ⟨u, ?_, h2⟩
    unfold rowOf at hr
    split at hr
    · rename_i E s' n' f' he
      rcases hs.own r _ gg he rfl hg with h4 | h4
      · exact endH_of hs.pub h1 h3 h4 (hnb _ gg he rfl hg)
      · exact absurd h4.1 hr5'
    · rename_i s' n' f' he
      split at hr
      · rename_i hsb
        cases hr
        obtain rfl := Nat.eq_of_beq_eq_true hsb
        have h' : DenD M (.lst s N f) (.slice (addrOf (ρ r).1) N (ρ r).2) := hs.ents r _ he
        rw [hg] at h'
        cases h' with
        | lst _ _ _ A cap u' hn hc hA hm hd =>
          have h5 := hm ⟨gg, 0, none⟩ rfl (lo + i) (by omega) j hj
          rw [add_off, Nat.zero_add] at h5
          have h6 := (hs.pub _ _ h5).1
          rw [h1] at h6
          have h7 := endH_le R M w (blocksOf ρ H') _ _ h5
          rw [h7, h6]
      · cases hr
    · cases hr
  have hch : ∃ u : Nat → Nat → Value, ∀ i, i < n → ∀ j, j < s → ∀ gg, (ρ r).1 = some gg → endH R M w (blocksOf ρ H') ⟨gg, (lo + i) * s + j, none⟩ = some (u i j) ∧ DenD M (f (lo + i) j) (u i j) := by
    cases hg : (ρ r).1 with
    | none => exact ⟨fun _ _ => undef, fun i hi => by have := hc3 hg; omega⟩
    | some gg =>
      refine ⟨fun i j => if hh : i < n ∧ j < s then (hcell gg hg i hh.1 j hh.2).choose else undef, fun i hi j hj g' hg' => ?_⟩
      cases hg'
      have hh : i < n ∧ j < s := ⟨hi, hj⟩
      simp only [dif_pos hh]
      exact (hcell gg hg i hh.1 j hh.2).choose_spec
  obtain ⟨u, hu⟩ := hch
  refine .dat (.lst s n g _ _ u (by omega) (by omega) (fun e => ?_) (fun ad e i hi j hj => ?_) (fun i hi j hj => ?_))
  · cases hg : (ρ r).1 with
    | none => have := hc3 hg; omega
    | some gg =>
      rw [hg] at e
      unfold partOf at e
      split at e
      · omega
      · simp [addrOf] at e
  · cases hg : (ρ r).1 with
    | none => have := hc3 hg; omega
    | some gg =>
      rw [partOf_some hg (by omega)] at e
      cases e
      obtain ⟨h1, _⟩ := hu i hi j hj gg hg
      rw [add_off]
      rw [Nat.add_mul, Nat.add_assoc] at h1
      exact h1
  · cases hg : (ρ r).1 with
    | none => have := hc3 hg; omega
    | some gg =>
      obtain ⟨_, h2⟩ := hu i hi j hj gg hg
      exact hfg i hi j hj _ _ (h2.mono (endH_le R M w _))

def resLH (X : Cx) (st : St) (H' : List (Nat × Ent)) : List ResultVar → List AV → Prop
  | [], [] => True
  | rv :: rs, d :: ds => (match resAV X st rv with
    | some c => force c fun c => ResH X st H' c d
    | none => False) ∧ resLH X st H' rs ds
  | _, _ => False
/-- What a function hands back: its results, and the blocks. -/
def resH (X : Cx) (st : St) (H' : List (Nat × Ent)) (rs : List ResultVar) (r : AV) : Prop := match rs with
  | [rv] => (match resAV X st rv with
    | some c => force c fun c => ResH X st H' c r
    | none => False) ∧ leH st H'
  | rs => (match r with
    | .tup ds => resLH X st H' rs ds
    | _ => False) ∧ leH st H'
theorem resLH_ok {X : Cx} (hX : X.ok) {R : Run} {ρ : Env} {M : Mem} {st : St} {a : Act} {w : World} {H' : List (Nat × Ent)} (h : Sim X R ρ M st a w) (hh : leH st H') : ∀ (rs : List ResultVar) (ds : List AV), resLH X st H' rs ds →
    ∃ vs, (rs.mapM (resV a)).run X.P w = .ok vs w ∧ ds.length = vs.length ∧ rs.length = vs.length ∧ ∀ (i : Nat) (d : AV) (v : Value), ds[i]? = some d → vs[i]? = some v → DenA ρ (endH R M w (blocksOf ρ H')) d v
  | [], [], _ => ⟨[], rfl, rfl, rfl, fun i d v h1 => by simp at h1⟩
  | rv :: rs, d :: ds, hr => by
    obtain ⟨h1, h2⟩ := hr
    split at h1
    · rename_i c hc
      rw [force_eq] at h1
      obtain ⟨v, hv, hd⟩ := resAV_ok hX h hc
      obtain ⟨vs, e1, e2, e3, e4⟩ := resLH_ok hX h hh rs ds h2
      refine ⟨v :: vs, ?_, by simp [e2], by simp [e3], fun i d' v' hi hv' => ?_⟩
      · simp only [List.mapM_cons, Sem.run_bind, Sem.run_pure]
        rw [hv]
        simp only [Result.andThen_ok, e1]
      · cases i with
        | zero => simp at hi hv'; subst hi hv'; exact h1 R ρ M a w v h hh hd
        | succ i => exact e4 i d' v' (by simpa using hi) (by simpa using hv')
    · exact h1.elim
  | [], _ :: _, hr => hr.elim
  | _ :: _, [], hr => hr.elim
theorem resH_run {X : Cx} (hX : X.ok) {R : Run} {ρ : Env} {M : Mem} {st : St} {a : Act} {w : World} {H' : List (Nat × Ent)} (h : Sim X R ρ M st a w) {fn : Func} {rs : List ResultVar} {r : AV} (hrs : fn.results = rs.toArray) (hr : resH X st H' rs r) :
    leH st H' ∧ ∃ v, (results fn a.tmps).run X.P w = .ok v w ∧ DenA ρ (endH R M w (blocksOf ρ H')) r v := by
  have hrun : ∀ {vs : List Value}, (rs.mapM (resV a)).run X.P w = .ok vs w → (results fn a.tmps).run X.P w = .ok (if h : vs.toArray.size = 1 then vs.toArray[0] else .tuple vs.toArray) w := by
    intro vs hvs
    rw [results_eq, hrs, Array.mapM_eq_mapM_toList]
    simp only [Sem.run_bind, Sem.run_map]
    rw [hvs]
    rfl
  unfold resH at hr
  split at hr
  · rename_i rv
    obtain ⟨hr, hh⟩ := hr
    refine ⟨hh, ?_⟩
    split at hr
    · rename_i c hc
      rw [force_eq] at hr
      obtain ⟨v, hv, hd⟩ := resAV_ok hX h hc
      refine ⟨v, ?_, hr R ρ M a w v h hh hd⟩
      rw [hrun (vs := [v]) (by
        simp only [List.mapM_cons, List.mapM_nil, Sem.run_bind, Sem.run_pure]
        rw [hv]
        rfl)]
      rfl
    · exact hr.elim
  · rename_i hne
    obtain ⟨hr, hh⟩ := hr
    refine ⟨hh, ?_⟩
    split at hr
    · rename_i ds
      obtain ⟨vs, e1, e2, e3, e4⟩ := resLH_ok hX h hh rs ds hr
      refine ⟨.tuple vs.toArray, ?_, .tup ds vs e2 fun i d v h1 h2 => e4 i d v h1 h2⟩
      rw [hrun e1, dif_neg]
      intro h1
      have : rs.length = 1 := by rw [e3]; simpa using h1
      obtain ⟨rv, hrv⟩ := List.length_eq_one_iff.1 this
      exact hne rv hrv
    · exact hr.elim

/-- All names are those of blocks that stay where they are, or mv. -/
def okK (mv : Option Nat) (k : Nat) : Bool := match kp k with
  | true => true
  | false => match mv with
    | none => false
    | some m => Nat.beq m k
def AV.nm (mv : Option Nat) : AV → Bool
  | .ptr r _ => okK mv r
  | .own r _ _ _ => okK mv r
  | .rptr r _ _ _ => okK mv r
  | .agg cs => nmL mv cs
  | .tup cs => nmL mv cs
  | .junk => true
  | .tt => true
  | .ff => true
  | .dat _ => true
  | .ro _ _ => true
where nmL (mv : Option Nat) : List AV → Bool
  | [] => true
  | c :: l => match AV.nm mv c with
    | true => nmL mv l
    | false => false
theorem AV.nmL_at {mv : Option Nat} : ∀ {l : List AV}, AV.nm.nmL mv l = true → ∀ (i : Nat) (c : AV), l[i]? = some c → c.nm mv = true
  | [], _, i, c, h => by simp at h
  | x :: l, h, i, c, hi => by
    simp only [AV.nm.nmL] at h
    split at h
    · rename_i hx
      cases i with
      | zero => simp at hi; subst hi; exact hx
      | succ i => exact AV.nmL_at h i c (by simpa using hi)
    · cases h
theorem okK_eq {mv : Option Nat} {k : Nat} (h : okK mv k = true) {ρ ρf : Env} (hf : ∀ k, kp k = true → ρf k = ρ k) : (updO mv ρ ρf) k = ρf k := by
  cases mv with
  | none =>
    unfold okK at h
    split at h
    · rename_i hk; exact (hf k hk).symm
    · cases h
  | some m =>
    show upd ρ m (ρf m) k = ρf k
    by_cases hm : k = m
    · subst hm; exact upd_same _ _ _
    · rw [upd_ne _ hm]
      unfold okK at h
      split at h
      · rename_i hk; exact (hf k hk).symm
      · exact absurd (Nat.eq_of_beq_eq_true h).symm hm
theorem DenA.nm {mv : Option Nat} {ρ ρf : Env} (hf : ∀ k, kp k = true → ρf k = ρ k) {M : Mem} {c : AV} {v : Value} (h : DenA ρf M c v) (hn : c.nm mv = true) : DenA (updO mv ρ ρf) M c v := by
  induction h with
  | junk v => exact .junk v
  | tt => exact .tt
  | ff => exact .ff
  | dat h => exact .dat h
  | ptr r off g h => exact .ptr r off g (by rw [okK_eq hn hf]; exact h)
  | ro n c ad u hm hd => exact .ro n c ad u hm hd
  | own r size lo n =>
    rw [← okK_eq (ρ := ρ) (ρf := ρf) (k := r) hn hf]
    exact .own r size lo n
  | rptr r size k j g h => exact .rptr r size k j g (by rw [okK_eq hn hf]; exact h)
  | agg cs vs hl h ih => exact .agg cs vs hl fun i c v hc hv => ih i c v hc hv (AV.nmL_at hn i c hc)
  | tup cs vs hl h ih => exact .tup cs vs hl fun i c v hc hv => ih i c v hc hv (AV.nmL_at hn i c hc)
def Ent.nm (mv : Option Nat) : Ent → Bool
  | .blk _ cs => AV.nm.nmL mv cs
  | .row .. => true
  | .pub .. => true
  | .dead => true
def nmH (mv : Option Nat) : List (Nat × Ent) → Bool
  | [] => true
  | (k, e) :: l => match okK mv k with
    | false => false
    | true => match Ent.nm mv e with
      | false => false
      | true => nmH mv l
theorem nmH_at {mv : Option Nat} {k : Nat} {e : Ent} : ∀ {l : List (Nat × Ent)}, nmH mv l = true → lk k l = some e → okK mv k = true ∧ e.nm mv = true
  | [], _, h => by cases h
  | (j, e') :: l, hn, h => by
    rw [lk_cons] at h
    unfold nmH at hn
    split at hn
    · cases hn
    rename_i h1
    split at hn
    · cases hn
    rename_i h2
    split at h
    · rename_i hj; subst hj; cases h; exact ⟨h1, h2⟩
    · exact nmH_at hn h
theorem EntOk.nm {mv : Option Nat} {ρ ρf : Env} (hf : ∀ k, kp k = true → ρf k = ρ k) {M : Mem} {w : World} {k : Nat} {e : Ent} (h : EntOk ρf M w k e) (hk : okK mv k = true) (hn : e.nm mv = true) : EntOk (updO mv ρ ρf) M w k e := by
  have hr := okK_eq (ρ := ρ) (ρf := ρf) hk hf
  generalize hρ : (updO mv ρ ρf) = ρ' at hr ⊢
  cases e with
  | blk t cs =>
    obtain ⟨g, vs, h1, h2, h3, h4⟩ := h
    refine ⟨g, vs, by rw [hr]; exact h1, h2, h3, fun i c v hc hv => ?_⟩
    have := (h4 i c v hc hv).nm (mv := mv) (ρ := ρ) hf (AV.nmL_at hn i c hc)
    rwa [hρ] at this
  | row E s n f =>
    obtain ⟨xs, h1, h2⟩ := h
    exact ⟨xs, by rw [hr]; exact h1, h2⟩
  | pub s n f =>
    show DenD M (.lst s n f) (.slice (addrOf (ρ' k).1) n (ρ' k).2)
    rw [hr]; exact h
  | dead => trivial

def nmAll (mv : Option Nat) (r : AV) (H' : List (Nat × Ent)) : Bool := match AV.nm mv r with
  | true => nmH mv H'
  | false => false
def big5 : List (Nat × Ent) → Bool
  | [] => true
  | (k, _) :: l => match Nat.ble 5000 k with
    | true => big5 l
    | false => false
theorem big5_at {k : Nat} {e : Ent} : ∀ {l : List (Nat × Ent)}, big5 l = true → lk k l = some e → 5000 ≤ k
  | [], _, h => by cases h
  | (j, e') :: l, hb, h => by
    rw [lk_cons] at h
    unfold big5 at hb
    split at hb
    · rename_i h1
      split at h
      · rename_i hj; subst hj; exact Nat.le_of_ble_eq_true h1
      · exact big5_at hb h
    · cases hb
/-- THE CONTRACT OF A FUNCTION THAT IS HANDED OWN BLOCKS. -/
theorem HC.of {X : Cx} (hX : X.ok) {f : FuncId} {fn : Func} {c : Code} {n : Nat} {rs : List ResultVar} {args : List AV} {H : List (Nat × Ent)} {r : AV} {H' : List (Nat × Ent)} {mv : Option Nat} (hf : X.P.funcs[f]? = some fn) (hb : fn.body = some c) (hnm : (fn.name == "runtime.NumGoroutine") = false) (hn : fn.ntmps = n) (hrs : fn.results = rs.toArray) (hna : args.length ≤ n)
    (h5 : big5 H = true) (hk : nmAll mv r H' = true)
    (h : W X n c ⟨argsF args 0, H⟩ fun e st => match e with
      | .ret => resH X st H' rs r
      | .normal => resH X st H' rs r
      | _ => False) (hn5 : n ≤ 5000 := by exact Nat.le_of_ble_eq_true rfl) : HC X f args H r H' mv := by
  have hk1 : r.nm mv = true ∧ nmH mv H' = true := by
    unfold nmAll at hk
    split at hk
    · rename_i h1; exact ⟨h1, hk⟩
    · cases hk
  refine ⟨⟨fn, hf, by rw [hb]; rfl, hnm⟩, fun M w ρ vs hg hp hl hd hH => ?_⟩
  refine calls_of_wp hf hb ?_
  have hsim : Sim X ⟨n, hn5, w, M, blocksOf ρ H, ρ, fun k g => blkOf ρ H k = some g, fun k g h => blkOf_mem h⟩ ρ M ⟨argsF args 0, H⟩ { tmps := vs.toArray ++ Array.replicate (fn.ntmps - vs.toArray.size) undef, defers := [] } w := by
    refine ⟨?_, rfl, Chg.refl _ _, Mem.le_refl _, hg, fun p v hp => .inl hp, hp, fun t => ?_, hH.ents, fun r e g he ho hgr => .inr ⟨big5_at h5 he, blkOf_of he ho hgr⟩, hH.apart, hH.sep, fun _ _ => rfl, fun _ => Nat.le_refl _⟩
    · simp [hn]
      have : vs.length ≤ n := by omega
      omega
    · have hget : (⟨argsF args 0, H⟩ : St).get t = match args[t]? with
        | some c => c
        | none => .junk := by
        unfold St.get
        rw [argsF_lk, if_pos (Nat.zero_le _), Nat.sub_zero]
        cases args[t]? <;> rfl
      rw [hget]
      cases ha : args[t]? with
      | none => exact .junk _
      | some c =>
        have hlt : t < vs.length := by
          have := (List.getElem?_eq_some_iff.1 ha).1
          omega
        have hv : (vs.toArray ++ Array.replicate (fn.ntmps - vs.toArray.size) undef).getD t undef = vs[t] := by
          simp [Array.getElem?_append, hlt]
        simp only [hv]
        exact hd t c vs[t] ha (by simp [hlt])
  have fin : ∀ {st' : St} {ρ' : Env} {M' : Mem} {a' : Act} {w' : World}, resH X st' H' rs r → Sim X ⟨n, hn5, w, M, blocksOf ρ H, ρ, fun k g => blkOf ρ H k = some g, fun k g h => blkOf_mem h⟩ ρ' M' st' a' w' → a'.defers = [] ∧ ∃ v, (results fn a'.tmps).run X.P w' = .ok v w' ∧ ∃ v_1 ρ2 M2, Ending.returned v = .returned v_1 ∧ HPost X.dr ρ M w H ρ2 M2 w' r H' mv v_1 := by
    intro st' ρ' M' a' w' hres hs
    obtain ⟨hh, v, hv, hden⟩ := resH_run hX hs hrs hres
    refine ⟨hs.defers, v, hv, v, (updO mv ρ ρ'), endH ⟨n, hn5, w, M, blocksOf ρ H, ρ, fun k g => blkOf ρ H k = some g, fun k g h => blkOf_mem h⟩ M' w' (blocksOf ρ' H'), rfl, hden.nm hs.fix hk1.1, Mem.le_trans hs.m0 (endH_le _ _ _ _), fun p u hp => ?_, endH_ok hs.pub, hs.chg, ⟨fun k e he => ?_, fun k k' e e' he he' ho ho' hne g hg1 hg2 => ?_, fun k e g p u he ho hg1 hp => ?_⟩, fun k e g he ho hg1 => ?_, fun k hk2 => ?_, hs.drn⟩
    · rcases endH_fresh hp with h1 | h1
      · exact hs.fresh p u h1
      · exact .inr h1.1
    · obtain ⟨e0, h1, h2, h3⟩ := leH_ent hh k e he
      obtain ⟨k1, k2⟩ := nmH_at hk1.2 he
      exact ((h2 _ _ _ _ (hs.ents k e0 h1)).keep (endH_le _ M' w' _) rfl (fun _ _ => rfl) (fun _ _ _ _ => rfl)).nm hs.fix k1 k2
    · obtain ⟨e0, h1, h2, h3⟩ := leH_ent hh k e he
      obtain ⟨e0', h1', h2', h3'⟩ := leH_ent hh k' e' he'
      rw [okK_eq (nmH_at hk1.2 he).1 hs.fix] at hg1
      rw [okK_eq (nmH_at hk1.2 he').1 hs.fix] at hg2
      exact hs.apart k k' e0 e0' h1 h1' (by rw [← h3]; exact ho) (by rw [← h3']; exact ho') hne g hg1 hg2
    · obtain ⟨e0, h1, h2, h3⟩ := leH_ent hh k e he
      rw [okK_eq (nmH_at hk1.2 he).1 hs.fix] at hg1
      rcases endH_fresh hp with h4 | h4
      · exact hs.sep k e0 g p u h1 (by rw [← h3]; exact ho) hg1 h4
      · exact fun e => h4.2 (by rw [e]; exact blocksOf_of he ho hg1)
    · obtain ⟨e0, h1, h2, h3⟩ := leH_ent hh k e he
      rw [okK_eq (nmH_at hk1.2 he).1 hs.fix] at hg1
      rcases hs.own k e0 g h1 (by rw [← h3]; exact ho) hg1 with h4 | h4
      · exact .inl h4
      · exact .inr h4.2
    · cases mv with
      | none => rfl
      | some m => exact upd_ne _ (fun e => hk2 (by rw [e])) _
  refine wp_mono (h.out hX ⟨n, hn5, w, M, blocksOf ρ H, ρ, fun k g => blkOf ρ H k = some g, fun k g h => blkOf_mem h⟩ rfl _ M _ w hsim) fun e a' w' ⟨st', ρ', M', hq, hs⟩ => ?_
  cases e with
  | normal => exact fin hq hs
  | ret => exact fin hq hs
  | _ => exact hq.elim

/-! ### Calls -/
/-- The own blocks that are handed over. -/
def haveH (st : St) : List (Nat × Ent) → Prop
  | [] => True
  | (k, e) :: l => (∃ e0, st.ent k = some e0 ∧ EntLe e0 e ∧ e.owned = e0.owned) ∧ haveH st l
theorem haveH_at {st : St} {k : Nat} {e : Ent} : ∀ {l : List (Nat × Ent)}, haveH st l → lk k l = some e → ∃ e0, st.ent k = some e0 ∧ EntLe e0 e ∧ e.owned = e0.owned
  | [], _, h => by cases h
  | (j, e') :: l, hh, h => by
    rw [lk_cons] at h
    split at h
    · rename_i hj; subst hj; cases h; exact hh.1
    · exact haveH_at hh.2 h
theorem haveH.heap {X : Cx} {R : Run} {ρ : Env} {M : Mem} {st : St} {a : Act} {w : World} (h : Sim X R ρ M st a w) {H : List (Nat × Ent)} (hh : haveH st H) : HeapOk ρ M w H where
  ents k e he := by
    obtain ⟨e0, h1, h2, h3⟩ := haveH_at hh he
    exact h2 _ _ _ _ (h.ents k e0 h1)
  apart k k' e e' he he' ho ho' := by
    obtain ⟨e0, h1, h2, h3⟩ := haveH_at hh he
    obtain ⟨e0', h1', h2', h3'⟩ := haveH_at hh he'
    exact h.apart k k' e0 e0' h1 h1' (by rw [← h3]; exact ho) (by rw [← h3']; exact ho')
  sep k e g p v he ho := by
    obtain ⟨e0, h1, h2, h3⟩ := haveH_at hh he
    exact h.sep k e0 g p v h1 (by rw [← h3]; exact ho)
theorem haveH.blocks {X : Cx} {R : Run} {ρ : Env} {M : Mem} {st : St} {a : Act} {w : World} (h : Sim X R ρ M st a w) {H : List (Nat × Ent)} (hh : haveH st H) {g : Nat} (hg : g ∈ blocksOf ρ H) : ∃ k e e0, lk k H = some e ∧ st.ent k = some e0 ∧ e0.owned = true ∧ (ρ k).1 = some g := by
  obtain ⟨k, e, h1, h2, h3⟩ := blocksOf_mem hg
  obtain ⟨e0, h4, h5, h6⟩ := haveH_at hh h1
  exact ⟨k, e, e0, h1, h4, by rw [← h6]; exact h2, h3⟩

/-- The call itself. -/
theorem HC.run {X : Cx} {f : FuncId} {args : List AV} {H : List (Nat × Ent)} {r : AV} {H' : List (Nat × Ent)} {mv : Option Nat} (hC : HC X f args H r H' mv) {cs : List AV} (ha : AVsLe cs args) {st : St} (hh : haveH st H)
    {o : Oper} {cl : Operand} {as : Array Operand} {ts : Array TypeId} (ho : o.op = .call { callee := .value cl, args := as, argTypes := ts }) (hcl : st.ev X cl = .dat (.val (.func (.func f) #[] #[]))) (hcs : as.toList.map (st.ev X) = cs)
    {R : Run} {ρ : Env} {M : Mem} {a : Act} {w : World} (h : Sim X R ρ M st a w) {K : Act → World → Prop} {Q : Exit → Act → World → Prop} (hk : ∀ v ρ' M' w', HPost X.dr ρ M w H ρ' M' w' r H' mv v → K (a.put o.dst v) w') : o.wp X.P a w K Q := by
  obtain ⟨hl, hat⟩ := AVsLe_at ha
  have hlen : args.length = (as.map a.eval).toList.length := by rw [hl, ← hcs]; simp
  have hc := hC.out M w ρ (as.map a.eval).toList (Cx.glob_mono h.m0 h.g0) h.pub hlen (fun i d v h1 h2 => by
    obtain ⟨c, e1, e2⟩ := hat i d h1
    rw [← hcs] at e1
    obtain ⟨v', e3, e4⟩ := args_den h as i c e1
    rw [h2] at e3; cases e3
    exact e2 ρ M v e4) (haveH.heap h hh)
  rw [Array.toArray_toList] at hc
  unfold Oper.wp
  rw [run_call ho hC.fn a (val_of (hcl ▸ h.ev cl)), Oper.upon_enter]
  refine hc.mono fun e w' ⟨v, ρ', M', he, hP⟩ => ?_
  subst he
  exact hk v ρ' M' w' hP

def junkO (m : Option Nat) (c : AV) : AV := match m with
  | none => c
  | some r => AV.junkR r c
def junkFO (m : Option Nat) (fr : List (Nat × AV)) : List (Nat × AV) := match m with
  | none => fr
  | some r => junkF r fr
def junkHO (m : Option Nat) (hp : List (Nat × Ent)) : List (Nat × Ent) := match m with
  | none => hp
  | some r => junkH r hp
def appH : List (Nat × Ent) → List (Nat × Ent) → List (Nat × Ent)
  | [], hp => hp
  | q :: l, hp => q :: appH l hp
theorem lk_appH (k : Nat) (hp : List (Nat × Ent)) : ∀ l : List (Nat × Ent), lk k (appH l hp) = (match lk k l with
    | some e => some e
    | none => lk k hp)
  | [] => rfl
  | (j, e) :: l => by
    simp only [appH, lk_cons, lk_appH k hp l]
    by_cases h : j = k
    · rw [if_pos h, if_pos h]
    · rw [if_neg h, if_neg h]
def subK (H' : List (Nat × Ent)) : List (Nat × Ent) → Bool
  | [] => true
  | (k, _) :: l => match inK k H' with
    | true => subK H' l
    | false => false
theorem inK_true {k : Nat} : ∀ {l : List (Nat × Ent)}, inK k l = true → ∃ e, lk k l = some e
  | [], h => by cases h
  | (j, e) :: l, h => by
    unfold inK at h
    rw [lk_cons]
    by_cases hj : j = k
    · exact ⟨e, if_pos hj⟩
    · rw [if_neg hj]
      split at h
      · rename_i hb; exact absurd (Nat.eq_of_beq_eq_true hb) hj
      · exact inK_true h
theorem subK_at {H' : List (Nat × Ent)} {k : Nat} {e : Ent} : ∀ {l : List (Nat × Ent)}, subK H' l = true → lk k l = some e → ∃ e', lk k H' = some e'
  | [], _, h => by cases h
  | (j, e') :: l, hs, h => by
    rw [lk_cons] at h
    unfold subK at hs
    split at hs
    · rename_i h1
      split at h
      · rename_i hj; subst hj; exact inK_true h1
      · exact subK_at hs h
    · cases hs
def mvOk (mv : Option Nat) (H' : List (Nat × Ent)) : Bool := match mv with
  | none => true
  | some m => match kp m with
    | true => false
    | false => inK m H'
theorem Sim.called {X : Cx} {R : Run} {ρ ρ' : Env} {M M' : Mem} {st : St} {a : Act} {w w' : World} {H H' : List (Nat × Ent)} {r : AV} {mv : Option Nat} {v : Value} {d : Option Nat} (h : Sim X R ρ M st a w) (hh : haveH st H) (hP : HPost X.dr ρ M w H ρ' M' w' r H' mv v)
    (hsub : subK H' H = true) (hmv : mvOk mv H' = true) (hd : ∀ t, d = some t → t < R.n) : Sim X R ρ' M' ⟨slotL d r (junkFO mv st.fr), appH H' (junkHO mv st.hp)⟩ (a.put d v) w' := by
  have hne : ∀ k, mv ≠ some k → ρ' k = ρ k := hP.env
  have hden : ∀ {c : AV} {u : Value}, DenA ρ M c u → DenA ρ' M' (junkO mv c) u := fun {c u} hc => by
    cases mv with
    | none => exact hc.keep hP.mem fun k _ => hne k (by simp)
    | some m => exact AV.junkR_den hP.mem (fun k hk => hne k (fun e => hk (Option.some.inj e).symm)) hc
  have hgetj : ∀ t, (⟨junkFO mv st.fr, st.hp⟩ : St).get t = junkO mv (st.get t) := fun t => by
    cases mv with
    | none => rfl
    | some m => exact get_junk m st st.hp t
  have hents : ∀ k e, lk k (appH H' (junkHO mv st.hp)) = some e → lk k H' = some e ∨ (lk k H' = none ∧ lk k H = none ∧ mv ≠ some k ∧ ∃ e0, st.ent k = some e0 ∧ e.owned = e0.owned ∧ (mv = none ∧ e = e0 ∨ ∃ m, mv = some m ∧ e = Ent.junkR m e0)) := fun k e he => by
    rw [lk_appH] at he
    cases hq : lk k H' with
    | some e' => rw [hq] at he; exact .inl he
    | none =>
      rw [hq] at he
      refine .inr ⟨rfl, ?_, ?_, ?_⟩
      · cases hH : lk k H with
        | none => rfl
        | some e1 => obtain ⟨e', h1⟩ := subK_at hsub hH; rw [hq] at h1; cases h1
      · intro e1
        subst e1
        unfold mvOk at hmv
        split at hmv
        · rename_i h1; cases h1
        · rename_i m h1
          cases h1
          split at hmv
          · cases hmv
          · obtain ⟨e', h2⟩ := inK_true hmv
            rw [hq] at h2; cases h2
      · cases mv with
        | none => exact ⟨e, he, rfl, .inl ⟨rfl, rfl⟩⟩
        | some m =>
          have he' : lk k (junkH m st.hp) = some e := he
          unfold junkH at he'
          rw [lk_map] at he'
          cases hl : lk k st.hp with
          | none => rw [hl] at he'; cases he'
          | some e0 => rw [hl] at he'; cases he'; exact ⟨e0, hl, Ent.junkR_owned m e0, .inr ⟨m, rfl, rfl⟩⟩
  have hoff : ∀ k e0 g, st.ent k = some e0 → e0.owned = true → (ρ k).1 = some g → lk k H = none → g ∉ blocksOf ρ H := fun k e0 g he ho hg hn hm => by
    obtain ⟨j, e1, e2, h1, h2, h3, h4⟩ := haveH.blocks h hh hm
    refine h.apart k j e0 e2 he h2 ho h3 (fun e => ?_) g hg h4
    subst e
    rw [hn] at h1; cases h1
  have hnew : ∀ k e g, lk k H' = some e → e.owned = true → (ρ' k).1 = some g → ∀ k2 e2, st.ent k2 = some e2 → e2.owned = true → lk k2 H = none → (ρ k2).1 ≠ some g := fun k e g he ho hg k2 e2 he2 ho2 hn2 hg2 => by
    rcases hP.own k e g he ho hg with h1 | h1
    · have := (h.ents k2 e2 he2).lt ho2 g hg2
      omega
    · exact hoff k2 e2 g he2 ho2 hg2 hn2 (blkOf_mem h1)
  refine ⟨by rw [put_sz]; exact h.size, by rw [put_df]; exact h.defers, h.chg.trans hP.chg (fun g hg hlt => ?_), Mem.le_trans h.m0 hP.mem, h.g0, fun p u hp => ?_, hP.pub, fun t => ?_, fun k e he => ?_, fun k e g he ho hg => ?_, fun k k' e e' he he' ho ho' hkk g hg hg' => ?_, fun k e g p u he ho hg hp => ?_, fun k hk => ?_, fun hd => Nat.le_trans (h.drn hd) (hP.drn hd)⟩
  · obtain ⟨k, e, e0, h1, h2, h3, h4⟩ := haveH.blocks h hh hg
    rcases h.own k e0 g h2 h3 h4 with h5 | h5
    · omega
    · exact R.hsub _ _ h5.2
  · rcases hP.fresh p u hp with h1 | h1
    · exact h.fresh p u h1
    · have := h.chg.size; exact .inr (by omega)
  · have hbase : ∀ t, DenA ρ' M' ((⟨junkFO mv st.fr, appH H' (junkHO mv st.hp)⟩ : St).get t) (a.tmps.getD t undef) := fun t => by
      have : (⟨junkFO mv st.fr, appH H' (junkHO mv st.hp)⟩ : St).get t = (⟨junkFO mv st.fr, st.hp⟩ : St).get t := rfl
      rw [this, hgetj]
      exact hden (h.slots t)
    cases d with
    | none => exact hbase t
    | some u =>
      have e1 := St.get_cons ⟨junkFO mv st.fr, st.hp⟩ u r (appH H' (junkHO mv st.hp)) t
      show DenA ρ' M' ((⟨(u, r) :: junkFO mv st.fr, appH H' (junkHO mv st.hp)⟩ : St).get t) _
      rw [e1, put_get a u v (by rw [h.size]; exact hd u rfl)]
      by_cases hu : u = t
      · rw [if_pos hu, if_pos hu]; exact hP.den
      · rw [if_neg hu, if_neg hu]; exact hbase t
  · rcases hents k e he with h1 | ⟨h1, hH, hm, e0, h2, h3, h4⟩
    · exact hP.heap.ents k e h1
    · have h0 := h.ents k e0 h2
      have hb : ∀ g, e0.owned = true → (ρ k).1 = some g → g < w.heap.size → w'.heap[g]? = w.heap[g]? := fun g ho hg hlt => hP.chg.block g hlt (hoff k e0 g h2 ho hg hH)
      rcases h4 with ⟨hm0, rfl⟩ | ⟨m, hm1, rfl⟩
      · exact h0.keep hP.mem (hne k hm) (fun j _ => hne j (by rw [hm0]; simp)) hb
      · cases e0 with
        | blk t cs =>
          obtain ⟨g, vs, e1, e3, e4, e5⟩ := h0
          refine ⟨g, vs, by rw [hne k hm]; exact e1, by rw [hb g rfl e1 (Array.getElem?_eq_some_iff.1 e3).1]; exact e3, by simpa using e4, fun i c u hi hu => ?_⟩
          rw [List.getElem?_map] at hi
          cases hci : cs[i]? with
          | none => rw [hci] at hi; cases hi
          | some c0 =>
            rw [hci] at hi; cases hi
            have := hden (e5 i c0 u hci hu)
            rw [hm1] at this
            exact this
        | row E' s' n' f' => exact h0.keep hP.mem (hne k hm) (fun _ hu => by cases hu) hb
        | pub s' n' f' => exact h0.keep hP.mem (hne k hm) (fun _ hu => by cases hu) hb
        | dead => trivial
  · rcases hents k e he with h1 | ⟨h1, hH, hm, e0, h2, h3, h4⟩
    · rcases hP.own k e g h1 ho hg with h5 | h5
      · have := h.chg.size; exact .inl (by omega)
      · obtain ⟨e1, k1, k2, k3⟩ := blkOf_inv h5
        obtain ⟨e0, k4, _, k5⟩ := haveH_at hh k1
        exact h.own k e0 g k4 (by rw [← k5]; exact k2) k3
    · rw [hne k hm] at hg
      exact h.own k e0 g h2 (by rw [← h3]; exact ho) hg
  · rcases hents k e he with h1 | ⟨h1, hH, hm, e0, h2, h3, h4⟩
    · rcases hents k' e' he' with h1' | ⟨h1', hH', hm', e0', h2', h3', h4'⟩
      · exact hP.heap.apart k k' e e' h1 h1' ho ho' hkk g hg hg'
      · rw [hne k' hm'] at hg'
        exact hnew k e g h1 ho hg k' e0' h2' (by rw [← h3']; exact ho') hH' hg'
    · rw [hne k hm] at hg
      rcases hents k' e' he' with h1' | ⟨h1', hH', hm', e0', h2', h3', h4'⟩
      · exact hnew k' e' g h1' ho' hg' k e0 h2 (by rw [← h3]; exact ho) hH hg
      · rw [hne k' hm'] at hg'
        exact h.apart k k' e0 e0' h2 h2' (by rw [← h3]; exact ho) (by rw [← h3']; exact ho') hkk g hg hg'
  · rcases hents k e he with h1 | ⟨h1, hH, hm, e0, h2, h3, h4⟩
    · exact hP.heap.sep k e g p u h1 ho hg hp
    · rw [hne k hm] at hg
      rcases hP.fresh p u hp with h5 | h5
      · exact h.sep k e0 g p u h2 (by rw [← h3]; exact ho) hg h5
      · have := (h.ents k e0 h2).lt (by rw [← h3]; exact ho) g hg
        omega
  · refine (hne k fun e => ?_).trans (h.fix k hk)
    subst e
    unfold mvOk at hmv
    simp only [hk] at hmv
    cases hmv

/-- The description after such a call. -/
def calledK (n : Nat) (st : St) (d : Option Nat) (r : AV) (H H' : List (Nat × Ent)) (mv : Option Nat) (K : St → Prop) : Prop := match subK H' H with
  | false => False
  | true => match mvOk mv H' with
    | false => False
    | true => match d with
      | none => st.un fun fr hp => K ⟨junkFO mv fr, appH H' (junkHO mv hp)⟩
      | some t => match Nat.ble (t + 1) n with
        | false => False
        | true => force r fun r => st.un fun fr hp => K ⟨(t, r) :: junkFO mv fr, appH H' (junkHO mv hp)⟩
theorem ExCall.byH {X : Cx} {n : Nat} {st : St} {d : Option Nat} {f : FuncId} {cs args : List AV} {H H' : List (Nat × Ent)} {r : AV} {mv : Option Nat} {K : St → Prop} (hC : HC X f args H r H' mv) (ha : AVsLe cs args) (hh : haveH st H) (hk : calledK n st d r H H' mv K) : ExCall X n st d f cs K := by
  constructor
  intro o cl as ts ho hcl hcs hd R hn ρ M a w hs K' Q hK'
  unfold calledK at hk
  split at hk
  · exact hk.elim
  rename_i hsub
  split at hk
  · exact hk.elim
  rename_i hmv
  refine hC.run ha hh ho hcl hcs hs fun v ρ' M' w' hP => ?_
  subst hd
  split at hk
  · rename_i hdn
    have := hs.called (d := none) hh hP hsub hmv (fun t ht => by cases ht)
    rw [hdn]
    exact hK' _ _ _ _ _ hk this
  · rename_i t hdt
    split at hk
    · exact hk.elim
    rename_i hb
    have hb := Nat.le_of_ble_eq_true hb
    rw [force_eq] at hk
    have := hs.called (d := some t) hh hP hsub hmv (fun t' ht => by cases ht; omega)
    rw [hdt]
    exact hK' _ _ _ _ _ hk this

def isH (st : St) : List (Nat × Ent) → Prop
  | [] => True
  | (k, e) :: l => st.ent k = some e ∧ isH st l
theorem isH.have {st : St} : ∀ {l : List (Nat × Ent)}, isH st l → haveH st l
  | [], _ => trivial
  | (k, e) :: l, h => ⟨⟨e, h.1, EntLe.refl e, rfl⟩, h.2.have⟩
theorem AVsLe.refl : ∀ l : List AV, AVsLe l l
  | [] => trivial
  | c :: l => ⟨AVle.refl c, AVsLe.refl l⟩
/-- A call, its blocks' names by a table. -/
theorem ExCall.h {X : Cx} {n : Nat} {st : St} {d : Option Nat} {f : FuncId} {cs args : List AV} {H H' : List (Nat × Ent)} {r : AV} {mv : Option Nat} {K : St → Prop} (l : List (Nat × Nat)) (hl : injB l = true) (hC : HC X f args H r H' mv) (ha : cs = AV.ren.renL (rnm l) args) (hh : isH st (renH (rnm l) H))
    (hk : calledK n st d (r.ren (rnm l)) (renH (rnm l) H) (renH (rnm l) H') (renMv (rnm l) mv) K) : ExCall X n st d f cs K :=
  ExCall.byH (hC.ren l hl) (ha ▸ AVsLe.refl _) hh.have hk

theorem HPost.fext {dr : Bool} {ρ : Env} {M : Mem} {w : World} {ρ' : Env} {M' : Mem} {w' : World} {r : AV} {mv : Option Nat} {v : Value} {d : Option Nat} {q : Nat} {e e' : Ent} (hP : HPost dr ρ M w [(q, e)] ρ' M' w' r [(q, e')] mv v) (hmv : ∀ m, mv = some m → m = q) :
    FExt dr ρ M w ρ' M' w' d (some q) ⟨r, some (e', mv.isSome)⟩ true v where
  env k hk := hP.env k fun h => by
    have := hmv k h
    subst this
    exact hk rfl
  keep hn := by
    cases mv with
    | none => funext k; exact hP.env k (by simp)
    | some m => exact absurd rfl (hn e')
  mem := hP.mem
  fresh := hP.fresh
  pubN p u hp := .inr (hP.pub p u hp)
  os := hP.chg.os
  tape := hP.chg.tape
  output := hP.chg.output
  size := hP.chg.size
  block k hk hn := hP.chg.block k hk fun hm => by
    obtain ⟨j, e1, h1, h2, h3⟩ := blocksOf_mem hm
    rw [lk_cons] at h1
    split at h1
    · rename_i hj; subst hj; exact hn rfl q rfl h3
    · cases h1
  den := hP.den
  drn := hP.drn
  ent q' e1 b hq he := by
    cases hq
    cases he
    have hl : lk q [(q, e')] = some e' := by rw [lk_cons, if_pos rfl]
    refine ⟨hP.heap.ents q e' hl, fun ho g hg => ?_⟩
    rcases hP.own q e' g hl ho hg with h1 | h1
    · exact .inl ⟨h1, fun p u hp => hP.heap.sep q e' g p u hl ho hg hp⟩
    · obtain ⟨_, _, _, h2⟩ := blkOf_inv h1
      exact .inr ⟨rfl, h2⟩
/-- The same in a region that draws: one block is handed over. -/
theorem CallK.h {X : Cx} {st : St} {d : Option Nat} {f : FuncId} {cs args : List AV} {q q' : Nat} {e e' : Ent} {r : AV} {mv : Option Nat} {K : Option Nat → Fx → Prop} (l : List (Nat × Nat)) (hl : injB l = true) (hC : HC X f args [(q, e)] r [(q', e')] mv) (hq : Nat.beq q q' = true) (ha : cs = AV.ren.renL (rnm l) args) (hh : isH st (renH (rnm l) [(q, e)]))
    (ho : e.owned = true) (hmv : (match mv with
      | none => true
      | some m => match kp (rnm l q) with
        | true => false
        | false => Nat.beq m q) = true) (hk : K (some (rnm l q)) ⟨r.ren (rnm l), some (e'.ren (rnm l), mv.isSome)⟩) : CallK X st d f cs K := by
  obtain rfl := Nat.eq_of_beq_eq_true hq
  refine ⟨some (rnm l q), ⟨r.ren (rnm l), some (e'.ren (rnm l), mv.isSome)⟩, fun o cl as ts hop hcl hcs hd => ?_, hk⟩
  have hmv' : ∀ m, renMv (rnm l) mv = some m → m = rnm l q := fun m hm => by
    cases mv with
    | none => cases hm
    | some m' =>
      cases hm
      simp only at hmv
      split at hmv
      · cases hmv
      · rw [Nat.eq_of_beq_eq_true hmv]
  have hsome : (renMv (rnm l) mv).isSome = mv.isSome := by cases mv <;> rfl
  refine ⟨fun h => (by cases h), fun e1 q1 h1 h2 => ?_, true, fun _ h => (by cases h), fun _ => ⟨rnm l q, _, rfl, hh.1, by rw [Ent.ren_owned]; exact ho⟩, fun R ρ M a w hs K' Q hK' => ?_⟩
  · cases h2
    refine .inl ?_
    cases mv with
    | none => cases h1
    | some m =>
      simp only at hmv
      split at hmv
      · cases hmv
      · assumption
  · refine (hC.ren l hl).run (ha ▸ AVsLe.refl _) hh.have hop hcl hcs hs fun v ρ' M' w' hP => ?_
    have := hP.fext (d := o.dst) hmv'
    rw [hsome] at this
    exact hK' v ρ' M' w' this
theorem HPost.fextN {dr : Bool} {ρ : Env} {M : Mem} {w : World} {ρ' : Env} {M' : Mem} {w' : World} {r : AV} {v : Value} {d : Option Nat} {q : Nat} {e' : Ent} (hP : HPost dr ρ M w [] ρ' M' w' r [(q, e')] (some q) v) :
    FExt dr ρ M w ρ' M' w' d (some q) ⟨r, some (e', true)⟩ false v where
  env k hk := hP.env k hk
  keep hn := absurd rfl (hn e')
  mem := hP.mem
  fresh := hP.fresh
  pubN p u hp := .inr (hP.pub p u hp)
  os := hP.chg.os
  tape := hP.chg.tape
  output := hP.chg.output
  size := hP.chg.size
  block k hk hn := hP.chg.block k hk fun hm => by
    obtain ⟨j, e1, h1, h2, h3⟩ := blocksOf_mem hm
    cases h1
  den := hP.den
  drn := hP.drn
  ent q' e1 b hq he := by
    cases hq
    cases he
    have hl : lk q [(q, e')] = some e' := by rw [lk_cons, if_pos rfl]
    refine ⟨hP.heap.ents q e' hl, fun ho g hg => ?_⟩
    rcases hP.own q e' g hl ho hg with h1 | h1
    · exact .inl ⟨h1, fun p u hp => hP.heap.sep q e' g p u hl ho hg hp⟩
    · obtain ⟨_, h2, _, _⟩ := blkOf_inv h1
      cases h2
/-- The same where the result is a new own block. -/
theorem CallK.hn {X : Cx} {st : St} {d : Option Nat} {f : FuncId} {cs args : List AV} {q q' : Nat} {e' : Ent} {r : AV} {K : Option Nat → Fx → Prop} (l : List (Nat × Nat)) (hl : injB l = true) (hC : HC X f args [] r [(q, e')] (some q')) (hq : Nat.beq q q' = true) (ha : cs = AV.ren.renL (rnm l) args) (hd : d = some (rnm l q))
    (hk : K (some (rnm l q)) ⟨r.ren (rnm l), some (e'.ren (rnm l), true)⟩) : CallK X st d f cs K := by
  obtain rfl := Nat.eq_of_beq_eq_true hq
  refine ⟨some (rnm l q), ⟨r.ren (rnm l), some (e'.ren (rnm l), true)⟩, fun o cl as ts hop hcl hcs hdo => ?_, hk⟩
  refine ⟨fun h => (by cases h), fun e1 q1 h1 h2 => .inr (by rw [hdo, hd]; exact h2), false, fun h => (by cases h), fun h => (by cases h), fun R ρ M a w hs K' Q hK' => ?_⟩
  refine (hC.ren l hl).run (ha ▸ AVsLe.refl _) (H := []) trivial hop hcl hcs hs fun v ρ' M' w' hP => ?_
  exact hK' v ρ' M' w' (HPost.fextN (d := o.dst) hP)

theorem ResLe.row0 {X : Cx} {st : St} {r s n : Nat} {f : Nat → Nat → D} (hr : rowOf (st.ent r) s = some (n, f)) : ResLe X st (.own r s 0 n) (.dat (.lst s n f)) := ResLe.own hr (by omega) fun i hi j hj => by rw [Nat.zero_add]; exact Dle.refl _
theorem ResH.row0 {X : Cx} {st : St} {H' : List (Nat × Ent)} {r s n : Nat} {f : Nat → Nat → D} (hr5 : Nat.ble 5000 r = false) (hk : inK r H' = false) (hr : rowOf (st.ent r) s = some (n, f)) : ResH X st H' (.own r s 0 n) (.dat (.lst s n f)) := ResH.own hr5 hk hr (by omega) fun i hi j hj => by rw [Nat.zero_add]; exact Dle.refl _
theorem AVle.own {r s lo n m : Nat} (h : n = m) : AVle (.own r s lo n) (.own r s lo m) := .of_eq (by rw [h])
theorem ArgsP.refl : ∀ {cs : List AV}, pureL cs = true → ArgsP cs cs
  | [], _ => trivial
  | c :: l, h => by
    unfold pureL at h
    split at h
    · rename_i hc
      exact ⟨ArgP.of (AVle.refl c) hc, ArgsP.refl h⟩
    · cases h
theorem CallA.d2 {X : Cx} {st : St} {f : FuncId} {ds : List AV} {r : AV} (hp : pureL ds = true) (hc : ACalls X f ds r) : CallA X st f ds r := CallA.data hc (ArgsP.refl hp)
/-! ### Loops that come to an end of their own -/
inductive Ends {σ : Type} (c : σ → Prop) (step : σ → σ) : σ → σ → Prop where
  | stop (s : σ) (h : ¬ c s) : Ends c step s s
  | go (s t : σ) (h : c s) (h' : Ends c step (step s) t) : Ends c step s t
theorem Ends.next {σ : Type} {c : σ → Prop} {step : σ → σ} {s t : σ} (h : Ends c step s t) (hc : c s) : Ends c step (step s) t := by
  cases h with
  | stop _ h => exact absurd hc h
  | go _ _ _ h' => exact h'
theorem Ends.done {σ : Type} {c : σ → Prop} {step : σ → σ} {s t : σ} (h : Ends c step s t) (hc : ¬ c s) : s = t := by
  cases h with
  | stop _ h => rfl
  | go _ _ h _ => exact absurd h hc
theorem Ends.ex {σ : Type} {c : σ → Prop} {step : σ → σ} (I : σ → Prop) (μ : σ → Nat) (hI : ∀ s, I s → c s → I (step s) ∧ μ (step s) < μ s) : ∀ (m : Nat) (s : σ), μ s ≤ m → I s → ∃ t, Ends c step s t ∧ I t ∧ ¬ c t := by
  intro m
  induction m with
  | zero =>
    intro s hm hs
    by_cases hc : c s
    · have := (hI s hs hc).2
      omega
    · exact ⟨s, .stop s hc, hs, hc⟩
  | succ m ih =>
    intro s hm hs
    by_cases hc : c s
    · obtain ⟨h1, h2⟩ := hI s hs hc
      obtain ⟨t, h3, h4⟩ := ih (step s) (by omega) h1
      exact ⟨t, .go s t hc h3, h4⟩
    · exact ⟨s, .stop s hc, hs, hc⟩
theorem Ends.of {σ : Type} {c : σ → Prop} {step : σ → σ} (I : σ → Prop) (μ : σ → Nat) (s : σ) (hs : I s) (hI : ∀ s, I s → c s → I (step s) ∧ μ (step s) < μ s) : ∃ t, Ends c step s t ∧ I t ∧ ¬ c t := Ends.ex I μ hI (μ s) s (Nat.le_refl _) hs

/-- A nil slice in a cell of an own block, as a row of one's own. -/
theorem W.adoptB {X : Cx} {n : Nat} {st : St} {Q : Exit → St → Prop} {c : Code} (b j r E s : Nat) (f : Nat → Nat → D) {T : TypeId} {cs : List AV} (hb : st.ent b = some (.blk T cs)) (hj : cs[j]? = some (.dat (.val (.slice none 0 0)))) (hf : cleanF r st.fr = true) (hh : cleanH r st.hp = true) (hr : AV.uses r (st.get r) = false) (hbr : Nat.beq b r = false)
    (h : St.un st fun fr hp => W X n c ⟨fr, (b, .blk T (cs.take j ++ [.own r s 0 0] ++ cs.drop (j + 1))) :: (r, .row E s 0 f) :: hp⟩ Q) (hkr : kp r = false := by exact rfl) : W X n c st Q := ⟨fun hX R hn ρ M a w hsim => by
  have hne : ∀ k, k ≠ r → upd ρ r (none, 0) k = ρ k := fun k hk => upd_ne ρ hk _
  have hbr' : b ≠ r := fun e => by subst e; rw [Nat.beq_refl] at hbr; cases hbr
  have hslot : ∀ u, AV.uses r (st.get u) = false := fun u => by
    by_cases hu : u = r
    · subst hu; exact hr
    · exact get_uses hf hu
  refine (show W X n c ⟨st.fr, (b, .blk T (cs.take j ++ [.own r s 0 0] ++ cs.drop (j + 1))) :: (r, .row E s 0 f) :: st.hp⟩ Q from h).out hX R hn (upd ρ r (none, 0)) M a w ?_
  have hents : ∀ k q, (⟨st.fr, (b, .blk T (cs.take j ++ [.own r s 0 0] ++ cs.drop (j + 1))) :: (r, .row E s 0 f) :: st.hp⟩ : St).ent k = some q → (k = b ∧ q = .blk T (cs.take j ++ [.own r s 0 0] ++ cs.drop (j + 1))) ∨ (k = r ∧ q = .row E s 0 f) ∨ (k ≠ r ∧ st.ent k = some q) := fun k q hq => by
    have hq' : lk k ((b, .blk T (cs.take j ++ [.own r s 0 0] ++ cs.drop (j + 1))) :: (r, .row E s 0 f) :: st.hp) = some q := hq
    rw [lk_cons] at hq'
    split at hq'
    · rename_i hrk; cases hq'; exact .inl ⟨hrk.symm, rfl⟩
    · rw [lk_cons] at hq'
      split at hq'
      · rename_i hrk; cases hq'; exact .inr (.inl ⟨hrk.symm, rfl⟩)
      · rename_i hrk; exact .inr (.inr ⟨fun e => hrk e.symm, hq'⟩)
  have hu : ∀ k q, k ≠ r → st.ent k = some q → ∀ i, q.uses i = true → i ≠ r := fun k q hk h1 i hi e => by
    subst e
    rw [cleanH_get hh hk q h1] at hi; cases hi
  have hjl : j < cs.length := (List.getElem?_eq_some_iff.1 hj).1
  refine ⟨hsim.size, hsim.defers, hsim.chg, hsim.m0, hsim.g0, hsim.fresh, hsim.pub, fun u => ?_, fun k q hq => ?_, fun k q g hq ho hg => ?_, fun k k' q q' hq hq' ho ho' hkk g hg hg' => ?_, fun k q g p v hq ho hg hp => ?_, fun k hk => (hne k fun e => by rw [e, hkr] at hk; cases hk).trans (hsim.fix k hk), hsim.drn⟩
  · exact (hsim.slots u).keep (Mem.le_refl _) fun k hk => hne k fun e => by subst e; rw [hslot u] at hk; cases hk
  · rcases hents k q hq with ⟨rfl, rfl⟩ | ⟨rfl, rfl⟩ | ⟨hk, h1⟩
    · obtain ⟨g, vs, e1, e3, e4, e5⟩ := (hsim.ents k _ hb).keep (ρ' := upd ρ r (none, 0)) (M' := M) (w' := w) (Mem.le_refl _) (hne k hbr') (fun i hi => hne i (hu k _ hbr' hb i hi)) fun _ _ _ _ => rfl
      refine ⟨g, vs, e1, e3, by simp; omega, fun i c' v hi hv => ?_⟩
      have hs := seg_at (l := cs) (vs := [AV.own r s 0 0]) (off := j) (i := i) (by simp; omega)
      simp only [List.length_cons, List.length_nil, Nat.zero_add] at hs
      rw [hs] at hi
      split at hi
      · rename_i hij
        obtain rfl : i = j := by omega
        simp at hi
        subst hi
        have h2 := val_of (e5 i _ v hj hv)
        subst h2
        have := DenA.own (ρ := upd ρ r (none, 0)) (M := M) r s 0 0
        rw [upd_same, partOf_zero] at this
        exact this
      · exact e5 i c' v hi hv
    · refine ⟨[], ?_, fun i hi => absurd hi (by omega)⟩
      rw [upd_same]
      exact World.ownsRow_nil w 0 E s
    · exact (hsim.ents k q h1).keep (Mem.le_refl _) (hne k hk) (fun i hi => hne i (hu k q hk h1 i hi)) fun _ _ _ _ => rfl
  · rcases hents k q hq with ⟨rfl, rfl⟩ | ⟨rfl, rfl⟩ | ⟨hk, h1⟩
    · rw [hne k hbr'] at hg; exact hsim.own k _ g hb rfl hg
    · rw [upd_same] at hg; cases hg
    · rw [hne k hk] at hg; exact hsim.own k q g h1 ho hg
  · have hown : ∀ {k q}, (⟨st.fr, (b, .blk T (cs.take j ++ [.own r s 0 0] ++ cs.drop (j + 1))) :: (r, .row E s 0 f) :: st.hp⟩ : St).ent k = some q → q.owned = true → (upd ρ r (none, 0) k).1 = some g → (ρ k).1 = some g ∧ ∃ e0, st.ent k = some e0 ∧ e0.owned = true := fun {k q} hq ho hg => by
      rcases hents k q hq with ⟨rfl, rfl⟩ | ⟨rfl, rfl⟩ | ⟨hk, h1⟩
      · rw [hne k hbr'] at hg; exact ⟨hg, _, hb, rfl⟩
      · rw [upd_same] at hg; cases hg
      · rw [hne k hk] at hg; exact ⟨hg, q, h1, ho⟩
    obtain ⟨h1, e0, h2, h3⟩ := hown hq ho hg
    obtain ⟨h1', e0', h2', h3'⟩ := hown hq' ho' hg'
    exact hsim.apart k k' e0 e0' h2 h2' h3 h3' hkk g h1 h1'
  · rcases hents k q hq with ⟨rfl, rfl⟩ | ⟨rfl, rfl⟩ | ⟨hk, h1⟩
    · rw [hne k hbr'] at hg; exact hsim.sep k _ g p v hb rfl hg hp
    · rw [upd_same] at hg; cases hg
    · rw [hne k hk] at hg; exact hsim.sep k q g p v h1 ho hg hp⟩

/-! ### Own rows that are made public -/
theorem Sim.publish {X : Cx} {R : Run} {ρ : Env} {M : Mem} {st : St} {a : Act} {w : World} {r s n : Nat} {E : TypeId} {f : Nat → Nat → D} (h : Sim X R ρ M st a w) (he : st.ent r = some (.row E s n f)) (hr : r < 5000) :
    ∃ M', Mem.le M M' ∧ Sim X R ρ M' ⟨st.fr, (r, .pub s n f) :: st.hp⟩ a w := by
  obtain ⟨M', hM'⟩ : ∃ M' : Mem, M' = fun p => match M p with
    | some v => some v
    | none => if (ρ r).1 = some p.block then allM w p else none := ⟨_, rfl⟩
  have hle : Mem.le M M' := fun p v hp => by rw [hM']; simp only [hp]
  have hnew : ∀ p v, M' p = some v → M p = some v ∨ ((ρ r).1 = some p.block ∧ allM w p = some v) := fun p v hp => by
    rw [hM'] at hp
    cases hm : M p with
    | some u => simp only [hm] at hp; cases hp; exact .inl rfl
    | none =>
      simp only [hm] at hp
      split at hp
      · rename_i hb; exact .inr ⟨hb, hp⟩
      · cases hp
  have hof : ∀ p v, (ρ r).1 = some p.block → w.cell? p = some v → v.oneCell' = true → M' p = some v := fun p v hb hc ho => by
    rw [hM']
    cases hm : M p with
    | some u =>
      have := (h.pub p u hm).1
      rw [hc] at this; cases this
      simp only [hm]
    | none =>
      simp only [hm, if_pos hb]
      exact allM_of hc ho
  have hents : ∀ k q, (⟨st.fr, (r, .pub s n f) :: st.hp⟩ : St).ent k = some q → (k = r ∧ q = .pub s n f) ∨ (k ≠ r ∧ st.ent k = some q) := fun k q hq => by
    have hq' : lk k ((r, .pub s n f) :: st.hp) = some q := hq
    rw [lk_cons] at hq'
    split at hq'
    · rename_i hrk; cases hq'; exact .inl ⟨hrk.symm, rfl⟩
    · rename_i hrk; exact .inr ⟨fun e => hrk e.symm, hq'⟩
  refine ⟨M', hle, ⟨h.size, h.defers, h.chg, Mem.le_trans h.m0 hle, h.g0, fun p v hp => ?_, fun p v hp => ?_, fun t => (h.slots t).keep hle fun _ _ => rfl, fun k q hq => ?_, fun k q g hq ho hg => ?_, fun k k' q q' hq hq' ho ho' => ?_, fun k q g p v hq ho hg hp => ?_, h.fix, h.drn⟩⟩
  · rcases hnew p v hp with h1 | ⟨h1, h2⟩
    · exact h.fresh p v h1
    · rcases h.own r _ p.block he rfl h1 with h3 | h3
      · exact .inr h3
      · omega
  · rcases hnew p v hp with h1 | ⟨h1, h2⟩
    · exact h.pub p v h1
    · exact allM_ok w p v h2
  · rcases hents k q hq with ⟨rfl, rfl⟩ | ⟨hk, h1⟩
    · have hcell := fun g hg i hi j hj => row_cell (h.ents k _ he) (g := g) hg (k := i) hi (j := j) hj
      obtain ⟨hc1, hc2, hc3⟩ := rowOf_cap (s := s) (n := n) (f := f) h (r := k) (by rw [he]; unfold rowOf; simp only [Nat.beq_refl])
      have hch : ∃ u : Nat → Nat → Value, ∀ i, i < n → ∀ j, j < s → ∀ gg, (ρ k).1 = some gg → w.cell? ⟨gg, i * s + j, none⟩ = some (u i j) ∧ DenD M (f i j) (u i j) ∧ (u i j).oneCell' = true := by
        cases hg : (ρ k).1 with
        | none => exact ⟨fun _ _ => undef, fun i hi => by have := hc3 hg; omega⟩
        | some gg =>
          refine ⟨fun i j => if hh : i < n ∧ j < s then (hcell gg hg i hh.1 j hh.2).choose else undef, fun i hi j hj g' hg' => ?_⟩
          cases hg'
          have hh : i < n ∧ j < s := ⟨hi, hj⟩
          simp only [dif_pos hh]
          exact (hcell gg hg i hh.1 j hh.2).choose_spec
      obtain ⟨u, hu⟩ := hch
      show DenD M' (.lst s n f) (.slice (addrOf (ρ k).1) n (ρ k).2)
      refine .lst s n f _ _ u hc1 hc2 (fun e => ?_) (fun ad e i hi j hj => ?_) (fun i hi j hj => ?_)
      · cases hg : (ρ k).1 with
        | none => exact hc3 hg
        | some gg => rw [hg] at e; cases e
      · cases hg : (ρ k).1 with
        | none => have := hc3 hg; omega
        | some gg =>
          rw [hg] at e
          cases e
          obtain ⟨k1, k2, k3⟩ := hu i hi j hj gg hg
          rw [add_off, Nat.zero_add]
          exact hof _ _ hg k1 k3
      · cases hg : (ρ k).1 with
        | none => have := hc3 hg; omega
        | some gg => exact (hu i hi j hj gg hg).2.1.mono hle
    · exact (h.ents k q h1).keep hle rfl (fun _ _ => rfl) fun _ _ _ _ => rfl
  · rcases hents k q hq with ⟨rfl, rfl⟩ | ⟨hk, h1⟩
    · cases ho
    · exact h.own k q g h1 ho hg
  · rcases hents k q hq with ⟨rfl, rfl⟩ | ⟨hk, h1⟩
    · cases ho
    · rcases hents k' q' hq' with ⟨rfl, rfl⟩ | ⟨hk', h1'⟩
      · cases ho'
      · exact h.apart k k' q q' h1 h1' ho ho'
  · rcases hents k q hq with ⟨rfl, rfl⟩ | ⟨hk, h1⟩
    · cases ho
    · rcases hnew p v hp with h2 | ⟨h2, h3⟩
      · exact h.sep k q g p v h1 ho hg h2
      · intro e
        rw [e] at h2
        exact h.apart k r q _ h1 he ho rfl hk g hg h2
theorem W.publish {X : Cx} {n : Nat} {st : St} {Q : Exit → St → Prop} {c : Code} (r : Nat) {s m : Nat} {E : TypeId} {f : Nat → Nat → D} (he : st.ent r = some (.row E s m f)) (h : St.un st fun fr hp => W X n c ⟨fr, (r, .pub s m f) :: hp⟩ Q) (hr : r < 5000 := by exact Nat.le_of_ble_eq_true rfl) : W X n c st Q := ⟨fun hX R hn ρ M a w hs => by
  obtain ⟨M', _, hs'⟩ := hs.publish he hr
  exact (show W X n c ⟨st.fr, (r, .pub s m f) :: st.hp⟩ Q from h).out hX R hn ρ M' a w hs'⟩
theorem ExCall.pub {X : Cx} {n : Nat} {st : St} {d : Option Nat} {f' : FuncId} {cs : List AV} {K : St → Prop} (r : Nat) {s m : Nat} {E : TypeId} {f : Nat → Nat → D} (he : st.ent r = some (.row E s m f)) (h : St.un st fun fr hp => ExCall X n ⟨fr, (r, .pub s m f) :: hp⟩ d f' cs K) (hr : r < 5000 := by exact Nat.le_of_ble_eq_true rfl) : ExCall X n st d f' cs K := by
  constructor
  intro o cl args ts ho hcl hcs hd R hn ρ M a w hs K' Q hK'
  obtain ⟨M', _, hs'⟩ := hs.publish he hr
  have h' : ExCall X n ⟨st.fr, (r, .pub s m f) :: st.hp⟩ d f' cs K := h
  have e : ∀ x, (⟨st.fr, (r, .pub s m f) :: st.hp⟩ : St).ev X x = st.ev X x := fun x => by cases x <;> rfl
  exact h'.out o cl args ts ho (by rw [e]; exact hcl) (by rw [← hcs]; exact List.map_congr_left fun x _ => e x) hd R hn ρ M' a w hs' K' Q hK'
/-- An argument that is data wherever the description holds. -/
def ArgQ (X : Cx) (st : St) (c d : AV) : Prop := ∀ R ρ M a w v, Sim X R ρ M st a w → DenA ρ M c v → DenP M d v
def ArgsQ (X : Cx) (st : St) : List AV → List AV → Prop
  | [], [] => True
  | c :: l, d :: r => ArgQ X st c d ∧ ArgsQ X st l r
  | _, _ => False
theorem ArgsQ_at {X : Cx} {st : St} : ∀ {cs ds : List AV}, ArgsQ X st cs ds → ds.length = cs.length ∧ ∀ (i : Nat) (d : AV), ds[i]? = some d → ∃ c, cs[i]? = some c ∧ ArgQ X st c d
  | [], [], _ => ⟨rfl, fun i d h => by simp at h⟩
  | c :: l, d :: r, h => by
    obtain ⟨h1, h2⟩ := ArgsQ_at h.2
    refine ⟨by simp [h1], fun i d' hi => ?_⟩
    cases i with
    | zero => simp at hi; subst hi; exact ⟨c, rfl, h.1⟩
    | succ i => obtain ⟨c', e1, e2⟩ := h2 i d' (by simpa using hi); exact ⟨c', by simpa using e1, e2⟩
  | [], _ :: _, h => h.elim
  | _ :: _, [], h => h.elim
theorem ArgQ.pure {X : Cx} {st : St} {c d : AV} (h : AVle c d) (hd : d.pure = true) : ArgQ X st c d := fun R ρ M a w v hs hc => AV.pure_den (h _ _ _ hc) hd
theorem ArgQ.refl {X : Cx} {st : St} {c : AV} (hd : c.pure = true) : ArgQ X st c c := ArgQ.pure (AVle.refl c) hd
theorem ArgQ.nil {X : Cx} {st : St} {s : Nat} {f : Nat → Nat → D} : ArgQ X st (.dat (.val (.slice none 0 0))) (.dat (.lst s 0 f)) := ArgQ.pure (AVle.dat (Dle.nil s f)) rfl
theorem ArgQ.own {X : Cx} {st : St} {r s n N : Nat} {f g : Nat → Nat → D} (hr : st.ent r = some (.pub s N f)) (hn : n = N) (hfg : ∀ i, i < n → ∀ j, j < s → Dle (f i j) (g i j)) : ArgQ X st (.own r s 0 n) (.dat (.lst s n g)) := fun R ρ M a w v hs hc ρ' => by
  obtain rfl := own_of hc
  subst hn
  have h1 : DenD M (.lst s n f) (.slice (addrOf (ρ r).1) n (ρ r).2) := hs.ents r _ hr
  rw [partOf_zero, Nat.sub_zero]
  exact .dat (Dle.lst rfl hfg M _ h1)
theorem ArgQ.agg {X : Cx} {st : St} {cs ds : List AV} (h : ArgsQ X st cs ds) : ArgQ X st (.agg cs) (.agg ds) := fun R ρ M a w v hs hc ρ' => by
  obtain ⟨vs, rfl, hl, hd⟩ := agg_of hc
  obtain ⟨h1, h2⟩ := ArgsQ_at h
  exact .agg ds vs (by omega) fun i c v e1 e2 => by
    obtain ⟨c', e3, e4⟩ := h2 i c e1
    exact e4 R ρ M a w v hs (hd i c' v e3 e2) ρ'
theorem CallA.d4 {X : Cx} {st : St} {f : FuncId} {cs ds : List AV} {r : AV} (hc : ACalls X f ds r) (ha : ArgsQ X st cs ds) : CallA X st f cs r := by
  constructor
  intro o cl args ts ho hcl hcs R ρ M a w h K Q hk
  obtain ⟨hl, hat⟩ := ArgsQ_at ha
  have hlen : ds.length = (args.map a.eval).toList.length := by rw [hl, ← hcs]; simp
  have hC := hc.out M w (args.map a.eval).toList (Cx.glob_mono h.m0 h.g0) h.pub hlen (fun i d v h1 h2 => by
    obtain ⟨c, e1, e2⟩ := hat i d h1
    rw [← hcs] at e1
    obtain ⟨v', e3, e4⟩ := args_den h args i c e1
    rw [h2] at e3; cases e3
    exact e2 R ρ M a w v h e4)
  rw [Array.toArray_toList] at hC
  unfold Oper.wp
  rw [run_call ho hc.fn a (val_of (hcl ▸ h.ev cl)), Oper.upon_enter]
  refine hC.mono fun e w' ⟨v, M', he, hd, hle, hfr, hp, hb, hdr⟩ => ?_
  subst he
  exact hk v ρ M' w' ⟨fun _ _ => rfl, hle, hfr, hp, hb, hd ρ, fun e he => (by cases he), hdr⟩
end Go.Proofs.YtekdobbhkklapaaGreat
