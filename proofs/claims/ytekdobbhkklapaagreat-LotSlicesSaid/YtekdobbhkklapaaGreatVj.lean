/- Stores and appends. -/
import Derived.Test.YtekdobbhkklapaaGreatVi
namespace Go.Proofs.YtekdobbhkklapaaGreat
open Go Go.RowKit
set_option linter.unusedVariables false
set_option linter.unusedSimpArgs false
set_option linter.unnecessarySimpa false

/-- An operation that is run where K is wanted of the description afterwards. -/
def OpOk (X : Cx) (n : Nat) (st : St) (o : Oper) (K : St → Prop) : Prop :=
  ∀ R : Run, R.n = n → ∀ ρ M a w, Sim X R ρ M st a w → ∀ (K' : Act → World → Prop) (Q : Exit → Act → World → Prop), (∀ st' ρ' M' a' w', K st' → Sim X R ρ' M' st' a' w' → K' a' w') → o.wp X.P a w K' Q

def AV.one : AV → Bool
  | .tt => true
  | .ff => true
  | .dat (.val v) => oneV v
  | .dat (.lst ..) => true
  | .ptr .. => true
  | .ro .. => true
  | .own .. => true
  | .rptr .. => true
  | _ => false
theorem AV.one_den {ρ : Env} {M : Mem} {c : AV} {v : Value} (hc : c.one = true) (h : DenA ρ M c v) : v.oneCell' = true := by
  cases h with
  | junk => cases hc
  | tt => rfl
  | ff => rfl
  | dat h => cases h with
    | val => exact oneV_one hc
    | lst => rfl
  | ptr => rfl
  | ro => rfl
  | own => rfl
  | rptr => rfl
  | agg => cases hc
  | tup => cases hc
def onesA : List AV → Bool
  | [] => true
  | c :: l => match c.one with
    | true => onesA l
    | false => false
theorem onesA_at : ∀ {l : List AV}, onesA l = true → ∀ (i : Nat) (c : AV), l[i]? = some c → c.one = true
  | [], _, i, c, h => by simp at h
  | x :: l, h, i, c, hi => by
    simp only [onesA] at h
    split at h
    · rename_i hx
      cases i with
      | zero => simp at hi; subst hi; exact hx
      | succ i => exact onesA_at h i c (by simpa using hi)
    · cases h

theorem setRow_other (w : World) (g : Nat) (cs : Array Value) (k : Nat) (hk : k ≠ g) : (w.setRow g cs).heap[k]? = w.heap[k]? := by
  simp only [World.setRow, Array.getElem?_modify]
  rw [if_neg (by omega)]
theorem setRow_size (w : World) (g : Nat) (cs : Array Value) : (w.setRow g cs).heap.size = w.heap.size := by simp [World.setRow]
theorem chg_setRow (w : World) (g : Nat) (cs : Array Value) : Chg [g] w (w.setRow g cs) :=
  ⟨rfl, rfl, rfl, by rw [setRow_size]; exact Nat.le_refl _, fun k _ hk => setRow_other w g cs k (by simpa using hk)⟩

/-- One or the other; numbers stay numbers. -/
def pickD (p : Prop) [Decidable p] (a b : D) : D := match a with
  | .val (.int ka x) => match b with
    | .val (.int kb y) => match IntKind.same ka kb with
      | true => .val (.int ka (if p then x else y))
      | false => if p then a else b
    | _ => if p then a else b
  | _ => if p then a else b
theorem pickD_eq (p : Prop) [Decidable p] (a b : D) : pickD p a b = if p then a else b := by
  unfold pickD
  split
  · split
    · split
      · rename_i hk
        obtain rfl := IntKind.same_eq hk
        split <;> rfl
      · rfl
    · rfl
  · rfl
/-- The elements of a row where some cells of one have been written. -/
def setF (f : Nat → Nat → D) (k j : Nat) (ds : List D) : Nat → Nat → D := fun i j' => pickD (i = k ∧ j ≤ j' ∧ j' < j + ds.length) (ds.getD (j' - j) (.val undef)) (f i j')
theorem setF_eq (f : Nat → Nat → D) (k j : Nat) (ds : List D) (i j' : Nat) : setF f k j ds i j' = if i = k ∧ j ≤ j' ∧ j' < j + ds.length then ds.getD (j' - j) (.val undef) else f i j' := pickD_eq _ _ _

def exStore (X : Cx) (st : St) (t : TypeId) (p x : Operand) (K : St → Prop) : Prop := match lk t X.T with
  | none => False
  | some ti => match (st.ev X x).cells with
    | none => False
    | some vs => match Nat.beq vs.length ti.size with
      | false => False
      | true => match onesA vs with
        | false => False
        | true => match st.ev X p with
          | .ptr r off => match st.ent r with
            | some (.blk E cs) => match Nat.ble (off + vs.length) cs.length with
              | true => st.un fun fr hp => K ⟨fr, (r, .blk E (cs.take off ++ vs ++ cs.drop (off + vs.length))) :: hp⟩
              | false => False
            | _ => False
          | .rptr r s k j => match st.ent r with
            | some (.row E s' n f) => match Nat.beq s s' with
              | false => False
              | true => match mapD vs with
                | none => False
                | some ds => match Nat.ble (j + vs.length) s with
                  | true => CndK (k < n) (st.un fun fr hp => K ⟨fr, (r, .row E s n (setF f k j ds)) :: hp⟩)
                  | false => False
            | _ => False
          | _ => False

theorem seg_at {α : Type} {l vs : List α} {off i : Nat} (hoff : off + vs.length ≤ l.length) : (l.take off ++ vs ++ l.drop (off + vs.length))[i]? = if off ≤ i ∧ i < off + vs.length then vs[i - off]? else l[i]? := by
  rcases Nat.lt_or_ge i off with h1 | h1
  · rw [if_neg (by omega), List.append_assoc, List.getElem?_append_left (by simp; omega), List.getElem?_take, if_pos h1]
  · rcases Nat.lt_or_ge i (off + vs.length) with h2 | h2
    · rw [if_pos ⟨h1, h2⟩, List.getElem?_append_left (by simp; omega), List.getElem?_append_right (by simp; omega)]
      simp only [List.length_take]
      rw [Nat.min_eq_left (by omega)]
    · rw [if_neg (by omega), List.getElem?_append_right (by simp; omega), List.getElem?_drop]
      simp only [List.length_append, List.length_take]
      rw [Nat.min_eq_left (by omega)]
      congr 1
      omega
theorem seg_len {α : Type} {l vs : List α} {off : Nat} (hoff : off + vs.length ≤ l.length) : (l.take off ++ vs ++ l.drop (off + vs.length)).length = l.length := by
  simp; omega

section
variable {X : Cx} {st : St} {o : Oper}

theorem s_store (hX : X.ok) {n : Nat} {t : TypeId} {p x : Operand} (ho : o.op = .store t p x) (hd : o.dst = none) {K : St → Prop} (hk : exStore X st t p x K) : OpOk X n st o K := by
  unfold exStore at hk
  split at hk
  · exact hk.elim
  rename_i ti hti
  obtain ⟨⟨d, hdd, _, _⟩, ⟨inf, hinf, hsz, _⟩, _⟩ := hX t ti hti
  split at hk
  · exact hk.elim
  rename_i vs hvs
  split at hk
  · exact hk.elim
  rename_i hlen
  have hlen := Nat.eq_of_beq_eq_true hlen
  split at hk
  · exact hk.elim
  rename_i hone
  have hrun : ∀ {R : Run} {ρ : Env} {M : Mem} {a : Act} {w : World} (h : Sim X R ρ M st a w) {g off : Nat} {cur : Array Value} {E : TypeId}, a.eval p = .pointer (some ⟨g, off, none⟩) → w.heap[g]? = some (.cells cur E (0, 0)) → off + vs.length ≤ cur.size →
      (execOp a.eval o).run X.P w = .ok .skip (w.setRow g (cur.toList.take off ++ (a.eval x).cells.toList ++ cur.toList.drop (off + vs.length)).toArray) := by
    intro R ρ M a w h g off cur E hp hg hoff
    obtain ⟨h1, h2⟩ := AV.cells_den (h.ev x) hvs
    have hst := run_storeCells_at X.P g off E (a.eval x).cells.toList 0 cur w hg (by simp; omega) (fun v hv => by
      obtain ⟨i, hi⟩ := List.getElem?_of_mem hv
      have hlt : i < vs.length := by
        have := (List.getElem?_eq_some_iff.1 hi).1
        simp at this; omega
      exact AV.one_den (onesA_at hone i _ (List.getElem?_eq_getElem hlt)) (h2 i _ v (List.getElem?_eq_getElem hlt) (by simpa using hi)))
    have hsz2 : (a.eval x).cells.size = inf.size := by omega
    unfold execOp
    simp only [ho, Instr.storeAt, Instr.sureAddr, hp, storeVar, Sem.run_bind, Sem.run_pure, Result.andThen_ok, run_sizeOf hinf, hsz2, ne_eq, not_true_eq_false, if_false, hst]
    simp [h1]
  split at hk
  · rename_i r off hp
    split at hk
    · rename_i E cs he
      split at hk
      · rename_i hle
        have hle := Nat.le_of_ble_eq_true hle
        intro R hn ρ M a w h K' Q hK'
        obtain ⟨g, hg, hv⟩ := ptr_of (hp ▸ h.ev p)
        obtain ⟨g', cur, hg', hh, hl, hc⟩ := h.ents r _ he
        rw [hg] at hg'; cases hg'
        obtain ⟨h1, h2⟩ := AV.cells_den (h.ev x) hvs
        have hr := hrun h hv hh (by omega)
        have hl2 : off + (a.eval x).cells.toList.length ≤ cur.toList.length := by simp; omega
        have hsim := h.stored (e' := .blk E (cs.take off ++ vs ++ cs.drop (off + vs.length))) he rfl rfl hg (w' := w.setRow g (cur.toList.take off ++ (a.eval x).cells.toList ++ cur.toList.drop (off + vs.length)).toArray)
          ⟨g, _, hg, setRow_heap w g cur _ E (0, 0) hh, by rw [seg_len hle]; simp; omega, fun i c v hi hv2 => by
            rw [seg_at hle] at hi
            have hv3 : (cur.toList.take off ++ (a.eval x).cells.toList ++ cur.toList.drop (off + (a.eval x).cells.toList.length))[i]? = some v := by
              have e : (a.eval x).cells.toList.length = vs.length := by simp; omega
              rw [e]; simpa using hv2
            rw [seg_at hl2] at hv3
            have e : (a.eval x).cells.toList.length = vs.length := by simp; omega
            rw [e] at hv3
            split at hi
            · rename_i hin
              rw [if_pos hin] at hv3
              exact h2 _ c v hi (by simpa using hv3)
            · rename_i hin
              rw [if_neg hin] at hv3
              exact hc _ c v hi (by simpa using hv3)⟩ (chg_setRow _ _ _) (setRow_size _ _ _)
        unfold Oper.wp
        rw [hr]
        show K' (a.put o.dst undef) _
        rw [hd]
        exact hK' _ _ _ _ _ hk (hsim (Nat.le_refl _))
      · exact hk.elim
    · exact hk.elim
  · rename_i r s k j hp
    split at hk
    · rename_i E s' N f he
      split at hk
      · exact hk.elim
      rename_i hs
      obtain rfl := Nat.eq_of_beq_eq_true hs
      split at hk
      · exact hk.elim
      rename_i ds hds
      split at hk
      · rename_i hle
        have hle := Nat.le_of_ble_eq_true hle
        obtain ⟨hkn, hk⟩ := hk
        intro R hn ρ M a w h K' Q hK'
        obtain ⟨g, hg, hv⟩ := rptr_of (hp ▸ h.ev p)
        obtain ⟨xs, ⟨hxl, how⟩, hf⟩ := h.ents r _ he
        obtain ⟨h1, h2⟩ := AV.cells_den (h.ev x) hvs
        obtain ⟨hd1, hd2⟩ := mapD_at hds
        rcases how with ⟨hn1, hn2⟩ | ⟨g', cap, cur, hsl, _, hh, hnc, hcm, hcs, htake⟩
        · rw [hg] at hn1; simp [addrOf] at hn1
        · rw [hg] at hsl
          simp [addrOf] at hsl
          obtain ⟨rfl, hcap⟩ := hsl
          have hin : k * s + j + vs.length ≤ N * s := by
            have : (k + 1) * s ≤ N * s := Nat.mul_le_mul_right s hkn
            rw [Nat.add_mul, Nat.one_mul] at this
            omega
          have hNc : N * s ≤ cap * s := Nat.mul_le_mul_right s hnc
          have hr := hrun h hv hh (by omega)
          have e : (a.eval x).cells.toList.length = vs.length := by simp; omega
          have hl2 : (k * s + j) + (a.eval x).cells.toList.length ≤ cur.toList.length := by simp; omega
          have hsim := h.stored (e' := .row E s N (setF f k j ds)) he rfl rfl hg (w' := w.setRow g (cur.toList.take (k * s + j) ++ (a.eval x).cells.toList ++ cur.toList.drop (k * s + j + vs.length)).toArray)
            ⟨_, ⟨?_, .inr ⟨g, cap, _, by rw [hg, hcap]; rfl, Nat.zero_le _, setRow_heap w g cur _ E (0, 0) hh, hnc, hcm, ?_, rfl⟩⟩, ?_⟩ (chg_setRow _ _ _) (setRow_size _ _ _)
          · unfold Oper.wp
            rw [hr]
            show K' (a.put o.dst undef) _
            rw [hd]
            exact hK' _ _ _ _ _ hk (hsim (Nat.le_refl _))
          · simp; omega
          · have := seg_len hl2
            rw [e] at this
            simp at this ⊢
            omega
          · intro i hi j' hj'
            have hij : i * s + j' < N * s := by
              have : (i + 1) * s ≤ N * s := Nat.mul_le_mul_right s hi
              rw [Nat.add_mul, Nat.one_mul] at this
              omega
            have hget : ((cur.toList.take (k * s + j) ++ (a.eval x).cells.toList ++ cur.toList.drop (k * s + j + vs.length)).toArray.toList.take (N * s))[i * s + j']? = if k * s + j ≤ i * s + j' ∧ i * s + j' < k * s + j + vs.length then (a.eval x).cells.toList[i * s + j' - (k * s + j)]? else cur.toList[i * s + j']? := by
              rw [List.getElem?_take, if_pos hij]
              have := seg_at (i := i * s + j') hl2
              rw [e] at this
              exact this
            have hwhere : (k * s + j ≤ i * s + j' ∧ i * s + j' < k * s + j + vs.length) ↔ (i = k ∧ j ≤ j' ∧ j' < j + vs.length) := by
              constructor
              · intro ⟨q1, q2⟩
                have : i = k := by
                  rcases Nat.lt_trichotomy i k with hlt | heq | hgt
                  · have : (i + 1) * s ≤ k * s := Nat.mul_le_mul_right s hlt
                    rw [Nat.add_mul, Nat.one_mul] at this
                    omega
                  · exact heq
                  · have : (k + 1) * s ≤ i * s := Nat.mul_le_mul_right s hgt
                    rw [Nat.add_mul, Nat.one_mul] at this
                    omega
                subst this
                exact ⟨rfl, by omega, by omega⟩
              · rintro ⟨rfl, q1, q2⟩
                exact ⟨by omega, by omega⟩
            rw [hget]
            rw [setF_eq]
            by_cases hc : i = k ∧ j ≤ j' ∧ j' < j + vs.length
            · rw [if_pos (hwhere.2 hc), if_pos (by rw [hd1]; exact hc)]
              obtain ⟨rfl, q1, q2⟩ := hc
              have hlt : j' - j < vs.length := by omega
              have e3 : i * s + j' - (i * s + j) = j' - j := by omega
              rw [e3]
              obtain ⟨d', e1, e2⟩ := hd2 _ _ (List.getElem?_eq_getElem hlt)
              have hlt2 : j' - j < (a.eval x).cells.size := by omega
              have hval : (a.eval x).cells[j' - j]? = some (a.eval x).cells[j' - j] := Array.getElem?_eq_getElem hlt2
              obtain ⟨e4, e5⟩ := AV.toD_den e2 (h2 _ _ _ (List.getElem?_eq_getElem hlt) hval)
              refine ⟨_, by simpa using hval, ?_, e5⟩
              rw [List.getD_eq_getElem?_getD, e1]
              exact e4
            · rw [if_neg (fun hq => hc (hwhere.1 hq)), if_neg (by rw [hd1]; exact hc)]
              obtain ⟨u, hu1, hu2, hu3⟩ := hf i hi j' hj'
              rw [← htake, List.getElem?_take, if_pos hij] at hu1
              exact ⟨u, hu1, hu2, hu3⟩
      · exact hk.elim
    · exact hk.elim
  · exact hk.elim

end
end Go.Proofs.YtekdobbhkklapaaGreat
