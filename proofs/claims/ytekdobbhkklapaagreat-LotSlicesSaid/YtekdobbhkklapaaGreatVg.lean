/- Parts of slices and strings; values of interfaces; stores and appends. -/
import Derived.Test.YtekdobbhkklapaaGreatVf
import Derived.Maps.AppendAt
namespace Go.Proofs.YtekdobbhkklapaaGreat
open Go Go.RowKit
set_option linter.unusedVariables false
set_option linter.unusedSimpArgs false

section
variable {X : Cx} {st : St} {o : Oper}

/-- A bound of a part. -/
def bndAV (st : St) (X : Cx) (x : Option Operand) (d : Int) : Option Int := match x with
  | none => some d
  | some y => match intAV st X y with
    | some (_, z) => some z
    | none => none
theorem run_sliceBound {P : Program} {w : World} {k : IntKind} {z : Int} {y : Nat} {code : BoundsCode} (h0 : 0 ≤ z) (h1 : z ≤ (y : Int)) : (Instr.sliceBound (.int k z) y code).run P w = .ok z.toNat w := by
  simp [Instr.sliceBound, asIntOf, h0, h1]
theorem run_bounds {R : Run} {ρ : Env} {M : Mem} {a : Act} {w : World} (h : Sim X R ρ M st a w) {lo hi : Option Operand} {n cap : Nat} {l m : Int} (hl : bndAV st X lo 0 = some l) (hh : bndAV st X hi (n : Int) = some m) (b : Bool) (h0 : 0 ≤ l) (h1 : l ≤ m) (h2 : m ≤ (n : Int)) (h3 : n ≤ cap) :
    (Instr.sliceBounds b n cap (lo.map a.eval) (hi.map a.eval) none).run X.P w = .ok (l.toNat, m.toNat, cap) w := by
  have hm0 : 0 ≤ m := by omega
  cases lo with
  | none =>
    cases hl
    cases hi with
    | none => cases hh; simp [Instr.sliceBounds]
    | some y =>
      simp only [bndAV] at hh
      cases hq : intAV st X y with
      | none => rw [hq] at hh; cases hh
      | some q =>
        obtain ⟨k, z⟩ := q
        rw [hq] at hh; cases hh
        simp [Instr.sliceBounds, intAV_den h hq, run_sliceBound (P := X.P) (w := w) (k := k) (z := m) (y := cap) hm0 (by omega)]
  | some x =>
    simp only [bndAV] at hl
    cases hp : intAV st X x with
    | none => rw [hp] at hl; cases hl
    | some p =>
      obtain ⟨k', z'⟩ := p
      rw [hp] at hl; cases hl
      cases hi with
      | none =>
        cases hh
        simp [Instr.sliceBounds, intAV_den h hp, run_sliceBound (P := X.P) (w := w) (k := k') (z := l) (y := n) h0 (by omega)]
      | some y =>
        simp only [bndAV] at hh
        cases hq : intAV st X y with
        | none => rw [hq] at hh; cases hh
        | some q =>
          obtain ⟨k, z⟩ := q
          rw [hq] at hh; cases hh
          simp [Instr.sliceBounds, intAV_den h hp, intAV_den h hq, run_sliceBound (P := X.P) (w := w) (k := k) (z := m) (y := cap) hm0 (by omega), run_sliceBound (P := X.P) (w := w) (k := k') (z := l) (y := m.toNat) h0 (by omega)]

def evSlice (X : Cx) (st : St) (t : TypeId) (x : Operand) (lo hi : Option Operand) : Res := match lk t X.T with
  | some ⟨.slice E es eb ez, _, _⟩ => match st.ev X x with
    | .dat (.lst s n f) => match bndAV st X lo 0 with
      | none => .no
      | some l => match bndAV st X hi (n : Int) with
        | none => .no
        | some m => match Nat.beq es s with
          | true => .cnd (0 ≤ l ∧ l ≤ m ∧ m ≤ (n : Int)) (.dat (.lst s (m - l).toNat fun i j => f (l.toNat + i) j))
          | false => .no
    | .own r s 0 n => match bndAV st X lo 0 with
      | none => .no
      | some l => match bndAV st X hi (n : Int) with
        | none => .no
        | some m => match Nat.beq es s with
          | true => match rowOf (st.ent r) s with
            | some (N, f) => .cnd (0 ≤ l ∧ l ≤ m ∧ m ≤ (n : Int) ∧ n ≤ N) (.own r s l.toNat (m - l).toNat)
            | none => .no
          | false => .no
    | _ => .no
  | some ⟨.str, _, _⟩ => match st.ev X x with
    | .dat (.val (.string s)) => match bndAV st X lo 0 with
      | none => .no
      | some l => match bndAV st X hi (s.size : Int) with
        | none => .no
        | some m => .cnd (0 ≤ l ∧ l ≤ m ∧ m ≤ (s.size : Int)) (.dat (.val (.string (s.extract l.toNat m.toNat))))
    | _ => .no
  | _ => .no

theorem addrOf_map_add (b : Option Nat) (n : Nat) (h : n ≠ 0) : (addrOf b).map (·.add n) = b.map fun g => (⟨g, n, none⟩ : Addr) := by
  cases b with
  | none => rfl
  | some g => simp [addrOf, add_off]

theorem s_slice (hX : X.ok) {t : TypeId} {x : Operand} {lo hi : Option Operand} (ho : o.op = .slice t x lo hi none) : (evSlice X st t x lo hi).sound X st o := by
  unfold evSlice
  split
  · rename_i E es eb ez sz z hti
    obtain ⟨_, _, hu, ie, hie, hsz, _⟩ := hX t _ hti
    have hrun : ∀ {R : Run} {ρ : Env} {M : Mem} {a : Act} {w : World} (h : Sim X R ρ M st a w) {A : Option Addr} {n cap : Nat} {l m : Int}, a.eval x = .slice A n cap → bndAV st X lo 0 = some l → bndAV st X hi (n : Int) = some m → 0 ≤ l → l ≤ m → m ≤ (n : Int) → n ≤ cap →
        (execOp a.eval o).run X.P w = .ok (.value (.slice (if cap = l.toNat then A else A.map (·.add (l.toNat * es))) (m.toNat - l.toNat) (cap - l.toNat))) w := by
      intro R ρ M a w h A n cap l m hv hl hm h0 h1 h2 h3
      have hb := run_bounds h hl hm true h0 h1 h2 h3
      unfold execOp
      simp only [ho, Instr.sliceAt, Instr.slice, hv, Sem.run_bind, run_underlying hu, Result.andThen_ok, hb, run_sizeOf hie, hsz, Sem.run_pure, Option.map_none]
    split
    · rename_i s n f hx
      split
      · trivial
      rename_i l hl
      split
      · trivial
      rename_i m hm
      split
      · rename_i hb
        obtain rfl := Nat.eq_of_beq_eq_true hb
        intro hc R ρ M a w h
        obtain ⟨h0, h1, h2⟩ := hc
        obtain ⟨A, cap, u, hv, hn, hcap, hA, hmm, hd⟩ := lst_of (hx ▸ h.ev x)
        refine qval h.pub (hrun h hv hl hm h0 h1 h2 hn) (.dat ?_)
        have e : (m - l).toNat = m.toNat - l.toNat := by omega
        rw [e]
        refine .lst _ _ _ _ _ (fun i j => u (l.toNat + i) j) (by omega) (by omega) (fun hA2 => ?_) (fun ad had i hi j hj => ?_) (fun i hi j hj => hd _ (by omega) j hj)
        · by_cases hcl : cap = l.toNat
          · omega
          · rw [if_neg hcl] at hA2
            have : A = none := by cases A with
              | none => rfl
              | some _ => simp at hA2
            have := hA this
            omega
        · rw [if_neg (by omega)] at had
          cases A with
          | none => simp at had
          | some ad0 =>
            simp at had
            subst had
            rw [add_add, show l.toNat * es + (i * es + j) = (l.toNat + i) * es + j by rw [Nat.add_mul]; omega]
            exact hmm ad0 rfl _ (by omega) j hj
      · trivial
    · rename_i r s n hx
      split
      · trivial
      rename_i l hl
      split
      · trivial
      rename_i m hm
      split
      · rename_i hb
        obtain rfl := Nat.eq_of_beq_eq_true hb
        split
        · rename_i N f hr
          intro hc R ρ M a w h
          obtain ⟨h0, h1, h2, h3⟩ := hc
          obtain ⟨hc1, hc2, hc3⟩ := rowOf_cap h hr
          have hv := own_of (hx ▸ h.ev x)
          rw [partOf_zero, Nat.sub_zero] at hv
          have hr2 := hrun h hv hl hm h0 h1 h2 (by omega)
          have e : (m - l).toNat = m.toNat - l.toNat := by omega
          have hden := DenA.own (ρ := ρ) (M := M) r es l.toNat (m.toNat - l.toNat)
          rw [e]
          exact qval h.pub hr2 hden
        · trivial
      · trivial
    · trivial
  · rename_i sz z hti
    obtain ⟨_, _, hu⟩ := hX t _ hti
    split
    · rename_i s hx
      split
      · trivial
      rename_i l hl
      split
      · trivial
      rename_i m hm
      intro hc R ρ M a w h
      obtain ⟨h0, h1, h2⟩ := hc
      have hv := val_of (hx ▸ h.ev x)
      have hb := run_bounds h hl hm false h0 h1 h2 (Nat.le_refl _)
      refine qint h ?_
      unfold execOp
      simp [ho, Instr.sliceAt, Instr.slice, hv, run_underlying hu, hb]
    · trivial
  · trivial

end
end Go.Proofs.YtekdobbhkklapaaGreat
