/- Quiet operations, more: parts of slices and strings, things that are built, rows that are made, values of interfaces. -/
import Derived.Test.YtekdobbhkklapaaGreatVd
namespace Go.Proofs.YtekdobbhkklapaaGreat
open Go Go.RowKit
set_option linter.unusedVariables false
set_option linter.unusedSimpArgs false

/-- Lists of cells that are described. -/
def DenL (ρ : Env) (M : Mem) (cs : List AV) (vs : Array Value) : Prop := cs.length = vs.size ∧ ∀ (i : Nat) (c : AV) (u : Value), cs[i]? = some c → vs[i]? = some u → DenA ρ M c u

def fillA (place : Nat → Option (Nat × Nat)) (cells : List AV) : List (Nat × AV) → Option (List AV)
  | [] => some cells
  | (i, c) :: rest => match place i with
    | none => none
    | some (off, size) => match c.cells with
      | none => none
      | some cs => match Nat.beq cs.length size with
        | false => none
        | true => match Nat.ble (off + cs.length) cells.length with
          | false => none
          | true => fillA place (cells.take off ++ cs ++ cells.drop (off + cs.length)) rest

theorem fold_set (off : Nat) : ∀ (l : List Value) (k : Nat) (cells : Array Value), (l.zipIdx k).foldl (fun cs (x : Value × Nat) => cs.setIfInBounds (off + x.2) x.1) cells = ((cells.toList.take (off + k) ++ l ++ cells.toList.drop (off + k + l.length)).take cells.size).toArray ∨ cells.size < off + k + l.length
  | [], k, cells => by
    left
    apply Array.ext'
    simp
    exact (List.take_of_length_le (by simp)).symm
  | v :: l, k, cells => by
    simp only [List.zipIdx_cons, List.foldl_cons]
    by_cases hk : cells.size < off + k + (v :: l).length
    · exact .inr hk
    · left
      have hk' : off + k + (l.length + 1) ≤ cells.size := by simp at hk; omega
      rcases fold_set off l (k + 1) (cells.setIfInBounds (off + k) v) with h | h
      · rw [h]
        apply Array.ext'
        simp only [Array.toList_setIfInBounds, Array.size_setIfInBounds]
        congr 1
        apply List.ext_getElem?
        intro i
        have hs : cells.toList.length = cells.size := by simp
        rcases Nat.lt_trichotomy i (off + k) with hi | hi | hi
        · rw [List.getElem?_append_left (by simp; omega), List.getElem?_append_left (by simp; omega), List.getElem?_append_left (by simp; omega), List.getElem?_append_left (by simp; omega), List.getElem?_take, List.getElem?_take, if_pos (by omega), if_pos (by omega), List.getElem?_set_ne (by omega)]
        · subst hi
          rw [List.getElem?_append_left (by simp; omega), List.getElem?_append_left (by simp; omega), List.getElem?_append_left (by simp; omega), List.getElem?_append_right (by simp; omega), List.getElem?_take, if_pos (by omega), List.getElem?_set_self (by omega)]
          simp
          rw [show off + k - min (off + k) cells.size = 0 by omega]
          rfl
        · rcases Nat.lt_or_ge i (off + k + (l.length + 1)) with h2 | h2
          · rw [List.getElem?_append_left (by simp; omega), List.getElem?_append_right (by simp; omega), List.getElem?_append_left (by simp; omega), List.getElem?_append_right (by simp; omega)]
            simp only [List.length_take, List.length_set, hs]
            rw [show i - min (off + k) cells.size = (i - min (off + (k + 1)) cells.size) + 1 by omega]
            rfl
          · rw [List.getElem?_append_right (by simp; omega), List.getElem?_append_right (by simp; omega), List.getElem?_drop, List.getElem?_drop]
            simp only [List.length_append, List.length_take, List.length_set, hs, List.length_cons]
            rw [List.getElem?_set_ne (by omega)]
            congr 1
            omega
      · simp at h
        omega

theorem fill_den {ρ : Env} {M : Mem} {placeA place : Nat → Option (Nat × Nat)} (hpl : ∀ i q, placeA i = some q → place i = some q) : ∀ (parts : List (Nat × AV)) (vparts : List (Nat × Value)) (cells cs' : List AV) (vs : Array Value), DenL ρ M cells vs → parts.length = vparts.length →
    (∀ (k i : Nat) (c : AV) (j : Nat) (v : Value), parts[k]? = some (i, c) → vparts[k]? = some (j, v) → i = j ∧ DenA ρ M c v) → fillA placeA cells parts = some cs' → ∃ vs', Instr.fill place vs vparts = some vs' ∧ DenL ρ M cs' vs'
  | [], [], cells, cs', vs, hd, _, _, hf => by
    cases hf
    exact ⟨vs, rfl, hd⟩
  | (i, c) :: parts, [], _, _, _, _, hl, _, _ => by simp at hl
  | [], _ :: _, _, _, _, _, hl, _, _ => by simp at hl
  | (i, c) :: parts, (j, v) :: vparts, cells, cs', vs, hd, hl, hp, hf => by
    obtain ⟨rfl, hcv⟩ := hp 0 i c j v rfl rfl
    simp only [fillA] at hf
    split at hf
    · cases hf
    rename_i off size hq
    split at hf
    · cases hf
    rename_i cs hcs
    split at hf
    · cases hf
    rename_i hb
    have hb := Nat.eq_of_beq_eq_true hb
    split at hf
    · cases hf
    rename_i hle
    have hle := Nat.le_of_ble_eq_true hle
    obtain ⟨h1, h2⟩ := AV.cells_den hcv hcs
    obtain ⟨hd1, hd2⟩ := hd
    simp only [Instr.fill, hpl i _ hq]
    rw [if_neg (by simp; omega)]
    have hfold := fold_set off v.cells.toList 0 vs
    rw [← Array.foldl_toList, Array.toList_zipIdx]
    rcases hfold with hfold | hfold
    · rw [hfold]
      refine fill_den hpl parts vparts _ cs' _ ⟨?_, fun i c u hc hu => ?_⟩ (by simpa using hl) (fun k i c j v h h' => hp (k + 1) i c j v (by simpa using h) (by simpa using h')) hf
      · simp; omega
      · simp only [Nat.add_zero, List.getElem?_toArray] at hu
        rw [List.getElem?_take] at hu
        split at hu
        · rename_i hi
          have hs : vs.toList.length = vs.size := by simp
          rcases Nat.lt_or_ge i off with ho | ho
          · rw [List.getElem?_append_left (by simp; omega), List.getElem?_append_left (by simp; omega), List.getElem?_take, if_pos ho] at hu hc
            exact hd2 i c u hc (by simpa using hu)
          · rcases Nat.lt_or_ge i (off + cs.length) with ho2 | ho2
            · rw [List.getElem?_append_left (by simp; omega), List.getElem?_append_right (by simp; omega)] at hu hc
              have e1 : i - (cells.take off).length = i - off := by simp; omega
              have e2 : i - (vs.toList.take off).length = i - off := by simp; omega
              rw [e1] at hc
              rw [e2] at hu
              exact h2 _ c u hc (by simpa using hu)
            · rw [List.getElem?_append_right (by simp; omega), List.getElem?_drop] at hu hc
              have e1 : off + cs.length + (i - (List.take off cells ++ cs).length) = i := by simp; omega
              have e2 : off + v.cells.toList.length + (i - (List.take off vs.toList ++ v.cells.toList).length) = i := by simp; omega
              rw [e1] at hc
              rw [e2] at hu
              exact hd2 i c u hc (by simpa using hu)
        · cases hu
    · simp at hfold
      omega

section
variable {X : Cx} {st : St} {o : Oper}

def partsA (X : Cx) (st : St) (ps : List (Nat × Operand)) : List (Nat × AV) := ps.map fun q => (q.1, st.ev X q.2)
theorem partsA_den {R : Run} {ρ : Env} {M : Mem} {a : Act} {w : World} (h : Sim X R ρ M st a w) (ps : Array (Nat × Operand)) :
    (partsA X st ps.toList).length = (ps.map fun q => (q.1, a.eval q.2)).toList.length ∧ ∀ (k i : Nat) (c : AV) (j : Nat) (v : Value), (partsA X st ps.toList)[k]? = some (i, c) → (ps.map fun q => (q.1, a.eval q.2)).toList[k]? = some (j, v) → i = j ∧ DenA ρ M c v := by
  refine ⟨by simp [partsA], fun k i c j v h1 h2 => ?_⟩
  unfold partsA at h1
  rw [List.getElem?_map] at h1
  simp only [Array.toList_map, List.getElem?_map] at h2
  cases hk : ps.toList[k]? with
  | none => rw [hk] at h1; cases h1
  | some q =>
    rw [hk] at h1 h2
    cases h1
    cases h2
    exact ⟨rfl, h.ev q.2⟩

def evBuild (X : Cx) (st : St) (t : TypeId) (ps : List (Nat × Operand)) : Res := match lk t X.T with
  | some ⟨.struct fs, _, z⟩ => match fillA (fun i => fs[i]?) (cellsV z) (partsA X st ps) with
    | some cs => .ok (.agg cs)
    | none => .no
  | _ => .no
theorem s_build (hX : X.ok) {t : TypeId} {ps : Array (Nat × Operand)} (ho : o.op = .build t ps) : (evBuild X st t ps.toList).sound X st o := by
  unfold evBuild
  split
  · rename_i fs sz z hti
    obtain ⟨_, ⟨inf, hinf, _, hz⟩, fields, hf, hfl, hfs⟩ := hX t _ hti
    split
    · rename_i cs hcs
      intro R ρ M a w h
      have hpl : ∀ (i : Nat) (q : Nat × Nat), (fun i => fs[i]?) i = some q → (fun (i : Nat) => (fields.toList.map fun f => (f.offset, (X.P.info? f.type).elim 0 (·.size))).toArray[i]?) i = some q := by
        intro i q hq
        obtain ⟨off, s⟩ := q
        obtain ⟨f, h1, h2, fi, h3, h4, _⟩ := hfs i off s hq
        have h1' : fields.toList[i]? = some f := by simpa using h1
        simp [h1', h2, h3, h4]
      obtain ⟨hp1, hp2⟩ := partsA_den h ps
      obtain ⟨vs', hfill, hden⟩ := fill_den (ρ := ρ) (M := M) hpl _ _ _ _ z.cells (cellsV_den ρ M z) hp1 hp2 hcs
      refine qval h.pub (v := .agg vs') ?_ (.agg cs vs'.toList (by simpa using hden.1) fun i c v h1 h2 => hden.2 i c v h1 (by simpa using h2))
      have hmap : ∀ (l : List Field) (w : World), (∀ f ∈ l, ∃ fi, X.P.info? f.type = some fi) → (l.mapM fun f => do pure (f.offset, ← sizeOf f.type) : Sem (List (Nat × Nat))).run X.P w = .ok (l.map fun f => (f.offset, (X.P.info? f.type).elim 0 (·.size))) w := by
        intro l w
        induction l with
        | nil => intro _; rfl
        | cons f l ih =>
          intro hall
          obtain ⟨fi, hfi⟩ := hall f (List.mem_cons_self ..)
          have := ih (fun g hg => hall g (List.mem_cons_of_mem _ hg))
          simp only [List.mapM_cons, Sem.run_bind, run_sizeOf hfi, Result.andThen_ok, Sem.run_pure, this, List.map_cons, hfi]
          rfl
      have hall : ∀ f ∈ fields.toList, ∃ fi, X.P.info? f.type = some fi := by
        intro f hfm
        obtain ⟨i, hi⟩ := List.getElem?_of_mem hfm
        have hlt : i < fs.length := by
          have := (List.getElem?_eq_some_iff.1 hi).1
          simp at this
          omega
        obtain ⟨f', h1, _, fi, h3, _⟩ := hfs i _ _ (List.getElem?_eq_getElem hlt)
        have : some f = some f' := by rw [← hi, ← h1]; simp
        cases this
        exact ⟨fi, h3⟩
      have hm := hmap fields.toList w hall
      unfold execOp
      simp only [ho, Instr.build, Sem.run_bind, zeroValue, typeInfo, run_program, hinf, Result.andThen_ok, Sem.run_pure, hz, run_underlying hf, Array.mapM_eq_mapM_toList, Sem.run_map, hm, hfill]
    · trivial
  · trivial

end
end Go.Proofs.YtekdobbhkklapaaGreat
