/- Stocks that come in, with the statement's reach: no part weighs more than the form allows. -/
import Derived.Test.YtleknjngglhmaaaGreatOpL
import Derived.SizedLaws
namespace Go.Proofs.YtleknjngglhmaaaGreat
open Go Go.RowKit Go.WideShapes Go.ChangeShapes Go.Deep
set_option linter.unusedVariables false
set_option linter.unusedSimpArgs false
set_option maxRecDepth 100000

section
variable {H : Type} {P : Program}
theorem wAll_mem {e : TypeId} {d : DataW H} : ∀ {l : List (DataW H)}, d ∈ l → ∀ n ∈ d.weights P e, n ∈ DataW.weightsAll P e l
  | [], h, _, _ => by simp at h
  | a :: l, h, n, hn => by
    simp only [DataW.weightsAll, List.mem_append]
    rcases List.mem_cons.1 h with rfl | h
    · exact .inl hn
    · exact .inr (wAll_mem h n hn)
def LightD (P : Program) (t : TypeId) (d : DataW H) : Prop := ∀ n ∈ d.weights P t, n ≤ reachBytes
theorem light_arg {ts : List TypeId} {ds : List (DataW H)} (h : (DataW.weightsEach P ts ds).all (· ≤ reachBytes) = true) {j : Nat} {t : TypeId} {d : DataW H} (ht : ts[j]? = some t) (hd : ds[j]? = some d) : LightD P t d := fun n hn => by
  have := List.all_eq_true.1 h _ (DataW.weights_mem_each ht hd n hn)
  simpa using this
end

section
variable {H : Type} {enc : TypeId × Value → H} {P : Program} {W : World}
theorem open_fields_w {t e : TypeId} {fs : Array Field} {fuel : Nat} {cs : List Value} {x : DataW H × List MemPlace} (ht : P.underlying t = some (.slice e)) (he : P.underlying e = some (.struct fs))
    (hone : oneCellFields P fs = true) (hC : P.cellsOf e = fs.size) (h : DataW.trod enc P W 0 (fun _ => true) true fuel t cs = some x) (hw : LightD P t x.1) :
    (cs = [.slice none 0 0] ∧ x = (.nil, [])) ∨
    ∃ (a : Addr) (len cap : Nat), cs = [.slice (some a) len cap] ∧ len ≤ cap ∧ cap ≤ maxLen ∧ len * P.bytesOf e ≤ reachBytes ∧
      ∀ i, i < len → ∃ (n : Nat), ∀ (j : Nat) (f : Field), fs[j]? = some f → ∃ (v : Value) (y : DataW H × List MemPlace), W.cell? (a.add (i * fs.size + j)) = some v ∧ DataW.trod enc P W 0 (fun _ => true) true n f.type [v] = some y ∧ LightD P f.type y.1 := by
  rcases open_slice ht h with h0 | ⟨a, len, cap, m, n, D, Pl, hcs, hb, hl, hm, hmm, hx, hi⟩
  · exact .inl h0
  · have hw1 : ∀ n, n = (((List.range len).map D).length + ((List.range (m - len)).map fun j => D (len + j)).length) * P.bytesOf e ∨ n ∈ DataW.weightsAll P e ((List.range len).map D) → n ≤ reachBytes := fun n hn => by
      refine hw n ?_
      rw [hx]
      simp only [DataW.weights, ht, List.mem_cons, List.mem_append]
      rcases hn with hn | hn
      · exact .inl hn
      · exact .inr (.inl hn)
    have hml : len ≤ m := by rw [hmm]; simp only [if_true]; exact hl
    refine .inr ⟨a, len, cap, hcs, hl, hm, ?_, fun i him => ?_⟩
    · have h1 := hw1 _ (.inl rfl)
      refine Nat.le_trans (Nat.mul_le_mul_right _ ?_) h1
      simp
    · obtain ⟨cs', hc, ht'⟩ := hi i (by omega)
      rw [hC] at hc
      obtain ⟨ys, n', hn', hy, hlen, hyl, hf⟩ := DataW.trod_struct he ht'
      obtain ⟨_, hcl, hat⟩ := World.cells?_some hc
      refine ⟨n', fun j f hj => ?_⟩
      obtain ⟨ho, hk⟩ := hone_of hone j f hj
      have hjl : j < fs.size := (Array.getElem?_eq_some_iff.1 hj).1
      have hcell := hat j hjl
      have hv : cs'[j]? = some (cs'[j]'(by omega)) := List.getElem?_eq_getElem (by omega)
      have h1 := hf j f hj
      rw [ho, hk] at h1
      have hone' : (cs'.drop j).take 1 = [cs'[j]'(by omega)] := by
        rw [List.drop_eq_getElem_cons (by omega)]
        rfl
      rw [hone'] at h1
      have hys : ys[j]? = some (ys[j]'(by omega)) := List.getElem?_eq_getElem (by omega)
      refine ⟨_, _, ?_, h1.trans hys, fun q hq => ?_⟩
      · rw [← Go.Deep.add_add, hcell, hv]
      · refine hw1 q (.inr (wAll_mem (d := D i) (List.mem_map.2 ⟨i, List.mem_range.2 him, rfl⟩) q ?_))
        have hDi : D i = .agg (ys.map (·.1)) := congrArg Prod.fst hy
        rw [hDi]
        simp only [DataW.weights, he]
        refine DataW.weights_mem_each (j := j) (t := f.type) (d := (ys[j]'(by omega)).1) ?_ ?_ q hq
        · rw [List.getElem?_map, Array.getElem?_toList, hj]; rfl
        · rw [List.getElem?_map, hys]; rfl

def OpenW (enc : TypeId × Value → H) (P : Program) (W : World) (t : TypeId) (α : Type) (e : α → D) (ok : α → Prop) : Prop :=
  ∀ (fuel : Nat) (v : Value) (y : DataW H × List MemPlace), DataW.trod enc P W 0 (fun _ => true) true fuel t [v] = some y → LightD P t y.1 → ∃ x : α, DenD (allM W) (e x) v ∧ v.oneCell' = true ∧ ok x
theorem OpenW.str {t : TypeId} (ht : P.underlying t = some .string) : OpenW enc P W t ByteArray (fun x => .val (.string x)) (fun x => x.size ≤ reachBytes) := fun fuel v y h hw => by
  obtain ⟨n, h1, h2, _⟩ := DataW.trod_string ht h
  simp at h1
  subst h1
  refine ⟨n, .val _, rfl, ?_⟩
  have := hw n.data.toList.length (by rw [h2]; simp [DataW.weights])
  simpa using this
def ElemW (enc : TypeId × Value → H) (P : Program) (W : World) (fs : Array Field) (α : Type) (e : α → Nat → D) (ok : α → Prop) : Prop :=
  ∀ c : Nat → Value, (∀ (j : Nat) (f : Field), fs[j]? = some f → ∃ (n : Nat) (y : DataW H × List MemPlace), DataW.trod enc P W 0 (fun _ => true) true n f.type [c j] = some y ∧ LightD P f.type y.1) → ∃ x : α, ok x ∧ ∀ j, j < fs.size → DenD (allM W) (e x j) (c j) ∧ (c j).oneCell' = true
theorem OpenW.rows {t et : TypeId} {fs : Array Field} {α : Type} [Inhabited α] {e : α → Nat → D} {ok : α → Prop} (ht : P.underlying t = some (.slice et)) (he : P.underlying et = some (.struct fs)) (hone : oneCellFields P fs = true) (hC : P.cellsOf et = fs.size) (hE : ElemW enc P W fs α e ok) :
    OpenW enc P W t (List α) (fun l => .lst fs.size l.length (rowF e l)) (fun l => l.length ≤ maxLen ∧ l.length * P.bytesOf et ≤ reachBytes ∧ ∀ x ∈ l, ok x) := fun fuel v y h hw => by
  rcases open_fields_w ht he hone hC h hw with ⟨hcs, _⟩ | ⟨a, len, cap, hcs, hl, hm, hmm, hi⟩
  · simp at hcs
    subst hcs
    exact ⟨[], Dle.nil _ _ _ _ (.val _), rfl, by simp [maxLen], by simp, by simp⟩
  · simp at hcs
    subst hcs
    have each : ∀ i : Nat, ∃ q : (Nat → Value) × α, i < len → ok q.2 ∧ ∀ j, j < fs.size → W.cell? (a.add (i * fs.size + j)) = some (q.1 j) ∧ DenD (allM W) (e q.2 j) (q.1 j) ∧ (q.1 j).oneCell' = true := by
      intro i
      by_cases hil : i < len
      · obtain ⟨n, hn⟩ := hi i (by omega)
        have hc : ∀ j, ∃ v : Value, ∀ f, fs[j]? = some f → W.cell? (a.add (i * fs.size + j)) = some v ∧ ∃ y, DataW.trod enc P W 0 (fun _ => true) true n f.type [v] = some y ∧ LightD P f.type y.1 := fun j => by
          cases hf : fs[j]? with
          | none => exact ⟨undef, fun f h => by cases h⟩
          | some f =>
            obtain ⟨v, y, h1, h2⟩ := hn j f hf
            exact ⟨v, fun f' h => by cases h; exact ⟨h1, y, h2⟩⟩
        obtain ⟨c, hc⟩ := Classical.axiomOfChoice hc
        obtain ⟨x, h1, h2⟩ := hE c fun j f hf => by
          obtain ⟨_, y, h3⟩ := hc j f hf
          exact ⟨n, y, h3⟩
        refine ⟨(c, x), fun _ => ⟨h1, fun j hj => ?_⟩⟩
        obtain ⟨h3, _⟩ := hc j fs[j] (by simp [hj])
        exact ⟨h3, h2 j hj⟩
      · exact ⟨(fun _ => undef, default), fun h => absurd h hil⟩
    obtain ⟨g, hg⟩ := Classical.axiomOfChoice each
    have hlen : ((List.range len).map fun i => (g i).2).length = len := by simp
    refine ⟨(List.range len).map fun i => (g i).2, ?_, rfl, by rw [hlen]; omega, by rw [hlen]; exact hmm, fun x hx => ?_⟩
    · have hel : ∀ i, i < len → ((List.range len).map fun i => (g i).2).getD i default = (g i).2 := fun i hi => by
        simp [List.getD_eq_getElem?_getD, List.getElem?_map, List.getElem?_range hi]
      have hd := DenD.lst (M := allM W) fs.size len (rowF e ((List.range len).map fun i => (g i).2)) (some a) cap (fun i j => (g i).1 j) (by omega) hm (fun h => by cases h) (fun ad had i hi j hj => by
        cases had
        obtain ⟨_, h2⟩ := hg i hi
        obtain ⟨h3, _, h4⟩ := h2 j hj
        exact allM_of h3 h4) (fun i hi j hj => by
        obtain ⟨_, h2⟩ := hg i hi
        obtain ⟨_, h3, _⟩ := h2 j hj
        unfold rowF
        rw [hel i hi]
        exact h3)
      show DenD (allM W) (.lst fs.size ((List.range len).map fun i => (g i).2).length (rowF e ((List.range len).map fun i => (g i).2))) _
      rw [hlen]
      exact hd
    · obtain ⟨i, hi', rfl⟩ := List.mem_map.1 hx
      exact (hg i (List.mem_range.1 hi')).1
theorem ElemOf.w {fs : Array Field} {α : Type} {e : α → Nat → D} {ok : α → Prop} (h : ElemOf enc P W fs α e ok) : ElemW enc P W fs α e ok := fun c hc => h c fun j f hj => by
  obtain ⟨n, y, h1, _⟩ := hc j f hj
  exact ⟨n, y, h1⟩
end

section
variable {H : Type} {enc : TypeId × Value → H} {W : World} {b0 : Nat} {v : Value} {d : DataW H} {ps : List MemPlace}
theorem ew_lot {fs : Array Field} (hfs : Tryz.prog.underlying 43 = some (.struct fs)) : ElemW enc Tryz.prog W fs Lt ltE (fun x => x.c.size ≤ 4611686018427387904 ∧ x.us.length ≤ 4611686018427387904) := by
  rw [Tryz.underlying43] at hfs
  cases hfs
  intro c hf
  obtain ⟨_, y0, h0, _⟩ := hf 0 _ rfl
  obtain ⟨_, y1, h1, w1⟩ := hf 1 _ rfl
  obtain ⟨_, y2, h2, _⟩ := hf 2 _ rfl
  obtain ⟨_, y3, h3, _⟩ := hf 3 _ rfl
  obtain ⟨_, y4, h4, w4⟩ := hf 4 _ rfl
  obtain ⟨a, d0, o0, _⟩ := OpenC.int (enc := enc) (P := Tryz.prog) (W := W) Tryz.underlying3 _ _ _ h0
  obtain ⟨b, d1, o1, k1⟩ := OpenW.str (enc := enc) (P := Tryz.prog) (W := W) Tryz.underlying9 _ _ _ h1 w1
  obtain ⟨q, d2, o2, _⟩ := OpenC.int (enc := enc) (P := Tryz.prog) (W := W) Tryz.underlying3 _ _ _ h2
  obtain ⟨p, d3, o3, _⟩ := OpenC.int (enc := enc) (P := Tryz.prog) (W := W) Tryz.underlying3 _ _ _ h3
  obtain ⟨l, d4, o4, _, k4, _⟩ := OpenW.rows (enc := enc) (P := Tryz.prog) (W := W) Tryz.underlying23 Tryz.underlying72 (by kernel_rfl) (by kernel_rfl) (ElemOf.w (el_sl Tryz.underlying72)) _ _ _ h4 w4
  have hb : Tryz.prog.bytesOf 72 ≠ 0 := by decide +kernel
  have k5 : l.length ≤ 4611686018427387904 := by
    refine Nat.le_trans (Nat.le_mul_of_pos_right _ (by omega)) (Nat.le_trans k4 (by decide))
  refine ⟨⟨a, b, q, p, l⟩, ⟨Nat.le_trans k1 (by decide), k5⟩, fun j hj => ?_⟩
  match j, hj with
  | 0, _ => exact ⟨d0, o0⟩
  | 1, _ => exact ⟨d1, o1⟩
  | 2, _ => exact ⟨d2, o2⟩
  | 3, _ => exact ⟨d3, o3⟩
  | 4, _ => exact ⟨d4, o4⟩
theorem ow_lots (hv : Value.okWide Tryz.prog W .any b0 34 v) (h : DataW.Trod enc Tryz.prog W 0 (fun _ => true) true 34 v d ps) (hw : LightD Tryz.prog 34 d) : ∃ l : List Lt, DenP (allM W) (.dat (ltD l)) v ∧ l.length ≤ 4611686018427387904 ∧ ∀ x ∈ l, x.c.size ≤ 4611686018427387904 ∧ x.us.length ≤ 4611686018427387904 := by
  obtain ⟨A, len, cap, rfl⟩ := okWide_slice Tryz.underlying34 hv
  obtain ⟨fuel, hf⟩ := h
  obtain ⟨x, h1, _, h2, h3, h4⟩ := (OpenW.rows (enc := enc) (P := Tryz.prog) (W := W) Tryz.underlying34 Tryz.underlying43 (by kernel_rfl) (by kernel_rfl) (ew_lot Tryz.underlying43)) _ _ _ hf hw
  have hb : Tryz.prog.bytesOf 43 ≠ 0 := by decide +kernel
  exact ⟨x, fun ρ => .dat h1, Nat.le_trans (Nat.le_mul_of_pos_right _ (by omega)) (Nat.le_trans h3 (by decide)), h4⟩
end
end Go.Proofs.YtleknjngglhmaaaGreat
