/- The frame of a law's statement: its arguments opened, and read again behind a call that only lays new blocks. -/
import Derived.Test.YteilknlokjfelaaPost
import Derived.Test.YteilknlokjfelaaRowsX
import Derived.Carry
import Derived.ChangeSlices
import Derived.Deep.Slices
import Derived.Deep.Fields
import Derived.Lib.SmallJoins
import Derived.ChangeMaps5
namespace Go.Proofs.Yteilknlokjfelaa
open Go.RowKit Go.WideShapes Go.ChangeShapes Go.Deep
set_option linter.unusedVariables false

theorem laid_ : laidOutB Try.prog = true := by kernel_rfl

section
variable {H : Type} {enc : TypeId × Value → H} {P : Program}

theorem trodAll_again (hl : laidOutB P = true) {W W' : World} {sp' : Nat → Bool} : ∀ {ts : List TypeId} {vs : List Value} {ds : List (DataW H)} {ps : List MemPlace}, (∀ t ∈ ts, P.readableRec t = true ∧ t < P.types.size) →
    DataW.TrodAll enc P W 0 (fun _ => true) true ts vs ds ps → (∀ p ∈ ps, W.sameAt W' p) → (∀ p ∈ ps, sp' p.block = true) → DataW.TrodAll enc P W' 0 sp' true ts vs ds ps
  | [], [], [], _, _, h, _, _ => h
  | t :: _, _ :: _, _ :: _, _, hT, ⟨p, q, h1, h2, e⟩, hw, hs =>
    ⟨p, q, WideElems.Trod_stays hl (hT t (by simp)).1 (hT t (by simp)).2 h1 (fun x hx => hw x (by rw [e]; simp [hx])) (fun x hx => hs x (by rw [e]; simp [hx])),
      trodAll_again hl (fun t ht => hT t (by simp [ht])) h2 (fun x hx => hw x (by rw [e]; simp [hx])) (fun x hx => hs x (by rw [e]; simp [hx])), e⟩

/-- A law's last step: it answered true and only laid new blocks. -/
theorem law_post {f : Func} {s : ChangeSpec} {apart fresh handsOn again : Bool} {W W' : World} {args : Array Value} {ds gs : List (DataW H)} {before p : List MemPlace} {tb : TypeId}
    (hl : laidOutB P = true) (hT : (f.params.toList.all fun t => P.readableRec t && decide (t < P.types.size)) = true) (hb0 : P.underlying tb = some .bool) (hrt : f.resultTypes = #[tb])
    (hW : DataW.Whole enc P f.params.toList s.vars apart W args.toList ds gs before) (hA : DataW.TrodAll enc P W 0 (fun _ => true) true f.params.toList args.toList ds p) (hp : before = p) (hvar : s.vars = []) (hg : gs = [])
    (hs : s.fn H ds = { results := [.lit (.bool true)], args := ds }) (hb : Below W.heap.size W W') : s.post enc P f apart fresh handsOn again W args (.bool true) W' := by
  have hlt : ∀ x ∈ before, x.block < W.heap.size := fun x hx => hW.lt x hx
  subst hg hp
  refine post_of_below (pa := before) (pv := []) hW (fun b sp hd => ?_) (fun sp hsp => ?_) (fun sp _ => ?_) (by simp) hb ?_
  · rw [List.append_nil, hs, hrt]
    exact trodAll_mk1 (shut_bool hb0 _)
  · rw [List.append_nil, hs]
    refine trodAll_again hl (fun t ht => ?_) hA (fun x hx => hb.same (hlt x hx)) hsp
    have := List.all_eq_true.1 hT t ht
    simpa using this
  · rw [List.append_nil, hs, hvar]
    exact rfl
  · intro j t r hj hr
    rw [hrt] at hj hr
    match j, hj, hr with
    | 0, hj, hr =>
      obtain rfl := Option.some.inj hj
      obtain rfl := Option.some.inj hr
      exact okWide_bool_mk hb0 _
    | j + 1, hj, _ => simp at hj
end

theorem i64_rng {a : Int} (h : (Lit.int .i64 a).wf = true) : -9223372036854775808 ≤ a ∧ a ≤ 9223372036854775807 := bounds_i64 h

section
variable {H : Type} {enc : TypeId × Value → H} {W : World}
theorem rows_int {t e : TypeId} {k : IntKind} {b0 : Nat} {v : Value} {d : DataW H} {ps : List MemPlace} (ht : Try.prog.underlying t = some (.slice e)) (he : Try.prog.underlying e = some (.int k)) (hc : Try.prog.cellsOf e = 1) (hv : Value.okWide Try.prog W .any b0 t v) (h : DataW.Trod enc Try.prog W 0 (fun _ => true) true t v d ps) :
    ∃ A c xs, v = .slice A (List.length xs) c ∧ xs.length ≤ c ∧ c ≤ maxLen ∧ RowsW W W.heap.size A 1 (xs.map fun x => [.int k x]) ∧ ∀ x ∈ xs, (Lit.int k x).wf = true := by
  obtain ⟨A, len, cap, rfl⟩ := okWide_slice ht hv
  obtain ⟨fuel, hf⟩ := h
  rcases open_ints ht he hc hf with ⟨hcs, _⟩ | ⟨a, len', cap', zs, hcs, _, hl, hm, hz, _, hcell, hwz⟩
  · simp [Value.cells] at hcs
    obtain ⟨rfl, rfl, rfl⟩ := hcs
    exact ⟨none, 0, [], rfl, by simp, by simp [maxLen], RowsW.nil, by simp⟩
  · simp [Value.cells] at hcs
    obtain ⟨rfl, rfl, rfl⟩ := hcs
    simp only [if_true] at hz
    have e1 : (zs.take len).length = len := by rw [List.length_take]; omega
    refine ⟨some a, cap, zs.take len, by rw [e1], by omega, hm, fun i r hr => ?_, fun x hx => hwz x (List.mem_of_mem_take hx)⟩
    rw [List.getElem?_map, Option.map_eq_some_iff] at hr
    obtain ⟨x, hx, rfl⟩ := hr
    have hi : i < len := by have := (List.getElem?_eq_some_iff.1 hx).1; omega
    have hcl := hcell i (by omega)
    have hx' : zs[i]? = some x := by rw [List.getElem?_take] at hx; simpa [hi] using hx
    have hlt := World.block_lt_of_cell? W _ hcl
    rw [block_of_add] at hlt
    refine ⟨a, rfl, hlt, fun j u hu => ?_⟩
    match j, hu with
    | 0, hu =>
      obtain rfl := Option.some.inj hu
      rw [Nat.mul_one, Nat.add_zero, hcl]
      simp [List.getD, hx']
    | j + 1, hu => simp at hu
theorem open_intl {b0 : Nat} {v : Value} {d : DataW H} {ps : List MemPlace} (hv : Value.okWide Try.prog W .any b0 22 v) (h : DataW.Trod enc Try.prog W 0 (fun _ => true) true 22 v d ps) :
    ∃ A c xs, v = .slice A (List.length xs) c ∧ xs.length ≤ c ∧ c ≤ maxLen ∧ Ints W W.heap.size A xs ∧ ∀ x ∈ xs, (Lit.int .i64 x).wf = true :=
  rows_int Try.underlying22 Try.underlying3 (by kernel_rfl) hv h
end

section
variable {H : Type} {enc : TypeId × Value → H} {P : Program} {w : World} {base : Nat} {spare : Nat → Bool} {held : Bool}
/-- A slice of structs of one-cell fields, opened (after the kit's page of structs). -/
theorem open_slice_fields {t e : TypeId} {fs : Array Field} {fuel : Nat} {cs : List Value} {x : DataW H × List MemPlace} (ht : P.underlying t = some (.slice e)) (he : P.underlying e = some (.struct fs))
    (hone : oneCellFields P fs = true) (hC : P.cellsOf e = fs.size) (h : DataW.trod enc P w base spare held fuel t cs = some x) :
    (cs = [.slice none 0 0] ∧ x = (.nil, [])) ∨
    ∃ (a : Addr) (len cap m : Nat), cs = [.slice (some a) len cap] ∧ len ≤ cap ∧ cap ≤ maxLen ∧ m = (if spare a.block then cap else len) ∧
      ∀ i, i < m → ∃ (n : Nat), ∀ (j : Nat) (f : Field), fs[j]? = some f → ∃ (v : Value) (y : DataW H × List MemPlace), w.cell? (a.add (i * fs.size + j)) = some v ∧ DataW.trod enc P w base spare held n f.type [v] = some y := by
  rcases open_slice ht h with h0 | ⟨a, len, cap, m, n, D, Pl, hcs, hb, hl, hm, hmm, hx, hi⟩
  · exact .inl h0
  · refine .inr ⟨a, len, cap, m, hcs, hl, hm, hmm, fun i him => ?_⟩
    obtain ⟨cs', hc, ht'⟩ := hi i him
    rw [hC] at hc
    obtain ⟨ys, n', hn', hy, hlen, hyl, hf⟩ := DataW.trod_struct he ht'
    obtain ⟨_, hcl, hat⟩ := World.cells?_some hc
    refine ⟨n', fun j f hj => ?_⟩
    obtain ⟨ho, hk⟩ := hone_of hone j f hj
    have hjl : j < fs.size := (Array.getElem?_eq_some_iff.1 hj).1
    have hcell := hat j hjl
    have hv : cs'[j]? = some (cs'[j]'(by omega)) := List.getElem?_eq_getElem (by omega)
    have h1 := hf j f hj
    rw [ho, hk] at h1
    have hone' : (cs'.drop j).take 1 = [cs'[j]'(by omega)] := by
      rw [List.drop_eq_getElem_cons (by omega)]
      rfl
    rw [hone'] at h1
    have hys : ys[j]? = some (ys[j]'(by omega)) := List.getElem?_eq_getElem (by omega)
    refine ⟨_, _, ?_, h1.trans hys⟩
    rw [← Go.Deep.add_add, hcell, hv]

/-- A slice of structs reads as a list, whose elements are had one by one. -/
theorem open_rows {α : Type} {t e : TypeId} {fs : Array Field} {b0 : Nat} {v : Value} {d : DataW H} {ps : List MemPlace} (cells : α → List Value) (ok : α → Prop) (dflt : α) (ht : P.underlying t = some (.slice e)) (he : P.underlying e = some (.struct fs))
    (hone : oneCellFields P fs = true) (hC : P.cellsOf e = fs.size) (hv : Value.okWide P w .any b0 t v) (h : DataW.Trod enc P w 0 (fun _ => true) true t v d ps)
    (hcl : ∀ x, (cells x).length = fs.size) (hsz : 0 < fs.size)
    (elem : ∀ (n : Nat) (c : Nat → Option Value), (∀ (j : Nat) (f : Field), fs[j]? = some f → ∃ (v : Value) (y : DataW H × List MemPlace), c j = some v ∧ DataW.trod enc P w 0 (fun _ => true) true n f.type [v] = some y) → ∃ x : α, ok x ∧ ∀ j u, (cells x)[j]? = some u → c j = some u) :
    ∃ A c xs, v = .slice A (List.length xs) c ∧ xs.length ≤ c ∧ c ≤ maxLen ∧ RowsW w w.heap.size A fs.size (xs.map cells) ∧ ∀ x ∈ xs, ok x := by
  obtain ⟨A, len, cap, rfl⟩ := okWide_slice ht hv
  obtain ⟨fuel, hf⟩ := h
  rcases open_slice_fields ht he hone hC hf with ⟨hcs, _⟩ | ⟨a, len', cap', m, hcs, hl, hm, hmm, hi⟩
  · simp [Value.cells] at hcs
    obtain ⟨rfl, rfl, rfl⟩ := hcs
    exact ⟨none, 0, [], rfl, by simp, by simp [maxLen], RowsW.nil, by simp⟩
  · simp [Value.cells] at hcs
    obtain ⟨rfl, rfl, rfl⟩ := hcs
    simp only [if_true] at hmm
    have each : ∀ i : Nat, ∃ x : α, i < len → ok x ∧ ∀ j u, (cells x)[j]? = some u → w.cell? (a.add (i * fs.size + j)) = some u := by
      intro i
      by_cases hil : i < len
      · obtain ⟨n, hn⟩ := hi i (by omega)
        obtain ⟨x, h1, h2⟩ := elem n (fun j => w.cell? (a.add (i * fs.size + j))) hn
        exact ⟨x, fun _ => ⟨h1, h2⟩⟩
      · exact ⟨dflt, fun h => absurd h hil⟩
    obtain ⟨g, hg⟩ := Classical.axiomOfChoice each
    refine ⟨some a, cap, (List.range len).map g, by simp, by simp; omega, hm, fun i r hr => ?_, fun x hx => ?_⟩
    · rw [List.getElem?_map, List.getElem?_map, Option.map_eq_some_iff] at hr
      obtain ⟨x, hx, rfl⟩ := hr
      rw [Option.map_eq_some_iff] at hx
      obtain ⟨i', hi', rfl⟩ := hx
      have hil : i < len := by have := (List.getElem?_eq_some_iff.1 hi').1; simpa using this
      obtain rfl : i' = i := by
        rw [List.getElem?_range hil] at hi'
        exact (Option.some.inj hi').symm
      have h2 := (hg i' hil).2
      have h0 := h2 0 _ (List.getElem?_eq_getElem (by rw [hcl]; exact hsz))
      have hlt := World.block_lt_of_cell? w _ h0
      rw [block_of_add] at hlt
      exact ⟨a, rfl, hlt, h2⟩
    · obtain ⟨i, hi', rfl⟩ := List.mem_map.1 hx
      exact (hg i (List.mem_range.1 hi')).1
end

end Go.Proofs.Yteilknlokjfelaa
