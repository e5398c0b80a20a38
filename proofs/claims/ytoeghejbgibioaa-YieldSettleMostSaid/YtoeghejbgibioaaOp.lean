/- The frame of a law's statement, as far as the walks by descriptions want it. A law's arguments as they come in, described. -/
import Derived.Test.YtoeghejbgibioaaPost
import Derived.Carry
import Derived.ChangeSlices
import Derived.Deep.Slices
import Derived.Deep.Fields
import Derived.Lib.SmallJoins
import Derived.ChangeMaps5
import Derived.Test.YtoeghejbgibioaaW0

namespace Go.Proofs.Ytoeghejbgibioaa
open Go.RowKit Go.WideShapes Go.ChangeShapes Go.Deep
set_option linter.unusedVariables false

theorem laid_ : laidOutB Try.prog = true := by kernel_rfl

section
variable {H : Type} {enc : TypeId × Value → H} {P : Program}

theorem trodAll_again (hl : laidOutB P = true) {W W' : World} {sp' : Nat → Bool} : ∀ {ts : List TypeId} {vs : List Value} {ds : List (DataW H)} {ps : List MemPlace}, (∀ t ∈ ts, P.readableRec t = true ∧ t < P.types.size) →
    DataW.TrodAll enc P W 0 (fun _ => true) true ts vs ds ps → (∀ p ∈ ps, W.sameAt W' p) → (∀ p ∈ ps, sp' p.block = true) → DataW.TrodAll enc P W' 0 sp' true ts vs ds ps
  | [], [], [], _, _, h, _, _ => h
  | t :: _, _ :: _, _ :: _, _, hT, ⟨p, q, h1, h2, e⟩, hw, hs =>
    ⟨p, q, WideElems.Trod_stays hl (hT t (by simp)).1 (hT t (by simp)).2 h1 (fun x hx => hw x (by rw [e]; simp [hx])) (fun x hx => hs x (by rw [e]; simp [hx])),
      trodAll_again hl (fun t ht => hT t (by simp [ht])) h2 (fun x hx => hw x (by rw [e]; simp [hx])) (fun x hx => hs x (by rw [e]; simp [hx])), e⟩

theorem law_post {f : Func} {s : ChangeSpec} {apart fresh handsOn again : Bool} {W W' : World} {args : Array Value} {ds gs : List (DataW H)} {before p : List MemPlace} {tb : TypeId}
    (hl : laidOutB P = true) (hT : (f.params.toList.all fun t => P.readableRec t && decide (t < P.types.size)) = true) (hb0 : P.underlying tb = some .bool) (hrt : f.resultTypes = #[tb])
    (hW : DataW.Whole enc P f.params.toList s.vars apart W args.toList ds gs before) (hA : DataW.TrodAll enc P W 0 (fun _ => true) true f.params.toList args.toList ds p) (hp : before = p) (hvar : s.vars = []) (hg : gs = [])
    (hs : s.fn H ds = { results := [.lit (.bool true)], args := ds }) (hb : Below W.heap.size W W') : s.post enc P f apart fresh handsOn again W args (.bool true) W' := by
  have hlt : ∀ x ∈ before, x.block < W.heap.size := fun x hx => hW.lt x hx
  subst hg hp
  refine post_of_below (pa := before) (pv := []) hW (fun b sp hd => ?_) (fun sp hsp => ?_) (fun sp _ => ?_) (by simp) hb ?_
  · rw [List.append_nil, hs, hrt]
    exact trodAll_mk1 (shut_bool hb0 _)
  · rw [List.append_nil, hs]
    refine trodAll_again hl (fun t ht => ?_) hA (fun x hx => hb.same (hlt x hx)) hsp
    have := List.all_eq_true.1 hT t ht
    simpa using this
  · rw [List.append_nil, hs, hvar]
    exact rfl
  · intro j t r hj hr
    rw [hrt] at hj hr
    match j, hj, hr with
    | 0, hj, hr =>
      obtain rfl := Option.some.inj hj
      obtain rfl := Option.some.inj hr
      exact okWide_bool_mk hb0 _
    | j + 1, hj, _ => simp at hj
end

section
variable {H : Type} {enc : TypeId × Value → H} {P : Program} {w : World} {base : Nat} {spare : Nat → Bool} {held : Bool}
theorem open_slice_fields {t e : TypeId} {fs : Array Field} {fuel : Nat} {cs : List Value} {x : DataW H × List MemPlace} (ht : P.underlying t = some (.slice e)) (he : P.underlying e = some (.struct fs))
    (hone : oneCellFields P fs = true) (hC : P.cellsOf e = fs.size) (h : DataW.trod enc P w base spare held fuel t cs = some x) :
    (cs = [.slice none 0 0] ∧ x = (.nil, [])) ∨
    ∃ (a : Addr) (len cap m : Nat), cs = [.slice (some a) len cap] ∧ len ≤ cap ∧ cap ≤ maxLen ∧ m = (if spare a.block then cap else len) ∧
      ∀ i, i < m → ∃ (n : Nat), ∀ (j : Nat) (f : Field), fs[j]? = some f → ∃ (v : Value) (y : DataW H × List MemPlace), w.cell? (a.add (i * fs.size + j)) = some v ∧ DataW.trod enc P w base spare held n f.type [v] = some y := by
  rcases open_slice ht h with h0 | ⟨a, len, cap, m, n, D, Pl, hcs, hb, hl, hm, hmm, hx, hi⟩
  · exact .inl h0
  · refine .inr ⟨a, len, cap, m, hcs, hl, hm, hmm, fun i him => ?_⟩
    obtain ⟨cs', hc, ht'⟩ := hi i him
    rw [hC] at hc
    obtain ⟨ys, n', hn', hy, hlen, hyl, hf⟩ := DataW.trod_struct he ht'
    obtain ⟨_, hcl, hat⟩ := World.cells?_some hc
    refine ⟨n', fun j f hj => ?_⟩
    obtain ⟨ho, hk⟩ := hone_of hone j f hj
    have hjl : j < fs.size := (Array.getElem?_eq_some_iff.1 hj).1
    have hcell := hat j hjl
    have hv : cs'[j]? = some (cs'[j]'(by omega)) := List.getElem?_eq_getElem (by omega)
    have h1 := hf j f hj
    rw [ho, hk] at h1
    have hone' : (cs'.drop j).take 1 = [cs'[j]'(by omega)] := by
      rw [List.drop_eq_getElem_cons (by omega)]
      rfl
    rw [hone'] at h1
    have hys : ys[j]? = some (ys[j]'(by omega)) := List.getElem?_eq_getElem (by omega)
    refine ⟨_, _, ?_, h1.trans hys⟩
    rw [← Go.Deep.add_add, hcell, hv]

end

end Go.Proofs.Ytoeghejbgibioaa

namespace Go.Proofs.Ytoeghejbgibioaa
open Go Go.RowKit Go.WideShapes Go.ChangeShapes Go.Deep
set_option linter.unusedVariables false
set_option linter.unusedSimpArgs false

section
variable {H : Type} {enc : TypeId × Value → H} {P : Program} {W : World}

def OpenC (enc : TypeId × Value → H) (P : Program) (W : World) (t : TypeId) (α : Type) (e : α → D) (ok : α → Prop) : Prop :=
  ∀ (fuel : Nat) (v : Value) (y : DataW H × List MemPlace), DataW.trod enc P W 0 (fun _ => true) true fuel t [v] = some y → ∃ x : α, DenD (allM W) (e x) v ∧ v.oneCell' = true ∧ ok x
theorem OpenC.int {t : TypeId} {k : IntKind} (ht : P.underlying t = some (.int k)) : OpenC enc P W t Int (fun x => .val (.int k x)) (fun x => (Lit.int k x).wf = true) := fun fuel v y h => by
  obtain ⟨n, h1, _, h2⟩ := DataW.trod_int ht h
  simp at h1
  subst h1
  exact ⟨n, .val _, rfl, h2⟩
theorem OpenC.bool {t : TypeId} (ht : P.underlying t = some .bool) : OpenC enc P W t Bool (fun x => .val (.bool x)) (fun _ => True) := fun fuel v y h => by
  obtain ⟨n, h1, _⟩ := DataW.trod_bool ht h
  simp at h1
  subst h1
  exact ⟨n, .val _, rfl, trivial⟩
theorem OpenC.str {t : TypeId} (ht : P.underlying t = some .string) : OpenC enc P W t ByteArray (fun x => .val (.string x)) (fun x => x.size ≤ maxLen) := fun fuel v y h => by
  obtain ⟨n, h1, _, h2⟩ := DataW.trod_string ht h
  simp at h1
  subst h1
  exact ⟨n, .val _, rfl, h2⟩
theorem OpenC.ints {t e : TypeId} (ht : P.underlying t = some (.slice e)) (he : P.underlying e = some (.int .i64)) (hc : P.cellsOf e = 1) : OpenC enc P W t (List Int) (fun l => iD l) (fun l => l.length ≤ maxLen ∧ ∀ x ∈ l, (Lit.int .i64 x).wf = true) := fun fuel v y h => by
  rcases open_ints ht he hc h with ⟨hcs, _⟩ | ⟨a, len, cap, zs, hcs, _, hl, hm, hz, _, hcell, hwz⟩
  · simp at hcs
    subst hcs
    exact ⟨[], Dle.nil _ _ _ _ (.val _), rfl, by simp [maxLen], by simp⟩
  · simp at hcs
    subst hcs
    simp only [if_true] at hz
    have e1 : (zs.take len).length = len := by rw [List.length_take]; omega
    refine ⟨zs.take len, ?_, rfl, by omega, fun x hx => hwz x (List.mem_of_mem_take hx)⟩
    have hd := DenD.lst (M := allM W) 1 (zs.take len).length (rowF iE (zs.take len)) (some a) cap (fun i _ => .int .i64 ((zs.take len).getD i 0)) (by omega) hm (fun h => by cases h) (fun ad had i hi j hj => by
      cases had
      obtain rfl : j = 0 := by omega
      rw [Nat.mul_one, Nat.add_zero]
      refine allM_of ?_ rfl
      rw [hcell i (by omega)]
      have hi2 : i < len := by omega
      simp [List.getElem?_take, hi2]) (fun i hi j hj => by
      obtain rfl : j = 0 := by omega
      have : rowF iE (zs.take len) i 0 = .val (.int .i64 ((zs.take len).getD i 0)) := rfl
      rw [this]
      exact .val _)
    rw [e1] at hd
    show DenD (allM W) (.lst 1 (zs.take len).length (rowF iE (zs.take len))) _
    rw [e1]
    exact hd

def ElemOf (enc : TypeId × Value → H) (P : Program) (W : World) (fs : Array Field) (α : Type) (e : α → Nat → D) (ok : α → Prop) : Prop :=
  ∀ c : Nat → Value, (∀ (j : Nat) (f : Field), fs[j]? = some f → ∃ (n : Nat) (y : DataW H × List MemPlace), DataW.trod enc P W 0 (fun _ => true) true n f.type [c j] = some y) → ∃ x : α, ok x ∧ ∀ j, j < fs.size → DenD (allM W) (e x j) (c j) ∧ (c j).oneCell' = true
theorem OpenC.rows {t et : TypeId} {fs : Array Field} {α : Type} [Inhabited α] {e : α → Nat → D} {ok : α → Prop} (ht : P.underlying t = some (.slice et)) (he : P.underlying et = some (.struct fs)) (hone : oneCellFields P fs = true) (hC : P.cellsOf et = fs.size) (hE : ElemOf enc P W fs α e ok) :
    OpenC enc P W t (List α) (fun l => .lst fs.size l.length (rowF e l)) (fun l => l.length ≤ maxLen ∧ ∀ x ∈ l, ok x) := fun fuel v y h => by
  rcases open_slice_fields ht he hone hC h with ⟨hcs, _⟩ | ⟨a, len, cap, m, hcs, hl, hm, hmm, hi⟩
  · simp at hcs
    subst hcs
    exact ⟨[], Dle.nil _ _ _ _ (.val _), rfl, by simp [maxLen], by simp⟩
  · simp at hcs
    subst hcs
    simp only [if_true] at hmm
    have each : ∀ i : Nat, ∃ q : (Nat → Value) × α, i < len → ok q.2 ∧ ∀ j, j < fs.size → W.cell? (a.add (i * fs.size + j)) = some (q.1 j) ∧ DenD (allM W) (e q.2 j) (q.1 j) ∧ (q.1 j).oneCell' = true := by
      intro i
      by_cases hil : i < len
      · obtain ⟨n, hn⟩ := hi i (by omega)
        have hc : ∀ j, ∃ v : Value, ∀ f, fs[j]? = some f → W.cell? (a.add (i * fs.size + j)) = some v ∧ ∃ y, DataW.trod enc P W 0 (fun _ => true) true n f.type [v] = some y := fun j => by
          cases hf : fs[j]? with
          | none => exact ⟨undef, fun f h => by cases h⟩
          | some f =>
            obtain ⟨v, y, h1, h2⟩ := hn j f hf
            exact ⟨v, fun f' h => by cases h; exact ⟨h1, y, h2⟩⟩
        obtain ⟨c, hc⟩ := Classical.axiomOfChoice hc
        obtain ⟨x, h1, h2⟩ := hE c fun j f hf => by
          obtain ⟨_, y, h3⟩ := hc j f hf
          exact ⟨n, y, h3⟩
        refine ⟨(c, x), fun _ => ⟨h1, fun j hj => ?_⟩⟩
        obtain ⟨h3, _⟩ := hc j fs[j] (by simp [hj])
        exact ⟨h3, h2 j hj⟩
      · exact ⟨(fun _ => undef, default), fun h => absurd h hil⟩
    obtain ⟨g, hg⟩ := Classical.axiomOfChoice each
    have hlen : ((List.range len).map fun i => (g i).2).length = len := by simp
    refine ⟨(List.range len).map fun i => (g i).2, ?_, rfl, by rw [hlen]; omega, fun x hx => ?_⟩
    · have hel : ∀ i, i < len → ((List.range len).map fun i => (g i).2).getD i default = (g i).2 := fun i hi => by
        simp [List.getD_eq_getElem?_getD, List.getElem?_map, List.getElem?_range hi]
      have hd := DenD.lst (M := allM W) fs.size len (rowF e ((List.range len).map fun i => (g i).2)) (some a) cap (fun i j => (g i).1 j) (by omega) hm (fun h => by cases h) (fun ad had i hi j hj => by
        cases had
        obtain ⟨_, h2⟩ := hg i hi
        obtain ⟨h3, _, h4⟩ := h2 j hj
        exact allM_of h3 h4) (fun i hi j hj => by
        obtain ⟨_, h2⟩ := hg i hi
        obtain ⟨_, h3, _⟩ := h2 j hj
        unfold rowF
        rw [hel i hi]
        exact h3)
      show DenD (allM W) (.lst fs.size ((List.range len).map fun i => (g i).2).length (rowF e ((List.range len).map fun i => (g i).2))) _
      rw [hlen]
      exact hd
    · obtain ⟨i, hi', rfl⟩ := List.mem_map.1 hx
      exact (hg i (List.mem_range.1 hi')).1

theorem OpenC.sl {t et : TypeId} {α : Type} {e : α → D} {ok : α → Prop} {b0 : Nat} {v : Value} {d : DataW H} {ps : List MemPlace} (hO : OpenC enc P W t α e ok) (ht : P.underlying t = some (.slice et)) (hv : Value.okWide P W .any b0 t v) (h : DataW.Trod enc P W 0 (fun _ => true) true t v d ps) :
    ∃ x : α, DenP (allM W) (.dat (e x)) v ∧ ok x := by
  obtain ⟨A, len, cap, rfl⟩ := okWide_slice ht hv
  obtain ⟨fuel, hf⟩ := h
  obtain ⟨x, h1, _, h2⟩ := hO fuel _ _ hf
  exact ⟨x, fun ρ => .dat h1, h2⟩
theorem ElemOf.par {t : TypeId} {fs : Array Field} {α : Type} {e : α → Nat → D} {ok : α → Prop} {b0 : Nat} {v : Value} {d : DataW H} {ps : List MemPlace} (hE : ElemOf enc P W fs α e ok) (hs : P.underlying t = some (.struct fs)) (hone : oneCellFields P fs = true) (hC : P.cellsOf t = fs.size)
    (hv : Value.okWide P W .any b0 t v) (h : DataW.Trod enc P W 0 (fun _ => true) true t v d ps) : ∃ x : α, DenP (allM W) (.agg ((List.range fs.size).map fun j => .dat (e x j))) v ∧ ok x := by
  obtain ⟨cs, rfl, hsz⟩ := okWide_struct hs hv
  obtain ⟨fuel, hf⟩ := h
  obtain ⟨xs, n, _, _, hl, hlen, hfl⟩ := DataW.trod_struct hs hf
  have hcs : cs.size = fs.size := hsz.trans hC
  obtain ⟨x, h1, h2⟩ := hE (fun j => cs.getD j undef) fun j f hj => by
    obtain ⟨ho, hk⟩ := hone_of hone j f hj
    have hjl : j < fs.size := (Array.getElem?_eq_some_iff.1 hj).1
    have h3 := hfl j f hj
    have hxs : xs[j]? = some (xs[j]'(by omega)) := List.getElem?_eq_getElem (by omega)
    refine ⟨n, xs[j]'(by omega), ?_⟩
    rw [ho, hk, hxs] at h3
    have e1 : ((Value.agg cs).cells.toList.drop j).take 1 = [cs.getD j undef] := by
      rw [List.drop_eq_getElem_cons (by simp [Value.cells]; omega)]
      have hj2 : j < cs.size := by omega
      simp [Value.cells, hj2]
    rw [e1] at h3
    exact h3
  refine ⟨x, fun ρ => ?_, h1⟩
  have := DenA.agg (ρ := ρ) (M := allM W) ((List.range fs.size).map fun j => .dat (e x j)) cs.toList (by simp [hcs]) fun i c u hi hu => by
    obtain ⟨hi1, rfl⟩ := range_map_at hi
    have hu2 : u = cs.getD i undef := by
      have hi2 : i < cs.size := by omega
      simp [hi2] at hu
      subst hu
      simp [hi2]
    subst hu2
    exact .dat (h2 i hi1).1
  rwa [Array.toArray_toList] at this
end

def ParsD (M : Mem) : List AV → List Value → Prop
  | [], [] => True
  | c :: l, v :: r => DenP M c v ∧ ParsD M l r
  | _, _ => False
theorem ParsD_at {M : Mem} : ∀ {cs : List AV} {vs : List Value}, ParsD M cs vs → cs.length = vs.length ∧ ∀ (i : Nat) (c : AV) (v : Value), cs[i]? = some c → vs[i]? = some v → DenP M c v
  | [], [], _ => ⟨rfl, fun i c v h => by simp at h⟩
  | c :: l, v :: r, h => by
    obtain ⟨h1, h2⟩ := ParsD_at h.2
    refine ⟨by simp [h1], fun i c' v' hi hv => ?_⟩
    cases i with
    | zero => simp at hi hv; subst hi hv; exact h.1
    | succ i => exact h2 i c' v' (by simpa using hi) (by simpa using hv)
  | [], _ :: _, h => h.elim
  | _ :: _, [], h => h.elim
theorem parI (M : Mem) (k : IntKind) (a : Int) : DenP M (.dat (.val (.int k a))) (.int k a) := fun ρ => .dat (.val _)
theorem parB (M : Mem) (b : Bool) : DenP M (bA b) (.bool b) := fun ρ => .dat (.val _)
theorem parS (M : Mem) (s : ByteArray) : DenP M (.dat (.val (.string s))) (.string s) := fun ρ => .dat (.val _)
theorem law_run {f : FuncId} {cs : List AV} (h : ACalls XX f cs (bA true)) (W : World) (vs : List Value) (hp : ParsD (allM W) cs vs) : Calls Try.prog f vs.toArray W fun e W' => e = .returned (.bool true) ∧ Below W.heap.size W W' := by
  obtain ⟨h1, h2⟩ := ParsD_at hp
  refine (h.out (allM W) W vs (fun g n c hl => by cases hl) (allM_ok W) h1 h2).mono fun e W' ⟨v, M', he, hd, _, _, _, hb, _⟩ => ?_
  have := val_of (hd fun _ => (none, 0))
  subst this
  exact ⟨he, hb⟩
end Go.Proofs.Ytoeghejbgibioaa
