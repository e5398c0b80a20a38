/- The frame of a law's statement, as far as the walks by descriptions want it. A law's arguments as they come in, described. -/
import Derived.Test.YtojkeidijdcfoaaGreatDoorPost
import Derived.Carry
import Derived.ChangeSlices
import Derived.Deep.Slices
import Derived.Deep.Fields
import Derived.Lib.SmallJoins
import Derived.ChangeMaps5
import Derived.Test.YtojkeidijdcfoaaGreatDoorW0

namespace Go.Proofs.YtojkeidijdcfoaaGreatDoor
open Go.RowKit Go.WideShapes Go.ChangeShapes Go.Deep
set_option linter.unusedVariables false

theorem laid_ : laidOutB Tryz.prog = true := by kernel_rfl

section
variable {H : Type} {enc : TypeId × Value → H} {P : Program}

theorem trodAll_again (hl : laidOutB P = true) {W W' : World} {sp' : Nat → Bool} : ∀ {ts : List TypeId} {vs : List Value} {ds : List (DataW H)} {ps : List MemPlace}, (∀ t ∈ ts, P.readableRec t = true ∧ t < P.types.size) →
    DataW.TrodAll enc P W 0 (fun _ => true) true ts vs ds ps → (∀ p ∈ ps, W.sameAt W' p) → (∀ p ∈ ps, sp' p.block = true) → DataW.TrodAll enc P W' 0 sp' true ts vs ds ps
  | [], [], [], _, _, h, _, _ => h
  | t :: _, _ :: _, _ :: _, _, hT, ⟨p, q, h1, h2, e⟩, hw, hs =>
    ⟨p, q, WideElems.Trod_stays hl (hT t (by simp)).1 (hT t (by simp)).2 h1 (fun x hx => hw x (by rw [e]; simp [hx])) (fun x hx => hs x (by rw [e]; simp [hx])),
      trodAll_again hl (fun t ht => hT t (by simp [ht])) h2 (fun x hx => hw x (by rw [e]; simp [hx])) (fun x hx => hs x (by rw [e]; simp [hx])), e⟩

theorem law_post {f : Func} {s : ChangeSpec} {apart fresh handsOn again : Bool} {W W' : World} {args : Array Value} {ds gs : List (DataW H)} {before p : List MemPlace} {tb : TypeId}
    (hl : laidOutB P = true) (hT : (f.params.toList.all fun t => P.readableRec t && decide (t < P.types.size)) = true) (hb0 : P.underlying tb = some .bool) (hrt : f.resultTypes = #[tb])
    (hW : DataW.Whole enc P f.params.toList s.vars apart W args.toList ds gs before) (hA : DataW.TrodAll enc P W 0 (fun _ => true) true f.params.toList args.toList ds p) (hp : before = p) (hvar : s.vars = []) (hg : gs = [])
    (hs : s.fn H ds = { results := [.lit (.bool true)], args := ds }) (hb : Below W.heap.size W W') : s.post enc P f apart fresh handsOn again W args (.bool true) W' := by
  have hlt : ∀ x ∈ before, x.block < W.heap.size := fun x hx => hW.lt x hx
  subst hg hp
  refine post_of_below (pa := before) (pv := []) hW (fun b sp hd => ?_) (fun sp hsp => ?_) (fun sp _ => ?_) (by simp) hb ?_
  · rw [List.append_nil, hs, hrt]
    exact trodAll_mk1 (shut_bool hb0 _)
  · rw [List.append_nil, hs]
    refine trodAll_again hl (fun t ht => ?_) hA (fun x hx => hb.same (hlt x hx)) hsp
    have := List.all_eq_true.1 hT t ht
    simpa using this
  · rw [List.append_nil, hs, hvar]
    exact rfl
  · intro j t r hj hr
    rw [hrt] at hj hr
    match j, hj, hr with
    | 0, hj, hr =>
      obtain rfl := Option.some.inj hj
      obtain rfl := Option.some.inj hr
      exact okWide_bool_mk hb0 _
    | j + 1, hj, _ => simp at hj
end

section
variable {H : Type} {enc : TypeId × Value → H} {P : Program} {w : World} {base : Nat} {spare : Nat → Bool} {held : Bool}
end

end Go.Proofs.YtojkeidijdcfoaaGreatDoor

namespace Go.Proofs.YtojkeidijdcfoaaGreatDoor
open Go Go.RowKit Go.WideShapes Go.ChangeShapes Go.Deep
set_option linter.unusedVariables false
set_option linter.unusedSimpArgs false

section
variable {H : Type} {enc : TypeId × Value → H} {P : Program} {W : World}

def OpenC (enc : TypeId × Value → H) (P : Program) (W : World) (t : TypeId) (α : Type) (e : α → D) (ok : α → Prop) : Prop :=
  ∀ (fuel : Nat) (v : Value) (y : DataW H × List MemPlace), DataW.trod enc P W 0 (fun _ => true) true fuel t [v] = some y → ∃ x : α, DenD (allM W) (e x) v ∧ v.oneCell' = true ∧ ok x
theorem OpenC.int {t : TypeId} {k : IntKind} (ht : P.underlying t = some (.int k)) : OpenC enc P W t Int (fun x => .val (.int k x)) (fun x => (Lit.int k x).wf = true) := fun fuel v y h => by
  obtain ⟨n, h1, _, h2⟩ := DataW.trod_int ht h
  simp at h1
  subst h1
  exact ⟨n, .val _, rfl, h2⟩
theorem OpenC.bool {t : TypeId} (ht : P.underlying t = some .bool) : OpenC enc P W t Bool (fun x => .val (.bool x)) (fun _ => True) := fun fuel v y h => by
  obtain ⟨n, h1, _⟩ := DataW.trod_bool ht h
  simp at h1
  subst h1
  exact ⟨n, .val _, rfl, trivial⟩
theorem OpenC.ints {t e : TypeId} (ht : P.underlying t = some (.slice e)) (he : P.underlying e = some (.int .i64)) (hc : P.cellsOf e = 1) : OpenC enc P W t (List Int) (fun l => iD l) (fun l => l.length ≤ maxLen ∧ ∀ x ∈ l, (Lit.int .i64 x).wf = true) := fun fuel v y h => by
  rcases open_ints ht he hc h with ⟨hcs, _⟩ | ⟨a, len, cap, zs, hcs, _, hl, hm, hz, _, hcell, hwz⟩
  · simp at hcs
    subst hcs
    exact ⟨[], Dle.nil _ _ _ _ (.val _), rfl, by simp [maxLen], by simp⟩
  · simp at hcs
    subst hcs
    simp only [if_true] at hz
    have e1 : (zs.take len).length = len := by rw [List.length_take]; omega
    refine ⟨zs.take len, ?_, rfl, by omega, fun x hx => hwz x (List.mem_of_mem_take hx)⟩
    have hd := DenD.lst (M := allM W) 1 (zs.take len).length (rowF iE (zs.take len)) (some a) cap (fun i _ => .int .i64 ((zs.take len).getD i 0)) (by omega) hm (fun h => by cases h) (fun ad had i hi j hj => by
      cases had
      obtain rfl : j = 0 := by omega
      rw [Nat.mul_one, Nat.add_zero]
      refine allM_of ?_ rfl
      rw [hcell i (by omega)]
      have hi2 : i < len := by omega
      simp [List.getElem?_take, hi2]) (fun i hi j hj => by
      obtain rfl : j = 0 := by omega
      have : rowF iE (zs.take len) i 0 = .val (.int .i64 ((zs.take len).getD i 0)) := rfl
      rw [this]
      exact .val _)
    rw [e1] at hd
    show DenD (allM W) (.lst 1 (zs.take len).length (rowF iE (zs.take len))) _
    rw [e1]
    exact hd

theorem OpenC.sl {t et : TypeId} {α : Type} {e : α → D} {ok : α → Prop} {b0 : Nat} {v : Value} {d : DataW H} {ps : List MemPlace} (hO : OpenC enc P W t α e ok) (ht : P.underlying t = some (.slice et)) (hv : Value.okWide P W .any b0 t v) (h : DataW.Trod enc P W 0 (fun _ => true) true t v d ps) :
    ∃ x : α, DenP (allM W) (.dat (e x)) v ∧ ok x := by
  obtain ⟨A, len, cap, rfl⟩ := okWide_slice ht hv
  obtain ⟨fuel, hf⟩ := h
  obtain ⟨x, h1, _, h2⟩ := hO fuel _ _ hf
  exact ⟨x, fun ρ => .dat h1, h2⟩
end

def ParsD (M : Mem) : List AV → List Value → Prop
  | [], [] => True
  | c :: l, v :: r => DenP M c v ∧ ParsD M l r
  | _, _ => False
theorem ParsD_at {M : Mem} : ∀ {cs : List AV} {vs : List Value}, ParsD M cs vs → cs.length = vs.length ∧ ∀ (i : Nat) (c : AV) (v : Value), cs[i]? = some c → vs[i]? = some v → DenP M c v
  | [], [], _ => ⟨rfl, fun i c v h => by simp at h⟩
  | c :: l, v :: r, h => by
    obtain ⟨h1, h2⟩ := ParsD_at h.2
    refine ⟨by simp [h1], fun i c' v' hi hv => ?_⟩
    cases i with
    | zero => simp at hi hv; subst hi hv; exact h.1
    | succ i => exact h2 i c' v' (by simpa using hi) (by simpa using hv)
  | [], _ :: _, h => h.elim
  | _ :: _, [], h => h.elim
end Go.Proofs.YtojkeidijdcfoaaGreatDoor
