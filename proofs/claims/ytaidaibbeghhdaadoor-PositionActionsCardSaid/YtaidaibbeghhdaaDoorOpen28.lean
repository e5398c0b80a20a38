/- The door seat: the listed variables, read; a law whose arguments are ints and bools. -/
import Derived.Test.YtaidaibbeghhdaaDoorRows
import Derived.Test.YtaidaibbeghhdaaDoorP1
import Derived.WalkKit
import Derived.ProofKit
import Derived.LaidMore
import Derived.OpenShut
import Derived.Stop.Joined
import Derived.Test.YtaidaibbeghhdaaDoorPost
import Derived.Carry
import Derived.ChangeSlices
import Derived.Deep.Slices
import Derived.Deep.Fields
import Derived.Lib.SmallJoins
import Derived.ChangeMaps5
namespace Go.Proofs.YtaidaibbeghhdaaDoor
open Go Go.ChangeShapes Go.WideShapes Go.ChangeAt Go.WideMaps Go.WideElems Go.RowKit
set_option linter.unusedVariables false

theorem Tryd.own : ownKnob Tryd.prog.godebug = none := by kernel_rfl
theorem gMl : Tryd.prog.globalNamed "customs/calendar.monthLengths" = some 1 := by kernel_rfl
theorem tMl : (Tryd.prog.globals[1]?).map (·.type) = some 63 := by kernel_rfl

theorem open_ints_arr {H : Type} {enc : TypeId × Value → H} {P : Program} {W : World} {fuel base n : Nat} {spare : Nat → Bool} {held : Bool} {t e : TypeId} {cs : List Value} {x : DataW H} {zs : List Int} {ps : List MemPlace} (ht : P.underlying t = some (.array n e)) (he : P.underlying e = some (.int .i64)) (hc : P.cellsOf e = 1)
    (h : DataW.trod enc P W base spare held fuel t cs = some (x, ps)) (hx : x = .agg (zs.map fun z => .lit (.int .i64 z))) : ∀ i, i < n → ∃ z, zs[i]? = some z ∧ cs[i]? = some (.int .i64 z) := by
  obtain ⟨xs, m, rfl, hx1, _, hn, hel⟩ := DataW.trod_array ht h
  simp only [Prod.mk.injEq] at hx1
  intro i hi
  have h0 := hel i hi
  rw [hc, Nat.mul_one] at h0
  have hy : xs[i]? = some xs[i] := List.getElem?_eq_getElem (by omega)
  rw [hy] at h0
  obtain ⟨k, e1, e2, _⟩ := DataW.trod_int he h0
  have hk : zs[i]? = some k := by
    have h3 := hx1.1
    rw [hx] at h3
    simp only [DataW.agg.injEq] at h3
    have h4 := congrArg (·[i]?) h3
    simp only [List.getElem?_map, hy, e2, Option.map_some] at h4
    cases hz : zs[i]? with
    | none => rw [hz] at h4; cases h4
    | some z => rw [hz] at h4; cases h4; rfl
  refine ⟨k, hk, ?_⟩
  have h5 := congrArg (·[0]?) e1
  simpa [List.getElem?_take, List.getElem?_drop] using h5

def mlL : List Int := [31, 28, 31, 30, 31, 30, 31, 31, 30, 31, 30, 31]
theorem ml_cells {W : World} (h : laidMetH Tryd.prog [("customs/calendar.monthLengths", Rows.laid_customs_calendar_monthLengths)] W) : ∀ j, j < 12 → W.cell? ⟨1, j, none⟩ = some (.int .i64 (mlTab j)) := by
  rw [MakeChecks.laidMetH_plain _ _ _ (by kernel_rfl)] at h
  obtain ⟨ps, ⟨g0, t0, cs0, f0, p0, q0, hg0, ht0, hv0, hd0, _⟩, _, _⟩ := h
  obtain rfl := Option.some.inj (gMl.symm.trans hg0)
  obtain rfl := Option.some.inj (tMl.symm.trans ht0)
  intro j hj
  obtain ⟨z, h1, h2⟩ := open_ints_arr (zs := mlL) Tryd.underlying63 Tryd.underlying3 (by kernel_rfl) hd0 rfl j hj
  have h3 := World.var?_cell hg0 hv0 j
  rw [h3]
  have e : z = mlTab j := by unfold mlTab; rw [List.getD_eq_getElem?_getD]; show z = (mlL[j]?).getD 0; rw [h1]; rfl
  subst e
  simpa using h2
theorem XX_glob {W : World} (h : ∀ j, j < 12 → W.cell? ⟨1, j, none⟩ = some (.int .i64 (mlTab j))) : XX.glob (allM W) := by
  intro g n c hl
  simp only [XX, lk_cons] at hl
  split at hl
  · rename_i hg
    subst hg
    cases hl
    refine ⟨fun j => .int .i64 (mlTab j), fun j hj => ?_, fun j _ => .val _⟩
    rw [add_off, Nat.zero_add]
    exact allM_of (h j hj) rfl
  · cases hl
/-- A contract on plain arguments, in the kit's form. -/
theorem calls_of {f : FuncId} {args : List AV} {vs : List Value} {W : World} (h : ACalls XX f args (bA true)) (hv : toVs args = some vs) (hW : ∀ j, j < 12 → W.cell? ⟨1, j, none⟩ = some (.int .i64 (mlTab j))) :
    Calls Tryd.prog f vs.toArray W fun e W' => e = .returned (.bool true) ∧ Below W.heap.size W W' := by
  obtain ⟨h1, h2⟩ := toVs_at hv
  refine (h.out (allM W) W vs (XX_glob hW) (allM_ok W) h1.symm fun i c v hc hi => ?_).mono fun e W' ⟨v, M', he, hd, _, _, _, hb⟩ => ?_
  · obtain ⟨v', e1, e2⟩ := h2 i c hc
    rw [hi] at e1; cases e1
    exact toV_mk e2
  · have := val_of (hd (fun _ => (none, 0)))
    subst this
    exact ⟨he, hb⟩
theorem laid_ : laidOutB Tryd.prog = true := by kernel_rfl

section
variable {H : Type} {enc : TypeId × Value → H} {P : Program}

theorem trodAll_again (hl : laidOutB P = true) {W W' : World} {sp' : Nat → Bool} : ∀ {ts : List TypeId} {vs : List Value} {ds : List (DataW H)} {ps : List MemPlace}, (∀ t ∈ ts, P.readableRec t = true ∧ t < P.types.size) →
    DataW.TrodAll enc P W 0 (fun _ => true) true ts vs ds ps → (∀ p ∈ ps, W.sameAt W' p) → (∀ p ∈ ps, sp' p.block = true) → DataW.TrodAll enc P W' 0 sp' true ts vs ds ps
  | [], [], [], _, _, h, _, _ => h
  | t :: _, _ :: _, _ :: _, _, hT, ⟨p, q, h1, h2, e⟩, hw, hs =>
    ⟨p, q, WideElems.Trod_stays hl (hT t (by simp)).1 (hT t (by simp)).2 h1 (fun x hx => hw x (by rw [e]; simp [hx])) (fun x hx => hs x (by rw [e]; simp [hx])),
      trodAll_again hl (fun t ht => hT t (by simp [ht])) h2 (fun x hx => hw x (by rw [e]; simp [hx])) (fun x hx => hs x (by rw [e]; simp [hx])), e⟩

/-- A law's last step: it answered true and only laid new blocks. -/
theorem law_post {f : Func} {s : ChangeSpec} {apart fresh handsOn again : Bool} {W W' : World} {args : Array Value} {ds gs : List (DataW H)} {before p : List MemPlace} {tb : TypeId}
    (hl : laidOutB P = true) (hT : (f.params.toList.all fun t => P.readableRec t && decide (t < P.types.size)) = true) (hb0 : P.underlying tb = some .bool) (hrt : f.resultTypes = #[tb])
    (hW : DataW.Whole enc P f.params.toList s.vars apart W args.toList ds gs before) (hA : DataW.TrodAll enc P W 0 (fun _ => true) true f.params.toList args.toList ds p) (hp : before = p) (hvar : s.vars = []) (hg : gs = [])
    (hs : s.fn H ds = { results := [.lit (.bool true)], args := ds }) (hb : Below W.heap.size W W') : s.post enc P f apart fresh handsOn again W args (.bool true) W' := by
  have hlt : ∀ x ∈ before, x.block < W.heap.size := fun x hx => hW.lt x hx
  subst hg hp
  refine post_of_below (pa := before) (pv := []) hW (fun b sp hd => ?_) (fun sp hsp => ?_) (fun sp _ => ?_) (by simp) hb ?_
  · rw [List.append_nil, hs, hrt]
    exact trodAll_mk1 (shut_bool hb0 _)
  · rw [List.append_nil, hs]
    refine trodAll_again hl (fun t ht => ?_) hA (fun x hx => hb.same (hlt x hx)) hsp
    have := List.all_eq_true.1 hT t ht
    simpa using this
  · rw [List.append_nil, hs, hvar]
    exact rfl
  · intro j t r hj hr
    rw [hrt] at hj hr
    match j, hj, hr with
    | 0, hj, hr =>
      obtain rfl := Option.some.inj hj
      obtain rfl := Option.some.inj hr
      exact okWide_bool_mk hb0 _
    | j + 1, hj, _ => simp at hj
end

abbrev laidMl {H : Type} : List (String × DataW H) := [("customs/calendar.monthLengths", Rows.laid_customs_calendar_monthLengths)]
theorem door_met (os : Os) (args : Array Value) : laidMetH Tryd.prog laidMl ((World.doorLaid Tryd.prog 400 os).forCall (fun _ _ => 0) ⟨#[], args, []⟩).memory :=
  laidMetH_of_parts3 (fuel := 8) (laidMet_of_run' 8 (by kernel_rfl) (by kernel_rfl)) (by kernel_rfl) (by kernel_rfl)
end Go.Proofs.YtaidaibbeghhdaaDoor
