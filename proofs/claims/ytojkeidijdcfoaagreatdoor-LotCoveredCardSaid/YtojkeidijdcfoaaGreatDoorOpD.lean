/- The door seat: the table of moves, read; a law that answers true by its contract. -/
import Derived.Test.YtojkeidijdcfoaaGreatDoorOpL
import Derived.LaidMore
import Derived.OpenShut
import Derived.Stop.Joined
import Derived.Carry
import Derived.ChangeSlices
import Derived.Deep.Slices
import Derived.Deep.Fields
import Derived.Lib.SmallJoins
import Derived.ChangeMaps5
namespace Go.Proofs.YtojkeidijdcfoaaGreatDoor
open Go Go.ChangeShapes Go.WideShapes Go.ChangeAt Go.WideMaps Go.WideElems Go.RowKit
set_option linter.unusedVariables false
set_option maxRecDepth 100000

theorem own_ : ownKnob Tryz.prog.godebug = none := by kernel_rfl
theorem gMv : Tryz.prog.globalNamed "customs/procedure.moves" = some 0 := by kernel_rfl
theorem tMv : (Tryz.prog.globals[0]?).map (·.type) = some 104 := by kernel_rfl
def pick3 (z : Int × Int × Int) (j : Nat) : Int := match j with
  | 0 => z.1
  | 1 => z.2.1
  | _ => z.2.2
theorem open_structs3 {H : Type} {enc : TypeId × Value → H} {P : Program} {W : World} {fuel base n : Nat} {spare : Nat → Bool} {held : Bool} {t e : TypeId} {fs : Array Field} {cs : List Value} {x : DataW H} {zs : List (Int × Int × Int)} {ps : List MemPlace} (ht : P.underlying t = some (.array n e)) (he : P.underlying e = some (.struct fs)) (hc : P.cellsOf e = 3)
    (hf : ∀ j, j < 3 → ∃ f, fs[j]? = some f ∧ f.offset = j ∧ P.underlying f.type = some (.int .i64) ∧ P.cellsOf f.type = 1)
    (h : DataW.trod enc P W base spare held fuel t cs = some (x, ps)) (hx : x = .agg (zs.map fun z => .agg [.lit (.int .i64 z.1), .lit (.int .i64 z.2.1), .lit (.int .i64 z.2.2)])) : ∀ i, i < n → ∀ j, j < 3 → ∃ z, zs[i]? = some z ∧ cs[i * 3 + j]? = some (.int .i64 (pick3 z j)) := by
  obtain ⟨xs, m, rfl, hx1, _, hn, hel⟩ := DataW.trod_array ht h
  simp only [Prod.mk.injEq] at hx1
  intro i hi j hj
  have h0 := hel i hi
  rw [hc] at h0
  have hy : xs[i]? = some xs[i] := List.getElem?_eq_getElem (by omega)
  rw [hy] at h0
  obtain ⟨ys, m2, _, hx2, _, hn2, hel2⟩ := DataW.trod_struct he h0
  have hz : ∃ z, zs[i]? = some z ∧ xs[i].1 = .agg [.lit (.int .i64 z.1), .lit (.int .i64 z.2.1), .lit (.int .i64 z.2.2)] := by
    have h3 := hx1.1
    rw [hx] at h3
    simp only [DataW.agg.injEq] at h3
    have h4 := congrArg (·[i]?) h3
    simp only [List.getElem?_map, hy, Option.map_some] at h4
    cases hz : zs[i]? with
    | none => rw [hz] at h4; cases h4
    | some z => rw [hz] at h4; exact ⟨z, rfl, (Option.some.inj h4).symm⟩
  obtain ⟨z, hz1, hz2⟩ := hz
  obtain ⟨f, f1, f2, f3, f4⟩ := hf j hj
  have h5 := hel2 j f f1
  rw [f2, f4] at h5
  have hlt : j < fs.size := (Array.getElem?_eq_some_iff.1 f1).1
  have hyj : ys[j]? = some ys[j] := List.getElem?_eq_getElem (by omega)
  rw [hyj] at h5
  obtain ⟨k, e1, e2, _⟩ := DataW.trod_int f3 h5
  have hk : k = pick3 z j := by
    rw [hx2] at hz2
    simp only [DataW.agg.injEq] at hz2
    have h6 := congrArg (·[j]?) hz2
    simp only [List.getElem?_map, hyj, e2, Option.map_some] at h6
    match j, hj, h6 with
    | 0, _, h6 => simpa [pick3] using h6
    | 1, _, h6 => simpa [pick3] using h6
    | 2, _, h6 => simpa [pick3] using h6
  refine ⟨z, hz1, ?_⟩
  have h7 := congrArg (·[0]?) e1
  rw [← hk]
  simp only [List.getElem?_take, List.getElem?_drop, List.getElem?_cons_zero] at h7
  rw [if_pos (by omega), if_pos (by omega)] at h7
  simpa using h7
abbrev laidMv {H : Type} : List (String × DataW H) := [("customs/procedure.moves", Rows.laid_customs_procedure_moves)]
def mvT : List (Int × Int × Int) := (List.range 36).map fun i => (mvL.getD (i * 3) 0, mvL.getD (i * 3 + 1) 0, mvL.getD (i * 3 + 2) 0)
theorem mv_cells {W : World} (h : laidMetH Tryz.prog laidMv W) : ∀ j, j < 108 → W.cell? ⟨0, j, none⟩ = some (.int .i64 (mvL.getD j 0)) := by
  rw [MakeChecks.laidMetH_plain _ _ _ (by kernel_rfl)] at h
  obtain ⟨ps, ⟨g0, t0, cs0, f0, p0, q0, hg0, ht0, hv0, hd0, _⟩, _, _⟩ := h
  obtain rfl := Option.some.inj (gMv.symm.trans hg0)
  obtain rfl := Option.some.inj (tMv.symm.trans ht0)
  intro j hj
  obtain ⟨z, h1, h2⟩ := open_structs3 (zs := mvT) Tryz.underlying104 Tryz.underlying103 (by kernel_rfl) (fun j hj => by
    match j, hj with
    | 0, _ => exact ⟨_, rfl, rfl, Tryz.underlying3, by kernel_rfl⟩
    | 1, _ => exact ⟨_, rfl, rfl, Tryz.underlying3, by kernel_rfl⟩
    | 2, _ => exact ⟨_, rfl, rfl, Tryz.underlying3, by kernel_rfl⟩) hd0 rfl (j / 3) (by omega) (j % 3) (by omega)
  rw [World.var?_cell hg0 hv0 j]
  rw [show j / 3 * 3 + j % 3 = j by omega] at h2
  have hz : z = (mvL.getD (j / 3 * 3) 0, mvL.getD (j / 3 * 3 + 1) 0, mvL.getD (j / 3 * 3 + 2) 0) := by
    have hlt : j / 3 < 36 := by omega
    unfold mvT at h1
    rw [List.getElem?_map, List.getElem?_range hlt] at h1
    exact (Option.some.inj h1).symm
  have e : pick3 z (j % 3) = mvL.getD j 0 := by
    rw [hz]
    have h3 : j % 3 = 0 ∨ j % 3 = 1 ∨ j % 3 = 2 := by omega
    rcases h3 with h3 | h3 | h3
    · rw [h3]; show mvL.getD (j / 3 * 3) 0 = _; rw [show j / 3 * 3 = j by omega]
    · rw [h3]; show mvL.getD (j / 3 * 3 + 1) 0 = _; rw [show j / 3 * 3 + 1 = j by omega]
    · rw [h3]; show mvL.getD (j / 3 * 3 + 2) 0 = _; rw [show j / 3 * 3 + 2 = j by omega]
  rw [e] at h2
  simpa using h2
theorem XX_glob_mk {W : World} (h : ∀ j, j < 108 → W.cell? ⟨0, j, none⟩ = some (.int .i64 (mvL.getD j 0))) : XX.glob (allM W) := by
  intro g n c hl
  simp only [XX, lk_cons] at hl
  split at hl
  · rename_i hg
    subst hg
    cases hl
    refine ⟨fun j => .int .i64 (mvL.getD j 0), fun j hj => ?_, fun j _ => .val _⟩
    rw [add_off, Nat.zero_add]
    exact allM_of (h j hj) rfl
  · cases hl
theorem law_runD {f : FuncId} {cs : List AV} (h : ACalls XX f cs (bA true)) (W : World) (vs : List Value) (hp : ParsD (allM W) cs vs) (hW : laidMetH Tryz.prog laidMv W) : Calls Tryz.prog f vs.toArray W fun e W' => e = .returned (.bool true) ∧ Below W.heap.size W W' := by
  obtain ⟨h1, h2⟩ := ParsD_at hp
  refine (h.out (allM W) W vs (XX_glob_mk (mv_cells hW)) (allM_ok W) h1 h2).mono fun e W' ⟨v, M', he, hd, _, _, _, hb, _⟩ => ?_
  have := val_of (hd fun _ => (none, 0))
  subst this
  exact ⟨he, hb⟩
theorem door_met (os : Os) (args : Array Value) : laidMetH Tryz.prog laidMv ((World.doorLaid Tryz.prog 400 os).forCall (fun _ _ => 0) ⟨#[], args, []⟩).memory :=
  laidMetH_of_parts3 (fuel := 8) (laidMet_of_run' 8 (by kernel_rfl) (by kernel_rfl)) (by kernel_rfl) (by kernel_rfl)
section
variable {H : Type} {enc : TypeId × Value → H} {W : World} {b0 : Nat} {v : Value} {d : DataW H} {ps : List MemPlace}
end
end Go.Proofs.YtojkeidijdcfoaaGreatDoor
