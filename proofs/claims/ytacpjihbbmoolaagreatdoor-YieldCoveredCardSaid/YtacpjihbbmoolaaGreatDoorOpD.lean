/- The frame of a law's statement, as far as the walks by descriptions want it. A law's arguments as they come in, described. Numbers and slices that come in. Lots and parts that come in. The door seat: the table of moves, read; a law that answers true by its contract. -/
import Derived.Test.YtacpjihbbmoolaaGreatDoorPost
import Derived.Carry
import Derived.ChangeSlices
import Derived.Deep.Slices
import Derived.Deep.Fields
import Derived.Lib.SmallJoins
import Derived.ChangeMaps5
import Derived.Test.YtacpjihbbmoolaaGreatDoorW0
import Derived.Test.YtacpjihbbmoolaaGreatDoorFS
import Derived.Test.YtacpjihbbmoolaaGreatDoorFK
import Derived.LaidMore
import Derived.OpenShut
import Derived.Stop.Joined

namespace Go.Proofs.YtacpjihbbmoolaaGreatDoor
open Go.RowKit Go.WideShapes Go.ChangeShapes Go.Deep
set_option linter.unusedVariables false

theorem laid_ : laidOutB Tryz.prog = true := by kernel_rfl

section
variable {H : Type} {enc : TypeId × Value → H} {P : Program}

theorem trodAll_again (hl : laidOutB P = true) {W W' : World} {sp' : Nat → Bool} : ∀ {ts : List TypeId} {vs : List Value} {ds : List (DataW H)} {ps : List MemPlace}, (∀ t ∈ ts, P.readableRec t = true ∧ t < P.types.size) →
    DataW.TrodAll enc P W 0 (fun _ => true) true ts vs ds ps → (∀ p ∈ ps, W.sameAt W' p) → (∀ p ∈ ps, sp' p.block = true) → DataW.TrodAll enc P W' 0 sp' true ts vs ds ps
  | [], [], [], _, _, h, _, _ => h
  | t :: _, _ :: _, _ :: _, _, hT, ⟨p, q, h1, h2, e⟩, hw, hs =>
    ⟨p, q, WideElems.Trod_stays hl (hT t (by simp)).1 (hT t (by simp)).2 h1 (fun x hx => hw x (by rw [e]; simp [hx])) (fun x hx => hs x (by rw [e]; simp [hx])),
      trodAll_again hl (fun t ht => hT t (by simp [ht])) h2 (fun x hx => hw x (by rw [e]; simp [hx])) (fun x hx => hs x (by rw [e]; simp [hx])), e⟩

theorem law_post {f : Func} {s : ChangeSpec} {apart fresh handsOn again : Bool} {W W' : World} {args : Array Value} {ds gs : List (DataW H)} {before p : List MemPlace} {tb : TypeId}
    (hl : laidOutB P = true) (hT : (f.params.toList.all fun t => P.readableRec t && decide (t < P.types.size)) = true) (hb0 : P.underlying tb = some .bool) (hrt : f.resultTypes = #[tb])
    (hW : DataW.Whole enc P f.params.toList s.vars apart W args.toList ds gs before) (hA : DataW.TrodAll enc P W 0 (fun _ => true) true f.params.toList args.toList ds p) (hp : before = p) (hvar : s.vars = []) (hg : gs = [])
    (hs : s.fn H ds = { results := [.lit (.bool true)], args := ds }) (hb : Below W.heap.size W W') : s.post enc P f apart fresh handsOn again W args (.bool true) W' := by
  have hlt : ∀ x ∈ before, x.block < W.heap.size := fun x hx => hW.lt x hx
  subst hg hp
  refine post_of_below (pa := before) (pv := []) hW (fun b sp hd => ?_) (fun sp hsp => ?_) (fun sp _ => ?_) (by simp) hb ?_
  · rw [List.append_nil, hs, hrt]
    exact trodAll_mk1 (shut_bool hb0 _)
  · rw [List.append_nil, hs]
    refine trodAll_again hl (fun t ht => ?_) hA (fun x hx => hb.same (hlt x hx)) hsp
    have := List.all_eq_true.1 hT t ht
    simpa using this
  · rw [List.append_nil, hs, hvar]
    exact rfl
  · intro j t r hj hr
    rw [hrt] at hj hr
    match j, hj, hr with
    | 0, hj, hr =>
      obtain rfl := Option.some.inj hj
      obtain rfl := Option.some.inj hr
      exact okWide_bool_mk hb0 _
    | j + 1, hj, _ => simp at hj
end

section
variable {H : Type} {enc : TypeId × Value → H} {P : Program} {w : World} {base : Nat} {spare : Nat → Bool} {held : Bool}
end

end Go.Proofs.YtacpjihbbmoolaaGreatDoor

namespace Go.Proofs.YtacpjihbbmoolaaGreatDoor
open Go Go.RowKit Go.WideShapes Go.ChangeShapes Go.Deep
set_option linter.unusedVariables false
set_option linter.unusedSimpArgs false

section
variable {H : Type} {enc : TypeId × Value → H} {P : Program} {W : World}

def OpenC (enc : TypeId × Value → H) (P : Program) (W : World) (t : TypeId) (α : Type) (e : α → D) (ok : α → Prop) : Prop :=
  ∀ (fuel : Nat) (v : Value) (y : DataW H × List MemPlace), DataW.trod enc P W 0 (fun _ => true) true fuel t [v] = some y → ∃ x : α, DenD (allM W) (e x) v ∧ v.oneCell' = true ∧ ok x
theorem OpenC.int {t : TypeId} {k : IntKind} (ht : P.underlying t = some (.int k)) : OpenC enc P W t Int (fun x => .val (.int k x)) (fun x => (Lit.int k x).wf = true) := fun fuel v y h => by
  obtain ⟨n, h1, _, h2⟩ := DataW.trod_int ht h
  simp at h1
  subst h1
  exact ⟨n, .val _, rfl, h2⟩
theorem OpenC.bool {t : TypeId} (ht : P.underlying t = some .bool) : OpenC enc P W t Bool (fun x => .val (.bool x)) (fun _ => True) := fun fuel v y h => by
  obtain ⟨n, h1, _⟩ := DataW.trod_bool ht h
  simp at h1
  subst h1
  exact ⟨n, .val _, rfl, trivial⟩
theorem OpenC.ints {t e : TypeId} (ht : P.underlying t = some (.slice e)) (he : P.underlying e = some (.int .i64)) (hc : P.cellsOf e = 1) : OpenC enc P W t (List Int) (fun l => iD l) (fun l => l.length ≤ maxLen ∧ ∀ x ∈ l, (Lit.int .i64 x).wf = true) := fun fuel v y h => by
  rcases open_ints ht he hc h with ⟨hcs, _⟩|⟨a, len, cap, zs, hcs, _, hl, hm, hz, _, hcell, hwz⟩
  · simp at hcs
    subst hcs
    exact ⟨[], Dle.nil _ _ _ _ (.val _), rfl, by simp [maxLen], by simp⟩
  · simp at hcs
    subst hcs
    simp only [if_true] at hz
    have e1 : (zs.take len).length = len := by rw [List.length_take]; omega
    refine ⟨zs.take len, ?_, rfl, by omega, fun x hx => hwz x (List.mem_of_mem_take hx)⟩
    have hd := DenD.lst (M := allM W) 1 (zs.take len).length (rowF iE (zs.take len)) (some a) cap (fun i _ => .int .i64 ((zs.take len).getD i 0)) (by omega) hm (fun h => by cases h) (fun ad had i hi j hj => by
      cases had
      obtain rfl : j = 0 := by omega
      rw [Nat.mul_one, Nat.add_zero]
      refine allM_of ?_ rfl
      rw [hcell i (by omega)]
      have hi2 : i < len := by omega
      simp [List.getElem?_take, hi2]) (fun i hi j hj => by
      obtain rfl : j = 0 := by omega
      have : rowF iE (zs.take len) i 0 = .val (.int .i64 ((zs.take len).getD i 0)) := rfl
      rw [this]
      exact .val _)
    rw [e1] at hd
    show DenD (allM W) (.lst 1 (zs.take len).length (rowF iE (zs.take len))) _
    rw [e1]
    exact hd

theorem OpenC.sl {t et : TypeId} {α : Type} {e : α → D} {ok : α → Prop} {b0 : Nat} {v : Value} {d : DataW H} {ps : List MemPlace} (hO : OpenC enc P W t α e ok) (ht : P.underlying t = some (.slice et)) (hv : Value.okWide P W .any b0 t v) (h : DataW.Trod enc P W 0 (fun _ => true) true t v d ps) :
    ∃ x : α, DenP (allM W) (.dat (e x)) v ∧ ok x := by
  obtain ⟨A, len, cap, rfl⟩ := okWide_slice ht hv
  obtain ⟨fuel, hf⟩ := h
  obtain ⟨x, h1, _, h2⟩ := hO fuel _ _ hf
  exact ⟨x, fun ρ => .dat h1, h2⟩
end

def ParsD (M : Mem) : List AV → List Value → Prop
  | [], [] => True
  | c :: l, v :: r => DenP M c v ∧ ParsD M l r
  | _, _ => False
theorem ParsD_at {M : Mem} : ∀ {cs : List AV} {vs : List Value}, ParsD M cs vs → cs.length = vs.length ∧ ∀ (i : Nat) (c : AV) (v : Value), cs[i]? = some c → vs[i]? = some v → DenP M c v
  | [], [], _ => ⟨rfl, fun i c v h => by simp at h⟩
  | c :: l, v :: r, h => by
    obtain ⟨h1, h2⟩ := ParsD_at h.2
    refine ⟨by simp [h1], fun i c' v' hi hv => ?_⟩
    cases i with
    | zero => simp at hi hv; subst hi hv; exact h.1
    | succ i => exact h2 i c' v' (by simpa using hi) (by simpa using hv)
  | [], _ :: _, h => h.elim
  | _ :: _, [], h => h.elim
theorem parI (M : Mem) (k : IntKind) (a : Int) : DenP M (.dat (.val (.int k a))) (.int k a) := fun ρ => .dat (.val _)
end Go.Proofs.YtacpjihbbmoolaaGreatDoor

namespace Go.Proofs.YtacpjihbbmoolaaGreatDoor
open Go Go.RowKit Go.WideShapes Go.ChangeShapes Go.Deep
set_option linter.unusedVariables false
set_option linter.unusedSimpArgs false
set_option maxRecDepth 100000

section
variable {H : Type} {enc : TypeId × Value → H} {W : World} {b0 : Nat} {v : Value} {d : DataW H} {ps : List MemPlace}
theorem op_intl (hv : Value.okWide Tryz.prog W .any b0 22 v) (h : DataW.Trod enc Tryz.prog W 0 (fun _ => true) true 22 v d ps) : ∃ x : List Int, DenP (allM W) (.dat (ilst x)) v ∧ x.length ≤ 9223372036854775807 := by
  obtain ⟨x, h1, h2, _⟩ := (OpenC.ints Tryz.underlying22 Tryz.underlying3 (by kernel_rfl)).sl Tryz.underlying22 hv h
  exact ⟨x, h1, h2⟩
end
end Go.Proofs.YtacpjihbbmoolaaGreatDoor

namespace Go.Proofs.YtacpjihbbmoolaaGreatDoor
open Go Go.RowKit Go.WideShapes Go.ChangeShapes Go.Deep
set_option linter.unusedVariables false
set_option linter.unusedSimpArgs false
set_option maxRecDepth 100000

section
variable {H : Type} {enc : TypeId × Value → H} {W : World} {b0 : Nat} {v : Value} {d : DataW H} {ps : List MemPlace}
end
end Go.Proofs.YtacpjihbbmoolaaGreatDoor

namespace Go.Proofs.YtacpjihbbmoolaaGreatDoor
open Go Go.ChangeShapes Go.WideShapes Go.ChangeAt Go.WideMaps Go.WideElems Go.RowKit
set_option linter.unusedVariables false
set_option maxRecDepth 100000

theorem own_ : ownKnob Tryz.prog.godebug = none := by kernel_rfl
theorem gMv : Tryz.prog.globalNamed "customs/procedure.moves" = some 0 := by kernel_rfl
theorem tMv : (Tryz.prog.globals[0]?).map (·.type) = some 113 := by kernel_rfl
def pick3 (z : Int × Int × Int) (j : Nat) : Int := match j with
  | 0 => z.1
  | 1 => z.2.1
  | _ => z.2.2
theorem open_structs3 {H : Type} {enc : TypeId × Value → H} {P : Program} {W : World} {fuel base n : Nat} {spare : Nat → Bool} {held : Bool} {t e : TypeId} {fs : Array Field} {cs : List Value} {x : DataW H} {zs : List (Int × Int × Int)} {ps : List MemPlace} (ht : P.underlying t = some (.array n e)) (he : P.underlying e = some (.struct fs)) (hc : P.cellsOf e = 3)
    (hf : ∀ j, j < 3 → ∃ f, fs[j]? = some f ∧ f.offset = j ∧ P.underlying f.type = some (.int .i64) ∧ P.cellsOf f.type = 1)
    (h : DataW.trod enc P W base spare held fuel t cs = some (x, ps)) (hx : x = .agg (zs.map fun z => .agg [.lit (.int .i64 z.1), .lit (.int .i64 z.2.1), .lit (.int .i64 z.2.2)])) : ∀ i, i < n → ∀ j, j < 3 → ∃ z, zs[i]? = some z ∧ cs[i * 3 + j]? = some (.int .i64 (pick3 z j)) := by
  obtain ⟨xs, m, rfl, hx1, _, hn, hel⟩ := DataW.trod_array ht h
  simp only [Prod.mk.injEq] at hx1
  intro i hi j hj
  have h0 := hel i hi
  rw [hc] at h0
  have hy : xs[i]? = some xs[i] := List.getElem?_eq_getElem (by omega)
  rw [hy] at h0
  obtain ⟨ys, m2, _, hx2, _, hn2, hel2⟩ := DataW.trod_struct he h0
  have hz : ∃ z, zs[i]? = some z ∧ xs[i].1 = .agg [.lit (.int .i64 z.1), .lit (.int .i64 z.2.1), .lit (.int .i64 z.2.2)] := by
    have h3 := hx1.1
    rw [hx] at h3
    simp only [DataW.agg.injEq] at h3
    have h4 := congrArg (·[i]?) h3
    simp only [List.getElem?_map, hy, Option.map_some] at h4
    cases hz : zs[i]? with
    | none => rw [hz] at h4; cases h4
    | some z => rw [hz] at h4; exact ⟨z, rfl, (Option.some.inj h4).symm⟩
  obtain ⟨z, hz1, hz2⟩ := hz
  obtain ⟨f, f1, f2, f3, f4⟩ := hf j hj
  have h5 := hel2 j f f1
  rw [f2, f4] at h5
  have hlt : j < fs.size := (Array.getElem?_eq_some_iff.1 f1).1
  have hyj : ys[j]? = some ys[j] := List.getElem?_eq_getElem (by omega)
  rw [hyj] at h5
  obtain ⟨k, e1, e2, _⟩ := DataW.trod_int f3 h5
  have hk : k = pick3 z j := by
    rw [hx2] at hz2
    simp only [DataW.agg.injEq] at hz2
    have h6 := congrArg (·[j]?) hz2
    simp only [List.getElem?_map, hyj, e2, Option.map_some] at h6
    match j, hj, h6 with
    | 0, _, h6 => simpa [pick3] using h6
    | 1, _, h6 => simpa [pick3] using h6
    | 2, _, h6 => simpa [pick3] using h6
  refine ⟨z, hz1, ?_⟩
  have h7 := congrArg (·[0]?) e1
  rw [← hk]
  simp only [List.getElem?_take, List.getElem?_drop, List.getElem?_cons_zero] at h7
  rw [if_pos (by omega), if_pos (by omega)] at h7
  simpa using h7
abbrev laidMv {H : Type} : List (String × DataW H) := [("customs/procedure.moves", Rows.laid_customs_procedure_moves)]
def mvT : List (Int × Int × Int) := (List.range 36).map fun i => (mvL.getD (i * 3) 0, mvL.getD (i * 3 + 1) 0, mvL.getD (i * 3 + 2) 0)
theorem mv_cells {W : World} (h : laidMetH Tryz.prog laidMv W) : ∀ j, j < 108 → W.cell? ⟨0, j, none⟩ = some (.int .i64 (mvL.getD j 0)) := by
  rw [MakeChecks.laidMetH_plain _ _ _ (by kernel_rfl)] at h
  obtain ⟨ps, ⟨g0, t0, cs0, f0, p0, q0, hg0, ht0, hv0, hd0, _⟩, _, _⟩ := h
  obtain rfl := Option.some.inj (gMv.symm.trans hg0)
  obtain rfl := Option.some.inj (tMv.symm.trans ht0)
  intro j hj
  obtain ⟨z, h1, h2⟩ := open_structs3 (zs := mvT) Tryz.underlying113 Tryz.underlying112 (by kernel_rfl) (fun j hj => by
    match j, hj with
    | 0, _ => exact ⟨_, rfl, rfl, Tryz.underlying3, by kernel_rfl⟩
    | 1, _ => exact ⟨_, rfl, rfl, Tryz.underlying3, by kernel_rfl⟩
    | 2, _ => exact ⟨_, rfl, rfl, Tryz.underlying3, by kernel_rfl⟩) hd0 rfl (j / 3) (by omega) (j % 3) (by omega)
  rw [World.var?_cell hg0 hv0 j]
  rw [show j / 3 * 3 + j % 3 = j by omega] at h2
  have hz : z = (mvL.getD (j / 3 * 3) 0, mvL.getD (j / 3 * 3 + 1) 0, mvL.getD (j / 3 * 3 + 2) 0) := by
    have hlt : j / 3 < 36 := by omega
    unfold mvT at h1
    rw [List.getElem?_map, List.getElem?_range hlt] at h1
    exact (Option.some.inj h1).symm
  have e : pick3 z (j % 3) = mvL.getD j 0 := by
    rw [hz]
    have h3 : j % 3 = 0 ∨ j % 3 = 1 ∨ j % 3 = 2 := by omega
    rcases h3 with h3|h3|h3
    · rw [h3]; show mvL.getD (j / 3 * 3) 0 = _; rw [show j / 3 * 3 = j by omega]
    · rw [h3]; show mvL.getD (j / 3 * 3 + 1) 0 = _; rw [show j / 3 * 3 + 1 = j by omega]
    · rw [h3]; show mvL.getD (j / 3 * 3 + 2) 0 = _; rw [show j / 3 * 3 + 2 = j by omega]
  rw [e] at h2
  simpa using h2
theorem XX_glob_mk {W : World} (h : ∀ j, j < 108 → W.cell? ⟨0, j, none⟩ = some (.int .i64 (mvL.getD j 0))) : XX.glob (allM W) := by
  intro g n c hl
  simp only [XX, lk_cons] at hl
  split at hl
  · rename_i hg
    subst hg
    cases hl
    refine ⟨fun j => .int .i64 (mvL.getD j 0), fun j hj => ?_, fun j _ => .val _⟩
    rw [add_off, Nat.zero_add]
    exact allM_of (h j hj) rfl
  · cases hl
theorem law_runD {f : FuncId} {cs : List AV} (h : ACalls XX f cs (bA true)) (W : World) (vs : List Value) (hp : ParsD (allM W) cs vs) (hW : laidMetH Tryz.prog laidMv W) : Calls Tryz.prog f vs.toArray W fun e W' => e = .returned (.bool true) ∧ Below W.heap.size W W' := by
  obtain ⟨h1, h2⟩ := ParsD_at hp
  refine (h.out (allM W) W vs (XX_glob_mk (mv_cells hW)) (allM_ok W) h1 h2).mono fun e W' ⟨v, M', he, hd, _, _, _, hb, _⟩ => ?_
  have := val_of (hd fun _ => (none, 0))
  subst this
  exact ⟨he, hb⟩
theorem door_met (os : Os) (args : Array Value) : laidMetH Tryz.prog laidMv ((World.doorLaid Tryz.prog 400 os).forCall (fun _ _ => 0) ⟨#[], args, []⟩).memory :=
  laidMetH_of_parts3 (fuel := 8) (laidMet_of_run' 8 (by kernel_rfl) (by kernel_rfl)) (by kernel_rfl) (by kernel_rfl)
end Go.Proofs.YtacpjihbbmoolaaGreatDoor
