/- A map of the call's own from strings to ints, as a function. -/
import Derived.Test.YtjlfllhokhekbaaRowsX
import Derived.Maps.OwnSet
import Derived.Maps.Views
import Derived.IntWalk
namespace Go.Proofs.Ytjlfllhokhekbaa
open Go.RowKit Go.Maps Go.WideMaps
set_option linter.unusedVariables false

def upd (f : List UInt8 → Option Int) (s : List UInt8) (v : Int) : List UInt8 → Option Int := fun k => if k = s then some v else f k

/-- Block b is a map of at most n entries that reads as f. -/
def MapI (w : World) (b n : Nat) (f : List UInt8 → Option Int) : Prop :=
  ∃ D : DataW Unit, w.ownsMap Try.prog 9 (plainElem Try.prog 3) b n D ∧ IsMap D ∧ ∀ k, Maps.has D (.string k) = (f k).isSome ∧ D.atKey (.string k) (.lit (.int .i64 0)) = .lit (.int .i64 ((f k).getD 0))

theorem klaw : Keyed Try.prog 9 := string_keyed Try.underlying9
theorem zeroInt (w : World) : (zeroValue 3).run Try.prog w = .ok (.int .i64 0) w := by kernel_rfl

theorem MapI.made (w : World) : MapI (w.alloc (.map #[] 0)) w.heap.size 0 (fun _ => none) :=
  ⟨.map [], World.ownsMap_made _ _ _ _, isMap_empty, fun k => ⟨rfl, rfl⟩⟩

theorem MapI.put {w w' : World} {b n : Nat} {f : List UInt8 → Option Int} {D : DataW Unit} {s : List UInt8} {v : Int} (hD : IsMap D) (h : ∀ k, Maps.has D (.string k) = (f k).isSome ∧ D.atKey (.string k) (.lit (.int .i64 0)) = .lit (.int .i64 ((f k).getD 0)))
    (hown : w'.ownsMap Try.prog 9 (plainElem Try.prog 3) b n (D.put (.string s) (.lit (.int .i64 v)))) : MapI w' b n (upd f s v) := by
  refine ⟨_, hown, ?_, fun k => ?_⟩
  · obtain ⟨es, clock, _, _, _, e⟩ := hown
    exact ⟨_, e⟩
  · by_cases hk : k = s
    · subst hk
      rw [has_put_same (k := .string k) hD True.intro, atKey_put_same (k := .string k) hD True.intro]
      simp [upd]
    · have hne : (Lit.string k) ≠ Lit.string s := fun e => hk (by injection e)
      rw [has_put_other hne, atKey_put_other hne, (h k).1, (h k).2]
      simp [upd, hk]

theorem MapI.update {w : World} {b n : Nat} {f : List UInt8 → Option Int} (h : MapI w b n f) (T : TypeId) (hT : Try.prog.underlying T = some (.map 9 3)) (hn : n < maxLen) (s : ByteArray) (hs : s.size ≤ maxLen) (v : Int) (hv : (Lit.int .i64 v).wf = true) :
    ∃ w', (Instr.mapUpdate T (.map (some b)) (.string s) (.int .i64 v)).run Try.prog w = .ok () w' ∧ MapI w' b (n + 1) (upd f s.data.toList v) ∧ w.grownBy w' (some b) := by
  obtain ⟨D, hown, hD, hf⟩ := h
  obtain ⟨w', hrun, h1, h2⟩ := World.ownsMap.update hown klaw hT hn (keyOf_string_mk Try.underlying9 hs) (plainElem_int Try.underlying3 hv)
  exact ⟨w', hrun, MapI.put (w := w) hD hf h1, h2⟩

theorem MapI.look {w : World} {b n : Nat} {f : List UInt8 → Option Int} (h : MapI w b n f) (T : TypeId) (hT : Try.prog.underlying T = some (.map 9 3)) (s : ByteArray) (hs : s.size ≤ maxLen) :
    (Instr.lookup T (.map (some b)) (.string s) true).run Try.prog w = .ok (.tuple #[.int .i64 ((f s.data.toList).getD 0), .bool (f s.data.toList).isSome]) w := by
  obtain ⟨D, hown, hD, hf⟩ := h
  obtain ⟨v, ps, hrun, hv⟩ := World.ownsMap.look_ok hown klaw hT (zeroInt w) (plainElem_int Try.underlying3 (by decide)) (keyOf_string_mk Try.underlying9 hs)
  obtain ⟨c, rfl, hc, hwc⟩ := plainElem_int_inv Try.underlying3 hv
  rw [hrun, (hf _).1]
  have e := congrArg Prod.fst hc
  simp only [(hf _).2] at e
  injection e with e
  injection e with _ e
  rw [e]

theorem MapI.mono {w : World} {b n n' : Nat} {f : List UInt8 → Option Int} (h : MapI w b n f) (hn : n ≤ n') : MapI w b n' f := by
  obtain ⟨D, ⟨es, clock, h1, h2, h3, h4⟩, r⟩ := h
  exact ⟨D, ⟨es, clock, h1, h2, by omega, h4⟩, r⟩
theorem i64_wf {v : Int} (h1 : -9223372036854775808 ≤ v) (h2 : v ≤ 9223372036854775807) : (Lit.int .i64 v).wf = true := by
  have := wrap64_wf v
  rwa [IntWalk.wrap64_in _ ⟨h1, h2⟩] at this

theorem MapI.ext {w w' : World} {b n : Nat} {f : List UInt8 → Option Int} (h : MapI w b n f) (hb : Below w.heap.size w w') : MapI w' b n f := by
  obtain ⟨D, hown, hD, hf⟩ := h
  have hlt : b < w.heap.size := by
    obtain ⟨es, clock, hh, _⟩ := hown
    rcases Nat.lt_or_ge b w.heap.size with hlt | hge
    · exact hlt
    · rw [Array.getElem?_eq_none hge] at hh; cases hh
  refine ⟨D, ?_, hD, hf⟩
  obtain ⟨es, clock, hh, r⟩ := hown
  exact ⟨es, clock, (hb.block b hlt).trans hh, r⟩

end Go.Proofs.Ytjlfllhokhekbaa
