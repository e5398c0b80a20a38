/- A slice of the call's own that reads as a list of rows; one row appended. -/
import Derived.Test.YteilknlokjfelaaRowsX
import Derived.Deep.RegionHeld3
import Derived.Deep.DrawnRows
import Derived.OwnWalk
import Derived.Maps.AppendAt
import Derived.StillTactics
import Derived.Laws.Pointers
import Derived.Laws.IdiomCopy
namespace Go.Proofs.Yteilknlokjfelaa
open Go.RowKit
set_option linter.unusedVariables false

def OwnR (w : World) (B : Nat) (e : TypeId) (sz : Nat) (v : Value) (rows : List (List Value)) : Prop := w.ownsRow B e sz v rows.length rows.flatten

theorem flatten_at : ∀ (rows : List (List Value)) (sz k j : Nat) (r : List Value), (∀ r ∈ rows, r.length = sz) → rows[k]? = some r → j < sz → rows.flatten[k * sz + j]? = r[j]?
  | [], _, _, _, _, _, h, _ => by simp at h
  | r0 :: rows, sz, 0, j, r, ha, h, hj => by
    simp at h; subst h
    have hl := ha r0 (by simp)
    rw [List.flatten_cons, Nat.zero_mul, Nat.zero_add, List.getElem?_append_left (by omega)]
  | r0 :: rows, sz, k + 1, j, r, ha, h, hj => by
    have hl := ha r0 (by simp)
    rw [List.flatten_cons, List.getElem?_append_right (by rw [hl, Nat.succ_mul]; omega), hl, show (k + 1) * sz + j - sz = k * sz + j by rw [Nat.succ_mul]; omega]
    exact flatten_at rows sz k j r (fun r hr => ha r (by simp [hr])) (by simpa using h) hj

section
variable {w w' : World} {B sz : Nat} {e : TypeId} {v : Value} {rows : List (List Value)}
theorem OwnR.nil (w : World) (B : Nat) (e : TypeId) (sz : Nat) : OwnR w B e sz (.slice none 0 0) [] := World.ownsRow_nil w B e sz
theorem OwnR.kept {row : Option Nat} (h : OwnR w B e sz v rows) (hg : w.grownBy w' row) (hne : v.ownBlock = none ∨ v.ownBlock ≠ row) : OwnR w' B e sz v rows := World.ownsRow.kept h hg hne
theorem OwnR.alloc (h : OwnR w B e sz v rows) (o : Obj) : OwnR (w.alloc o) B e sz v rows := World.ownsRow.alloc h o
theorem OwnR.drewN (h : OwnR w B e sz v rows) (n : Nat) : OwnR (w.drewN n) B e sz v rows := h
theorem OwnR.ext (h : OwnR w B e sz v rows) (hb : Below w.heap.size w w') : OwnR w' B e sz v rows := by
  rcases hv : v.ownBlock with _ | g
  · exact OwnR.kept h (only_of_below hb none) (.inl hv)
  · exact OwnR.kept h (only_of_below hb none) (.inr (by rw [hv]; simp))
theorem OwnR.ne {g : Nat} {t : TypeId} {cs : Array Value} (h : OwnR w B e sz v rows) (hg : Blk w g t cs) (hne : e ≠ t) : v.ownBlock ≠ some g := by
  rcases h.2 with ⟨rfl, _⟩ | ⟨g', cap, cur, rfl, _, hh, _⟩
  · simp [Value.ownBlock]
  · intro he
    have : g' = g := by simpa [Value.ownBlock] using he
    subst this
    unfold Blk at hg
    rw [hh] at hg
    injection hg with hg
    injection hg with _ ht
    exact hne ht
/-- Such a slice reads as its rows. -/
theorem OwnR.reads (h : OwnR w B e sz v rows) (ha : ∀ r ∈ rows, r.length = sz) : ∃ A c, v = .slice A rows.length c ∧ rows.length ≤ c ∧ c ≤ maxLen ∧ RowsW w w.heap.size A sz rows ∧ (∀ g, v.ownBlock = some g → B ≤ g ∧ g < w.heap.size) := by
  have hlt := World.ownsRow.lt h
  rcases h.2 with ⟨rfl, h0⟩ | ⟨g, cap, cur, rfl, hB, hh, hn, hm, hs, ht⟩
  · have : rows = [] := List.eq_nil_of_length_eq_zero h0
    subst this
    exact ⟨none, 0, rfl, by simp, by simp [maxLen], RowsW.nil, hlt⟩
  · refine ⟨_, cap, rfl, hn, hm, fun k r hr => ⟨_, rfl, (hlt g rfl).2, fun j u hu => ?_⟩, hlt⟩
    have hj : j < sz := by
      have := ha r (List.mem_of_getElem? hr)
      have := (List.getElem?_eq_some_iff.1 hu).1
      omega
    have := World.ownsRow.cells h (g := g) rfl (k * sz + j) u (by rw [flatten_at rows sz k j r ha hr hj]; exact hu)
    exact this
theorem OwnR.snoc {v' : Value} {n : Nat} {r : List Value} (hn : n = rows.length + 1) (h : w'.ownsRow B e sz v' n (rows.flatten ++ r)) : OwnR w' B e sz v' (rows ++ [r]) := by
  unfold OwnR
  rw [List.length_append, List.length_singleton, ← hn, List.flatten_append]
  simpa using h
end

theorem Blk.newAt {w : World} {g : Nat} {t : TypeId} {cs : Array Value} (h : w.heap.size = g) : Blk (w.alloc (.cells cs t)) g t cs := h ▸ Blk.new w t cs
theorem Blk.ne_ {w : World} {g g' : Nat} {t t' : TypeId} {cs cs' : Array Value} (h : Blk w g t cs) (h' : Blk w g' t' cs') (hne : t ≠ t') : g ≠ g' := by
  rintro rfl
  unfold Blk at h h'
  rw [h] at h'
  injection h' with h'
  injection h' with _ ht
  exact hne ht

theorem addr_plain (g n : Nat) : (⟨g, 0, none⟩ : Addr).add n = ⟨g, n, none⟩ := by unfold Addr.add; split <;> simp_all

/-- One row replaced. -/
theorem RowsW.set_ {w : World} {B g i sz : Nat} {rows : List (List Value)} {r' : List Value} (h : RowsW w B (some ⟨g, 0, none⟩) sz rows) (ha : ∀ r ∈ rows, r.length = sz) (hi : i < rows.length) (hr' : r'.length = sz) :
    RowsW (w.setCells g (i * sz) r') B (some ⟨g, 0, none⟩) sz (rows.set i r') := by
  have at_ : ∀ k r j u, rows[k]? = some r → r[j]? = some u → g < B ∧ w.cell? ⟨g, k * sz + j, none⟩ = some u := by
    intro k r j u hk hu
    obtain ⟨ad, e, hb, hc⟩ := h k r hk
    obtain rfl := Option.some.inj e
    have := hc j u hu
    rw [addr_plain] at this
    exact ⟨hb, this⟩
  have hi' : rows[i]? = some rows[i] := List.getElem?_eq_getElem hi
  have hli : (rows[i]).length = sz := ha _ (List.getElem_mem _)
  intro k r hr
  have hgB : g < B := by
    obtain ⟨ad, e, hb, _⟩ := h i _ hi'
    obtain rfl := Option.some.inj e
    exact hb
  refine ⟨_, rfl, hgB, fun j u hu => ?_⟩
  rw [addr_plain]
  by_cases hk : k = i
  · subst hk
    rw [List.getElem?_set_self hi] at hr
    obtain rfl := Option.some.inj hr
    have hj := (List.getElem?_eq_some_iff.1 hu).1
    rw [World.cell?_setCells_in g r' (k * sz) w (fun q hq => by
      rw [(at_ k rows[k] q (rows[k])[q] hi' (List.getElem?_eq_getElem (by omega))).2]; rfl) j hj]
    rw [List.getElem?_eq_getElem hj] at hu
    exact hu
  · rw [List.getElem?_set_ne (fun e => hk e.symm)] at hr
    have hl := ha r (List.mem_of_getElem? hr)
    have hj := (List.getElem?_eq_some_iff.1 hu).1
    rw [World.cell?_setCells_out g r' (i * sz) w _ (fun _ _ => ?_)]
    · exact (at_ k r j u hr hu).2
    · show k * sz + j < i * sz ∨ i * sz + r'.length ≤ k * sz + j
      rw [hr']
      rcases Nat.lt_or_gt_of_ne hk with hlt | hgt
      · left
        have := Nat.mul_le_mul_right sz (show k + 1 ≤ i by omega)
        rw [Nat.succ_mul] at this
        omega
      · right
        have := Nat.mul_le_mul_right sz (show i + 1 ≤ k by omega)
        rw [Nat.succ_mul] at this
        omega

theorem OwnR.place {w : World} {B sz n c : Nat} {e : TypeId} {A : Option Addr} {rows : List (List Value)} (h : OwnR w B e sz (.slice A n c) rows) (hn : 0 < rows.length) :
    ∃ g, A = some ⟨g, 0, none⟩ ∧ B ≤ g ∧ g < w.heap.size ∧ ∀ j, w.frozen? ⟨g, j, none⟩ = false := by
  rcases h.2 with ⟨_, h0⟩ | ⟨g, cap, cur, hv, hB, hh, _⟩
  · omega
  · injection hv with h1 h2 h3
    subst h1
    exact ⟨g, rfl, hB, (World.ownsRow.lt h g rfl).2, fun j => by simp [World.frozen?, hh]⟩

end Go.Proofs.Yteilknlokjfelaa
