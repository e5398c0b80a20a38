/- Quiet operations, more: loads, addresses, parts. -/
import Derived.Test.YtekdobbhkklapaaGreatVb
namespace Go.Proofs.YtekdobbhkklapaaGreat
open Go Go.RowKit
set_option linter.unusedVariables false
set_option linter.unusedSimpArgs false

theorem take_drop_at {α : Type} {l : List α} {off n j : Nat} {v : α} (h : ((l.drop off).take n)[j]? = some v) : j < n ∧ l[off + j]? = some v := by
  rw [List.getElem?_take] at h
  split at h
  · rename_i hj
    rw [List.getElem?_drop] at h
    exact ⟨hj, h⟩
  · cases h
theorem range_map_at {α : Type} {f : Nat → α} {n j : Nat} {v : α} (h : ((List.range n).map f)[j]? = some v) : j < n ∧ v = f j := by
  rcases Nat.lt_or_ge j n with hj | hj
  · rw [List.getElem?_map, List.getElem?_range hj] at h
    exact ⟨hj, (Option.some.inj h).symm⟩
  · rw [List.getElem?_eq_none (by simpa using hj)] at h
    cases h

section
variable {X : Cx} {st : St} {o : Oper}

theorem ptr_of {ρ : Env} {M : Mem} {r off : Nat} {v : Value} (h : DenA ρ M (.ptr r off) v) : ∃ g, (ρ r).1 = some g ∧ v = .pointer (some ⟨g, off, none⟩) := by
  cases h with
  | ptr _ _ g h => exact ⟨g, h, rfl⟩
theorem ro_of {ρ : Env} {M : Mem} {n : Nat} {c : Nat → D} {v : Value} (h : DenA ρ M (.ro n c) v) : ∃ (ad : Addr) (u : Nat → Value), v = .pointer (some ad) ∧ (∀ j, j < n → M (ad.add j) = some (u j)) ∧ ∀ j, j < n → DenD M (c j) (u j) := by
  cases h with
  | ro _ _ ad u hm hd => exact ⟨ad, u, rfl, hm, hd⟩
theorem rptr_of {ρ : Env} {M : Mem} {r s k j : Nat} {v : Value} (h : DenA ρ M (.rptr r s k j) v) : ∃ g, (ρ r).1 = some g ∧ v = .pointer (some ⟨g, k * s + j, none⟩) := by
  cases h with
  | rptr _ _ _ _ g h => exact ⟨g, h, rfl⟩
theorem own_of {ρ : Env} {M : Mem} {r s lo n : Nat} {v : Value} (h : DenA ρ M (.own r s lo n) v) : v = .slice (partOf (ρ r).1 (ρ r).2 s lo) n ((ρ r).2 - lo) := by cases h; rfl
theorem val_of {ρ : Env} {M : Mem} {x v : Value} (h : DenA ρ M (.dat (.val x)) v) : v = x := by
  cases h with
  | dat h => cases h; rfl
theorem lst_of {ρ : Env} {M : Mem} {s n : Nat} {f : Nat → Nat → D} {v : Value} (h : DenA ρ M (.dat (.lst s n f)) v) :
    ∃ (A : Option Addr) (cap : Nat) (u : Nat → Nat → Value), v = .slice A n cap ∧ n ≤ cap ∧ cap ≤ maxLen ∧ (A = none → cap = 0) ∧ (∀ ad, A = some ad → ∀ i, i < n → ∀ j, j < s → M (ad.add (i * s + j)) = some (u i j)) ∧ ∀ i, i < n → ∀ j, j < s → DenD M (f i j) (u i j) := by
  cases h with
  | dat h => cases h with
    | lst _ _ _ A cap u hn hc hA hm hd => exact ⟨A, cap, u, rfl, hn, hc, hA, hm, hd⟩
theorem agg_of {ρ : Env} {M : Mem} {cs : List AV} {v : Value} (h : DenA ρ M (.agg cs) v) : ∃ vs : List Value, v = .agg vs.toArray ∧ cs.length = vs.length ∧ ∀ (i : Nat) (c : AV) (u : Value), cs[i]? = some c → vs[i]? = some u → DenA ρ M c u := by
  cases h with
  | agg _ vs hl h => exact ⟨vs, rfl, hl, h⟩
theorem tup_of {ρ : Env} {M : Mem} {cs : List AV} {v : Value} (h : DenA ρ M (.tup cs) v) : ∃ vs : List Value, v = .tuple vs.toArray ∧ cs.length = vs.length ∧ ∀ (i : Nat) (c : AV) (u : Value), cs[i]? = some c → vs[i]? = some u → DenA ρ M c u := by
  cases h with
  | tup _ vs hl h => exact ⟨vs, rfl, hl, h⟩

/-- A row's cells. -/
theorem row_cell {ρ : Env} {M : Mem} {w : World} {r : Nat} {E : TypeId} {s n : Nat} {f : Nat → Nat → D} (h : EntOk ρ M w r (.row E s n f)) {g : Nat} (hg : (ρ r).1 = some g) {k : Nat} (hk : k < n) {j : Nat} (hj : j < s) :
    ∃ u, w.cell? ⟨g, k * s + j, none⟩ = some u ∧ DenD M (f k j) u ∧ u.oneCell' = true := by
  obtain ⟨xs, h1, h2⟩ := h
  obtain ⟨u, hu, hd, ho⟩ := h2 k hk j hj
  have hc := h1.cells (g := g) (by rw [hg]; rfl) _ u hu
  rw [add_off, Nat.zero_add] at hc
  exact ⟨u, hc, hd, ho⟩
theorem pub_cell {ρ : Env} {M : Mem} {w : World} {r : Nat} {s n : Nat} {f : Nat → Nat → D} (hp : PubOk M w) (h : EntOk ρ M w r (.pub s n f)) {g : Nat} (hg : (ρ r).1 = some g) {k : Nat} (hk : k < n) {j : Nat} (hj : j < s) :
    ∃ u, w.cell? ⟨g, k * s + j, none⟩ = some u ∧ DenD M (f k j) u ∧ u.oneCell' = true := by
  have h' : DenD M (.lst s n f) (.slice (addrOf (ρ r).1) n (ρ r).2) := h
  rw [hg] at h'
  cases h' with
  | lst _ _ _ A cap u hn hc hA hm hd =>
    have := hm ⟨g, 0, none⟩ rfl k hk j hj
    rw [add_off, Nat.zero_add] at this
    exact ⟨_, (hp _ _ this).1, hd k hk j hj, (hp _ _ this).2⟩

def rowOf (e : Option Ent) (s : Nat) : Option (Nat × (Nat → Nat → D)) := match e with
  | some (.row _ s' n f) => match Nat.beq s s' with
    | true => some (n, f)
    | false => none
  | some (.pub s' n f) => match Nat.beq s s' with
    | true => some (n, f)
    | false => none
  | _ => none
theorem rowOf_cell {R : Run} {ρ : Env} {M : Mem} {a : Act} {w : World} (h : Sim X R ρ M st a w) {r s n : Nat} {f : Nat → Nat → D} (hr : rowOf (st.ent r) s = some (n, f)) {g : Nat} (hg : (ρ r).1 = some g) {k : Nat} (hk : k < n) {j : Nat} (hj : j < s) :
    ∃ u, w.cell? ⟨g, k * s + j, none⟩ = some u ∧ DenD M (f k j) u ∧ u.oneCell' = true := by
  unfold rowOf at hr
  split at hr
  · rename_i E s' n' f' he
    split at hr
    · rename_i hb
      cases hr
      obtain rfl := Nat.eq_of_beq_eq_true hb
      exact row_cell (h.ents r _ he) hg hk hj
    · cases hr
  · rename_i s' n' f' he
    split at hr
    · rename_i hb
      cases hr
      obtain rfl := Nat.eq_of_beq_eq_true hb
      exact pub_cell h.pub (h.ents r _ he) hg hk hj
    · cases hr
  · cases hr
/-- Such a row has room for its elements. -/
theorem rowOf_cap {R : Run} {ρ : Env} {M : Mem} {a : Act} {w : World} (h : Sim X R ρ M st a w) {r s n : Nat} {f : Nat → Nat → D} (hr : rowOf (st.ent r) s = some (n, f)) : n ≤ (ρ r).2 ∧ (ρ r).2 ≤ maxLen ∧ ((ρ r).1 = none → (ρ r).2 = 0) := by
  unfold rowOf at hr
  split at hr
  · rename_i E s' n' f' he
    split at hr
    · cases hr
      obtain ⟨xs, ⟨_, h1⟩, _⟩ := h.ents r _ he
      rcases h1 with ⟨h1, h2⟩ | ⟨g, cap, cur, hv, _, _, h3, h4, _⟩
      · have e1 : addrOf (ρ r).1 = none := by injection h1
        have e2 : (ρ r).2 = 0 := by injection h1
        subst h2
        exact ⟨Nat.zero_le _, by rw [e2]; exact Nat.zero_le _, fun _ => e2⟩
      · have e2 : (ρ r).2 = cap := by injection hv
        have e1 : addrOf (ρ r).1 = some ⟨g, 0, none⟩ := by injection hv
        rw [e2]
        exact ⟨h3, h4, fun hn => by rw [hn] at e1; cases e1⟩
    · cases hr
  · rename_i s' n' f' he
    split at hr
    · cases hr
      have h' : DenD M (.lst s' n f) (.slice (addrOf (ρ r).1) n (ρ r).2) := h.ents r _ he
      generalize hA' : addrOf (ρ r).1 = A' at h'
      generalize (ρ r).2 = cp at h'
      cases h' with
      | lst _ _ _ A cap u hn hc hA hm hd => exact ⟨hn, hc, fun hn0 => hA (by rw [← hA', hn0]; rfl)⟩
    · cases hr
  · cases hr

def evLoad (X : Cx) (st : St) (t : TypeId) (p : Operand) : Res := match lk t X.T with
  | none => .no
  | some ti => match st.ev X p with
    | .ptr r off => match st.ent r with
      | some (.blk _ cs) => match ti.k.agg with
        | true => match Nat.ble (off + ti.size) cs.length with
          | true => .ok (.agg ((cs.drop off).take ti.size))
          | false => .no
        | false => match cs[off]? with
          | some c => .ok c
          | none => .no
      | _ => .no
    | .ro n c => match ti.k.agg with
      | true => match Nat.ble ti.size n with
        | true => .ok (.agg ((List.range ti.size).map fun j => .dat (c j)))
        | false => .no
      | false => match Nat.ble 1 n with
        | true => .ok (.dat (c 0))
        | false => .no
    | .rptr r s k j => match rowOf (st.ent r) s with
      | none => .no
      | some (n, f) => match ti.k.agg with
        | true => match Nat.ble (j + ti.size) s with
          | true => .cnd (k < n) (.agg ((List.range ti.size).map fun i => .dat (f k (j + i))))
          | false => .no
        | false => match Nat.ble (j + 1) s with
          | true => .cnd (k < n) (.dat (f k j))
          | false => .no
    | _ => .no

theorem run_load_op {P : Program} {a : Act} {t : TypeId} {p : Operand} (ho : o.op = .load t p) {ad : Addr} (hp : a.eval p = .pointer (some ad)) {w : World} {v : Value} (h : (loadVar t ad).run P w = .ok v w) : (execOp a.eval o).run P w = .ok (.value v) w := by
  unfold execOp
  simp [ho, Instr.loadAt, Instr.sureAddr, hp, h]

theorem s_load (hX : X.ok) {t : TypeId} {p : Operand} (ho : o.op = .load t p) : (evLoad X st t p).sound X st o := by
  unfold evLoad
  split
  · trivial
  rename_i ti hti
  have hT := hX t ti hti
  split
  · rename_i r off hp
    split
    · rename_i E cs he
      split
      · rename_i hag
        split
        · rename_i hle
          have hle := Nat.le_of_ble_eq_true hle
          intro R ρ M a w h
          obtain ⟨g, hg, hv⟩ := ptr_of (hp ▸ h.ev p)
          obtain ⟨g', vs, hg', hh, hl, hc⟩ := h.ents r _ he
          rw [hg] at hg'; cases hg'
          have hlen : ((vs.toList.drop off).take ti.size).length = ti.size := by simp; omega
          refine qval h.pub (run_load_op ho hv (run_loadVar_cells hT hag w _ ((vs.toList.drop off).take ti.size) hlen fun j v hj => ?_)) (.agg _ _ (by rw [hlen]; simp; omega) fun i c v hi hv => ?_)
          · obtain ⟨_, h2⟩ := take_drop_at hj
            rw [add_off, cell_of_row w g (off + j) vs E (0, 0) hh]
            simpa using h2
          · obtain ⟨_, h1⟩ := take_drop_at hi
            obtain ⟨_, h2⟩ := take_drop_at hv
            exact hc _ _ _ h1 (by simpa using h2)
        · trivial
      · rename_i hag
        split
        · rename_i c hcs
          intro R ρ M a w h
          obtain ⟨g, hg, hv⟩ := ptr_of (hp ▸ h.ev p)
          obtain ⟨g', vs, hg', hh, hl, hc⟩ := h.ents r _ he
          rw [hg] at hg'; cases hg'
          have hlt : off < vs.size := by
            have := (List.getElem?_eq_some_iff.1 hcs).1
            omega
          refine qval h.pub (run_load_op ho hv (run_loadVar_cell hT hag w _ vs[off] ?_)) (hc off c _ hcs (by simp [hlt]))
          rw [cell_of_row w g off vs E (0, 0) hh]
          simp [hlt]
        · trivial
    · trivial
  · rename_i n c hp
    split
    · rename_i hag
      split
      · rename_i hle
        have hle := Nat.le_of_ble_eq_true hle
        intro R ρ M a w h
        obtain ⟨ad, u, hv, hm, hd⟩ := ro_of (hp ▸ h.ev p)
        refine qval h.pub (run_load_op ho hv (run_loadVar_cells hT hag w _ ((List.range ti.size).map u) (by simp) fun j v hj => ?_)) (.agg _ _ (by simp) fun i c' v hi hv => ?_)
        · obtain ⟨hj1, rfl⟩ := range_map_at hj
          exact (h.pub _ _ (hm j (by omega))).1
        · obtain ⟨hi1, rfl⟩ := range_map_at hi
          obtain ⟨_, rfl⟩ := range_map_at hv
          exact .dat (hd i (by omega))
      · trivial
    · rename_i hag
      split
      · rename_i hle
        have hle := Nat.le_of_ble_eq_true hle
        intro R ρ M a w h
        obtain ⟨ad, u, hv, hm, hd⟩ := ro_of (hp ▸ h.ev p)
        exact qval h.pub (run_load_op ho hv (run_loadVar_cell hT hag w _ (u 0) (h.pub _ _ (hm 0 (by omega))).1)) (.dat (hd 0 (by omega)))
      · trivial
  · rename_i r s k j hp
    split
    · trivial
    rename_i n f hr
    split
    · rename_i hag
      split
      · rename_i hle
        have hle := Nat.le_of_ble_eq_true hle
        intro hk R ρ M a w h
        obtain ⟨g, hg, hv⟩ := rptr_of (hp ▸ h.ev p)
        have hcell := fun i (hi : i < ti.size) => rowOf_cell h hr hg hk (j := j + i) (by omega)
        have hch : ∃ u : Nat → Value, ∀ i, i < ti.size → w.cell? ⟨g, k * s + (j + i), none⟩ = some (u i) ∧ DenD M (f k (j + i)) (u i) := by
          refine ⟨fun i => if hi : i < ti.size then (hcell i hi).choose else undef, fun i hi => ?_⟩
          have := (hcell i hi).choose_spec
          simp only [dif_pos hi]
          exact ⟨this.1, this.2.1⟩
        obtain ⟨u, hu⟩ := hch
        refine qval h.pub (run_load_op ho hv (run_loadVar_cells hT hag w _ ((List.range ti.size).map u) (by simp) fun i v hi => ?_)) (.agg _ _ (by simp) fun i c' v hi hv => ?_)
        · obtain ⟨hi1, rfl⟩ := range_map_at hi
          rw [add_off, Nat.add_assoc]
          exact (hu i hi1).1
        · obtain ⟨hi1, rfl⟩ := range_map_at hi
          obtain ⟨_, rfl⟩ := range_map_at hv
          exact .dat (hu i hi1).2
      · trivial
    · rename_i hag
      split
      · rename_i hle
        have hle := Nat.le_of_ble_eq_true hle
        intro hk R ρ M a w h
        obtain ⟨g, hg, hv⟩ := rptr_of (hp ▸ h.ev p)
        obtain ⟨u, hu, hd, _⟩ := rowOf_cell h hr hg hk (j := j) (by omega)
        exact qval h.pub (run_load_op ho hv (run_loadVar_cell hT hag w _ u hu)) (.dat hd)
      · trivial
  · trivial

/-! Addresses of fields. -/
def evFieldAddr (X : Cx) (st : St) (t : TypeId) (p : Operand) (i : Nat) : Res := match lk t X.T with
  | some ⟨.struct fs, _, _⟩ => match fs[i]? with
    | none => .no
    | some (off, sz) => match st.ev X p with
      | .ptr r o => .ok (.ptr r (o + off))
      | .ro n c => match Nat.ble off n with
        | true => .ok (.ro (n - off) fun j => c (off + j))
        | false => .no
      | .rptr r s k j => .ok (.rptr r s k (j + off))
      | _ => .no
  | _ => .no

theorem s_fieldAddr (hX : X.ok) {t : TypeId} {p : Operand} {i : Nat} (ho : o.op = .fieldAddr t p i) : (evFieldAddr X st t p i).sound X st o := by
  unfold evFieldAddr
  split
  · rename_i fs sz0 z0 hti
    obtain ⟨_, _, fields, hf, _, hfs⟩ := hX t _ hti
    split
    · trivial
    rename_i off sz hi
    obtain ⟨f, hfi, hoff, fi, hinf, hfs1, hfs2⟩ := hfs i off sz hi
    have hrun : ∀ {a : Act} {w : World} {ad : Addr}, a.eval p = .pointer (some ad) → (execOp a.eval o).run X.P w = .ok (.value (.pointer (some (ad.add off)))) w := by
      intro a w ad hp
      have hsz : fi.size ≠ 0 := by rw [hfs1]; exact hfs2
      unfold execOp
      simp [ho, Instr.fieldAt, Instr.sureAddr, hp, run_underlying hf, hfi, fieldPlace, run_sizeOf hinf, hsz, hoff]
    split
    · rename_i r off0 hp
      intro R ρ M a w h
      obtain ⟨g, hg, hv⟩ := ptr_of (hp ▸ h.ev p)
      exact qval h.pub (hrun hv) (by rw [add_off]; exact .ptr r _ g hg)
    · rename_i n c hp
      split
      · rename_i hle
        have hle := Nat.le_of_ble_eq_true hle
        intro R ρ M a w h
        obtain ⟨ad, u, hv, hm, hd⟩ := ro_of (hp ▸ h.ev p)
        exact qval h.pub (hrun hv) (.ro _ _ _ (fun j => u (off + j)) (fun j hj => by rw [add_add]; exact hm _ (by omega)) (fun j hj => hd _ (by omega)))
      · trivial
    · rename_i r s k j hp
      intro R ρ M a w h
      obtain ⟨g, hg, hv⟩ := rptr_of (hp ▸ h.ev p)
      exact qval h.pub (hrun hv) (by rw [add_off, Nat.add_assoc]; exact .rptr r s k _ g hg)
    · trivial
  · trivial

/-- A field of an aggregate. -/
def evField (X : Cx) (st : St) (t : TypeId) (x : Operand) (i : Nat) (ft : Option TI) : Res := match lk t X.T with
  | some ⟨.struct fs, _, _⟩ => match fs[i]? with
    | none => .no
    | some (off, sz) => match st.ev X x with
      | .agg cs => match Nat.beq sz 1 with
        | true => match cs[off]? with
          | some c => .ok c
          | none => .no
        | false => .no
      | _ => .no
  | _ => .no

/-! Addresses of elements. -/
def evIndexAddr (X : Cx) (st : St) (t : TypeId) (x i : Operand) : Res := match st.ev X i with
  | .dat (.val (.int _ z)) => match lk t X.T with
    | some ⟨.slice E es _ _, _, _⟩ => match st.ev X x with
      | .dat (.lst s n f) => match Nat.beq es s with
        | true => .cnd (0 ≤ z ∧ z < (n : Int)) (.ro s fun j => f z.toNat j)
        | false => .no
      | .own r s lo m => match Nat.beq es s with
        | true => match rowOf (st.ent r) s with
          | some (n, f) => .cnd (0 ≤ z ∧ z < (m : Int) ∧ lo + m ≤ n) (.rptr r s (lo + z.toNat) 0)
          | none => .no
        | false => .no
      | _ => .no
    | some ⟨.arr n E es, _, _⟩ => match st.ev X x with
      | .ro m c => match Nat.ble (n * es) m with
        | true => .cnd (0 ≤ z ∧ z < (n : Int)) (.ro es fun j => c (z.toNat * es + j))
        | false => .no
      | .ptr r off => .cnd (0 ≤ z ∧ z < (n : Int)) (.ptr r (off + z.toNat * es))
      | _ => .no
    | _ => .no
  | _ => .no

theorem partOf_some {ρ : Env} {r s lo : Nat} {g : Nat} (hg : (ρ r).1 = some g) (hlo : lo < (ρ r).2) : partOf (ρ r).1 (ρ r).2 s lo = some ⟨g, lo * s, none⟩ := by
  unfold partOf
  rw [if_neg (by omega), hg]
  show some ((⟨g, 0, none⟩ : Addr).add (lo * s)) = _
  rw [add_off, Nat.zero_add]

theorem s_indexAddr (hX : X.ok) {t : TypeId} {x i : Operand} (ho : o.op = .indexAddr t x i) : (evIndexAddr X st t x i).sound X st o := by
  unfold evIndexAddr
  split
  · rename_i k z hi
    split
    · rename_i E es eb ez sz0 z0 hti
      obtain ⟨_, _, hu, ie, hie, hsz, _⟩ := hX t _ hti
      have hrun : ∀ {a : Act} {w : World} {ad : Addr} {n cap : Nat}, a.eval i = .int k z → a.eval x = .slice (some ad) n cap → 0 ≤ z → z < (n : Int) → (execOp a.eval o).run X.P w = .ok (.value (.pointer (some (ad.add (z.toNat * es))))) w := by
        intro a w ad n cap h1 h2 h3 h4
        have : 0 ≤ z ∧ z < (n : Int) := ⟨h3, h4⟩
        unfold execOp
        simp [ho, Instr.indexAt, asIntOf, h1, h2, run_underlying hu, this, run_sizeOf hie, hsz]
      split
      · rename_i s n f hx
        split
        · rename_i hb
          obtain rfl := Nat.eq_of_beq_eq_true hb
          intro hz R ρ M a w h
          obtain ⟨A, cap, u, hv, hn, hc, hA, hm, hd⟩ := lst_of (hx ▸ h.ev x)
          have hiv := val_of (hi ▸ h.ev i)
          cases A with
          | none => have := hA rfl; omega
          | some ad =>
            have hlt : z.toNat < n := by omega
            exact qval h.pub (hrun hiv hv hz.1 hz.2) (.ro _ _ _ (fun j => u z.toNat j) (fun j hj => by rw [add_add]; exact hm ad rfl _ hlt j hj) (fun j hj => hd _ hlt j hj))
        · trivial
      · rename_i r s lo m hx
        split
        · rename_i hb
          obtain rfl := Nat.eq_of_beq_eq_true hb
          split
          · rename_i n f hr
            intro hz R ρ M a w h
            obtain ⟨hz1, hz2, hz3⟩ := hz
            obtain ⟨hc1, hc2, hc3⟩ := rowOf_cap h hr
            have hv := own_of (hx ▸ h.ev x)
            have hiv := val_of (hi ▸ h.ev i)
            cases hg : (ρ r).1 with
            | none => have := hc3 hg; omega
            | some g =>
              rw [partOf_some hg (by omega)] at hv
              refine qval h.pub (hrun hiv hv hz1 hz2) ?_
              rw [add_off, ← Nat.add_mul]
              exact .rptr r es _ 0 g hg
          · trivial
        · trivial
      · trivial
    · rename_i n E es sz0 z0 hti
      obtain ⟨_, _, hu, ie, hie, hsz⟩ := hX t _ hti
      split
      · rename_i m c hx
        split
        · rename_i hle
          have hle := Nat.le_of_ble_eq_true hle
          intro hz R ρ M a w h
          obtain ⟨ad, u, hv, hm, hd⟩ := ro_of (hx ▸ h.ev x)
          have hiv := val_of (hi ▸ h.ev i)
          have hrun : (execOp a.eval o).run X.P w = .ok (.value (.pointer (some (ad.add (z.toNat * es))))) w := by
            unfold execOp
            simp [ho, Instr.indexAt, Instr.sureAddr, asIntOf, hiv, hv, run_underlying hu, hz, run_sizeOf hie, hsz]
          have hlt : z.toNat < n := by omega
          have hin : ∀ j, j < es → z.toNat * es + j < m := fun j hj => by
            have h1 : (z.toNat + 1) * es ≤ n * es := Nat.mul_le_mul_right es hlt
            rw [Nat.add_mul, Nat.one_mul] at h1
            omega
          exact qval h.pub hrun (.ro _ _ _ (fun j => u (z.toNat * es + j)) (fun j hj => by rw [add_add]; exact hm _ (hin j hj)) (fun j hj => hd _ (hin j hj)))
        · trivial
      · rename_i r off hx
        intro hz R ρ M a w h
        obtain ⟨g, hg, hv⟩ := ptr_of (hx ▸ h.ev x)
        have hiv := val_of (hi ▸ h.ev i)
        have hrun : (execOp a.eval o).run X.P w = .ok (.value (.pointer (some ((⟨g, off, none⟩ : Addr).add (z.toNat * es))))) w := by
          unfold execOp
          simp [ho, Instr.indexAt, Instr.sureAddr, asIntOf, hiv, hv, run_underlying hu, hz, run_sizeOf hie, hsz]
        rw [add_off] at hrun
        exact qval h.pub hrun (.ptr r _ g hg)
      · trivial
    · trivial
  · trivial

/-- One of several results. -/
def evExtract (X : Cx) (st : St) (x : Operand) (i : Nat) : Res := match st.ev X x with
  | .tup vs => match vs[i]? with
    | some c => .ok c
    | none => .no
  | _ => .no
theorem s_extract {x : Operand} {i : Nat} (ho : o.op = .extract x i) : (evExtract X st x i).sound X st o := by
  unfold evExtract
  split
  · rename_i vs hx
    split
    · rename_i c hc
      intro R ρ M a w h
      obtain ⟨us, hv, hl, hd⟩ := tup_of (hx ▸ h.ev x)
      have hlt : i < us.length := by
        have := (List.getElem?_eq_some_iff.1 hc).1
        omega
      refine qval h.pub (v := us[i]) ?_ (hd i c _ hc (by simp [hlt]))
      unfold execOp
      simp [ho, hv, Instr.extract, hlt]
    · trivial
  · trivial

/-- An address that is known to be none of nothing. -/
def evNil (X : Cx) (st : St) (x : Operand) : Res := match st.ev X x with
  | .ptr r o => .ok (.ptr r o)
  | .ro n c => .ok (.ro n c)
  | .rptr r s k j => .ok (.rptr r s k j)
  | _ => .no
theorem s_nil {x : Operand} (ho : o.op = .nilCheck x) : (evNil X st x).sound X st o := by
  unfold evNil
  split
  · rename_i hx
    intro R ρ M a w h
    have hd := hx ▸ h.ev x
    obtain ⟨g, hg, hv⟩ := ptr_of hd
    refine qval h.pub (v := a.eval x) ?_ hd
    unfold execOp
    simp [ho, hv]
  · rename_i hx
    intro R ρ M a w h
    have hd := hx ▸ h.ev x
    obtain ⟨ad, u, hv, _⟩ := ro_of hd
    refine qval h.pub (v := a.eval x) ?_ hd
    unfold execOp
    simp [ho, hv]
  · rename_i hx
    intro R ρ M a w h
    have hd := hx ▸ h.ev x
    obtain ⟨g, hg, hv⟩ := rptr_of hd
    refine qval h.pub (v := a.eval x) ?_ hd
    unfold execOp
    simp [ho, hv]
  · trivial

end
end Go.Proofs.YtekdobbhkklapaaGreat
