/- Functions: a contract out of the walk of the body. -/
import Derived.Test.YtekdobbhkklapaaGreatVr
namespace Go.Proofs.YtekdobbhkklapaaGreat
open Go Go.RowKit
set_option linter.unusedVariables false
set_option linter.unusedSimpArgs false
set_option linter.unnecessarySimpa false

/-- When a call ends all that it made may be public. -/
def endM (R : Run) (M : Mem) (w : World) : Mem := fun p => match M p with
  | some v => some v
  | none => match Nat.ble R.w0.heap.size p.block with
    | true => allM w p
    | false => none
theorem endM_le (R : Run) (M : Mem) (w : World) : Mem.le M (endM R M w) := fun p v hp => by unfold endM; rw [hp]
theorem endM_ok {R : Run} {M : Mem} {w : World} (h : PubOk M w) : PubOk (endM R M w) w := fun p v hp => by
  unfold endM at hp
  cases hm : M p with
  | some u => rw [hm] at hp; cases hp; exact h p _ hm
  | none =>
    rw [hm] at hp
    simp only at hp
    split at hp
    · exact allM_ok w p v hp
    · cases hp
theorem endM_fresh {R : Run} {M : Mem} {w : World} {p : Addr} {v : Value} (hp : endM R M w p = some v) : M p = some v ∨ R.w0.heap.size ≤ p.block := by
  unfold endM at hp
  cases hm : M p with
  | some u => rw [hm] at hp; exact .inl hp
  | none =>
    rw [hm] at hp
    simp only at hp
    split at hp
    · rename_i hb; exact .inr (Nat.le_of_ble_eq_true hb)
    · cases hp
theorem endM_of {R : Run} {M : Mem} {w : World} (hpub : PubOk M w) {p : Addr} {v : Value} (h : w.cell? p = some v) (ho : v.oneCell' = true) (hb : R.w0.heap.size ≤ p.block) : endM R M w p = some v := by
  unfold endM
  cases hm : M p with
  | some u =>
    have := (hpub p u hm).1
    rw [h] at this; cases this; rfl
  | none =>
    simp only
    have : Nat.ble R.w0.heap.size p.block = true := Nat.ble_eq ▸ hb
    rw [this]
    exact allM_of h ho

/-- A result that the function has as c, handed back as d. -/
def ResLe (X : Cx) (st : St) (c d : AV) : Prop := ∀ R ρ M a w v, R.bs = [] → Sim X R ρ M st a w → DenA ρ M c v → DenP (endM R M w) d v
def RessLe (X : Cx) (st : St) : List AV → List AV → Prop
  | [], [] => True
  | c :: l, d :: r => ResLe X st c d ∧ RessLe X st l r
  | _, _ => False
theorem RessLe_at {X : Cx} {st : St} : ∀ {cs ds : List AV}, RessLe X st cs ds → ds.length = cs.length ∧ ∀ (i : Nat) (d : AV), ds[i]? = some d → ∃ c, cs[i]? = some c ∧ ResLe X st c d
  | [], [], _ => ⟨rfl, fun i d h => by simp at h⟩
  | c :: l, d :: r, h => by
    obtain ⟨h1, h2⟩ := RessLe_at h.2
    refine ⟨by simp [h1], fun i d' hi => ?_⟩
    cases i with
    | zero => simp at hi; subst hi; exact ⟨c, rfl, h.1⟩
    | succ i => obtain ⟨c', e1, e2⟩ := h2 i d' (by simpa using hi); exact ⟨c', by simpa using e1, e2⟩
  | [], _ :: _, h => h.elim
  | _ :: _, [], h => h.elim
theorem ResLe.pure {X : Cx} {st : St} {c d : AV} (h : AVle c d) (hd : d.pure = true) : ResLe X st c d := fun R ρ M a w v _ hs hc => AV.pure_den (h _ _ _ (hc.keep (endM_le R M w) fun _ _ => rfl)) hd
theorem ResLe.agg {X : Cx} {st : St} {cs ds : List AV} (h : RessLe X st cs ds) : ResLe X st (.agg cs) (.agg ds) := fun R ρ M a w v hb hs hc ρ' => by
  obtain ⟨vs, rfl, hl, hd⟩ := agg_of hc
  obtain ⟨h1, h2⟩ := RessLe_at h
  exact .agg ds vs (by omega) fun i c v e1 e2 => by
    obtain ⟨c', e3, e4⟩ := h2 i c e1
    exact e4 R ρ M a w v hb hs (hd i c' v e3 e2) ρ'
/-- An own row, handed back. -/
theorem ResLe.own {X : Cx} {st : St} {r s lo n N : Nat} {f g : Nat → Nat → D} (hr : rowOf (st.ent r) s = some (N, f)) (hle : lo + n ≤ N) (hfg : ∀ i, i < n → ∀ j, j < s → Dle (f (lo + i) j) (g i j)) : ResLe X st (.own r s lo n) (.dat (.lst s n g)) := by
  intro R ρ M a w v hbs hs hc ρ'
  obtain rfl := own_of hc
  obtain ⟨hc1, hc2, hc3⟩ := rowOf_cap hs hr
  have hcell : ∀ gg, (ρ r).1 = some gg → ∀ i, i < n → ∀ j, j < s → ∃ u, endM R M w ⟨gg, (lo + i) * s + j, none⟩ = some u ∧ DenD M (f (lo + i) j) u := by
    intro gg hg i hi j hj
    obtain ⟨u, h1, h2, h3⟩ := rowOf_cell hs hr hg (k := lo + i) (by omega) hj
    refine ⟨u, ?_, h2⟩
    unfold rowOf at hr
    split at hr
    · rename_i E s' n' f' he
      rcases hs.own r _ gg he rfl hg with h4 | h4
      · exact endM_of hs.pub h1 h3 h4
      · have h5 := R.hsub _ _ h4.2
        rw [hbs] at h5; cases h5
    · rename_i s' n' f' he
      split at hr
      · rename_i hsb
        cases hr
        obtain rfl := Nat.eq_of_beq_eq_true hsb
        have h' : DenD M (.lst s N f) (.slice (addrOf (ρ r).1) N (ρ r).2) := hs.ents r _ he
        rw [hg] at h'
        cases h' with
        | lst _ _ _ A cap u' hn hc hA hm hd =>
          have h5 := hm ⟨gg, 0, none⟩ rfl (lo + i) (by omega) j hj
          rw [add_off, Nat.zero_add] at h5
          have h6 := (hs.pub _ _ h5).1
          rw [h1] at h6
          have h7 := endM_le R M w _ _ h5
          rw [h7, h6]
      · cases hr
    · cases hr
  have hch : ∃ u : Nat → Nat → Value, ∀ i, i < n → ∀ j, j < s → ∀ gg, (ρ r).1 = some gg → endM R M w ⟨gg, (lo + i) * s + j, none⟩ = some (u i j) ∧ DenD M (f (lo + i) j) (u i j) := by
    cases hg : (ρ r).1 with
    | none => exact ⟨fun _ _ => undef, fun i hi => by have := hc3 hg; omega⟩
    | some gg =>
      refine ⟨fun i j => if hh : i < n ∧ j < s then (hcell gg hg i hh.1 j hh.2).choose else undef, fun i hi j hj g' hg' => ?_⟩
      cases hg'
      have hh : i < n ∧ j < s := ⟨hi, hj⟩
      simp only [dif_pos hh]
      exact (hcell gg hg i hh.1 j hh.2).choose_spec
  obtain ⟨u, hu⟩ := hch
  refine .dat (.lst s n g _ _ u (by omega) (by omega) (fun e => ?_) (fun ad e i hi j hj => ?_) (fun i hi j hj => ?_))
  · cases hg : (ρ r).1 with
    | none => have := hc3 hg; omega
    | some gg =>
      rw [hg] at e
      unfold partOf at e
      split at e
      · omega
      · simp [addrOf] at e
  · cases hg : (ρ r).1 with
    | none => have := hc3 hg; omega
    | some gg =>
      rw [partOf_some hg (by omega)] at e
      cases e
      obtain ⟨h1, _⟩ := hu i hi j hj gg hg
      rw [add_off]
      rw [Nat.add_mul, Nat.add_assoc] at h1
      exact h1
  · cases hg : (ρ r).1 with
    | none => have := hc3 hg; omega
    | some gg =>
      obtain ⟨_, h2⟩ := hu i hi j hj gg hg
      exact hfg i hi j hj _ _ (h2.mono (endM_le R M w))

/-- The value of a result variable. -/
def resV (a : Act) : ResultVar → Sem Value
  | .tmp t => pure (a.tmps.getD t undef)
  | .cell p t => do loadVar t (← asAddr (a.tmps.getD p undef))
theorem results_eq (fn : Func) (a : Act) : results fn a.tmps = (do
    let vs ← fn.results.mapM (resV a)
    pure (if h : vs.size = 1 then vs[0] else .tuple vs)) := by
  unfold results
  congr 1
/-- What a result variable holds. -/
def resAV (X : Cx) (st : St) (r : ResultVar) : Option AV := match r with
  | .tmp t => some (st.get t)
  | .cell p t => match lk t X.T with
    | none => none
    | some ti => match st.get p with
      | .ptr r off => match st.ent r with
        | some (.blk _ cs) => match ti.k.agg with
          | true => match Nat.ble (off + ti.size) cs.length with
            | true => some (.agg ((cs.drop off).take ti.size))
            | false => none
          | false => cs[off]?
        | _ => none
      | _ => none
theorem resAV_ok {X : Cx} (hX : X.ok) {R : Run} {ρ : Env} {M : Mem} {st : St} {a : Act} {w : World} (h : Sim X R ρ M st a w) {r : ResultVar} {c : AV} (hr : resAV X st r = some c) :
    ∃ v, (resV a r).run X.P w = .ok v w ∧ DenA ρ M c v := by
  unfold resAV at hr
  split at hr
  · cases hr
    exact ⟨_, rfl, h.slots _⟩
  · rename_i p t
    split at hr
    · cases hr
    rename_i ti hti
    have hT := hX t ti hti
    split at hr
    · rename_i r off hp
      obtain ⟨g, hg, hv⟩ := ptr_of (hp ▸ h.slots p)
      split at hr
      · rename_i E cs he
        obtain ⟨g', vs, hg', hh, hl, hc⟩ := h.ents r _ he
        rw [hg] at hg'; cases hg'
        split at hr
        · rename_i hag
          split at hr
          · rename_i hle
            have hle := Nat.le_of_ble_eq_true hle
            cases hr
            have hlen : ((vs.toList.drop off).take ti.size).length = ti.size := by simp; omega
            refine ⟨_, ?_, .agg _ ((vs.toList.drop off).take ti.size) (by rw [hlen]; simp; omega) fun i c v hi hv => ?_⟩
            · simp only [resV, Sem.run_bind, hv, asAddr, Sem.run_pure, Result.andThen_ok]
              refine run_loadVar_cells hT hag w _ ((vs.toList.drop off).take ti.size) hlen fun j v hj => ?_
              obtain ⟨_, h2⟩ := take_drop_at hj
              rw [add_off, cell_of_row w g (off + j) vs E (0, 0) hh]
              simpa using h2
            · obtain ⟨_, h1⟩ := take_drop_at hi
              obtain ⟨_, h2⟩ := take_drop_at hv
              exact hc _ _ _ h1 (by simpa using h2)
          · cases hr
        · rename_i hag
          have hlt : off < vs.size := by
            have := (List.getElem?_eq_some_iff.1 hr).1
            omega
          refine ⟨vs[off], ?_, hc off c _ hr (by simp [hlt])⟩
          simp only [resV, Sem.run_bind, hv, asAddr, Sem.run_pure, Result.andThen_ok]
          refine run_loadVar_cell hT hag w _ vs[off] ?_
          rw [cell_of_row w g off vs E (0, 0) hh]
          simp [hlt]
      · cases hr
    · cases hr

def resL (X : Cx) (st : St) : List ResultVar → List AV → Prop
  | [], [] => True
  | rv :: rs, d :: ds => (match resAV X st rv with
    | some c => force c fun c => ResLe X st c d
    | none => False) ∧ resL X st rs ds
  | _, _ => False
/-- What a function hands back. -/
def resOk (X : Cx) (st : St) (rs : List ResultVar) (r : AV) : Prop := match rs with
  | [rv] => match resAV X st rv with
    | some c => force c fun c => ResLe X st c r
    | none => False
  | rs => match r with
    | .tup ds => resL X st rs ds
    | _ => False

theorem resL_ok {X : Cx} (hX : X.ok) {R : Run} {ρ : Env} {M : Mem} {st : St} {a : Act} {w : World} (hb : R.bs = []) (h : Sim X R ρ M st a w) : ∀ (rs : List ResultVar) (ds : List AV), resL X st rs ds →
    ∃ vs, (rs.mapM (resV a)).run X.P w = .ok vs w ∧ ds.length = vs.length ∧ rs.length = vs.length ∧ ∀ (i : Nat) (d : AV) (v : Value), ds[i]? = some d → vs[i]? = some v → DenP (endM R M w) d v
  | [], [], _ => ⟨[], rfl, rfl, rfl, fun i d v h1 => by simp at h1⟩
  | rv :: rs, d :: ds, hr => by
    obtain ⟨h1, h2⟩ := hr
    split at h1
    · rename_i c hc
      rw [force_eq] at h1
      obtain ⟨v, hv, hd⟩ := resAV_ok hX h hc
      obtain ⟨vs, e1, e2, e3, e4⟩ := resL_ok hX hb h rs ds h2
      refine ⟨v :: vs, ?_, by simp [e2], by simp [e3], fun i d' v' hi hv' => ?_⟩
      · simp only [List.mapM_cons, Sem.run_bind, Sem.run_pure]
        rw [hv]
        simp only [Result.andThen_ok, e1]
      · cases i with
        | zero => simp at hi hv'; subst hi hv'; exact h1 R ρ M a w v hb h hd
        | succ i => exact e4 i d' v' (by simpa using hi) (by simpa using hv')
    · exact h1.elim
  | [], _ :: _, hr => hr.elim
  | _ :: _, [], hr => hr.elim

theorem resOk_run {X : Cx} (hX : X.ok) {R : Run} {ρ : Env} {M : Mem} {st : St} {a : Act} {w : World} (hb : R.bs = []) (h : Sim X R ρ M st a w) {fn : Func} {rs : List ResultVar} {r : AV} (hrs : fn.results = rs.toArray) (hr : resOk X st rs r) :
    ∃ v, (results fn a.tmps).run X.P w = .ok v w ∧ DenP (endM R M w) r v := by
  have hrun : ∀ {vs : List Value}, (rs.mapM (resV a)).run X.P w = .ok vs w → (results fn a.tmps).run X.P w = .ok (if h : vs.toArray.size = 1 then vs.toArray[0] else .tuple vs.toArray) w := by
    intro vs hvs
    rw [results_eq, hrs, Array.mapM_eq_mapM_toList]
    simp only [Sem.run_bind, Sem.run_map]
    rw [hvs]
    rfl
  unfold resOk at hr
  split at hr
  · rename_i rv
    split at hr
    · rename_i c hc
      rw [force_eq] at hr
      obtain ⟨v, hv, hd⟩ := resAV_ok hX h hc
      refine ⟨v, ?_, hr R ρ M a w v hb h hd⟩
      rw [hrun (vs := [v]) (by
        simp only [List.mapM_cons, List.mapM_nil, Sem.run_bind, Sem.run_pure]
        rw [hv]
        rfl)]
      rfl
    · exact hr.elim
  · rename_i hne
    split at hr
    · rename_i ds
      obtain ⟨vs, e1, e2, e3, e4⟩ := resL_ok hX hb h rs ds hr
      refine ⟨.tuple vs.toArray, ?_, fun ρ' => .tup ds vs e2 fun i d v h1 h2 => e4 i d v h1 h2 ρ'⟩
      rw [hrun e1, dif_neg]
      intro h1
      have : rs.length = 1 := by rw [e3]; simpa using h1
      obtain ⟨rv, hrv⟩ := List.length_eq_one_iff.1 this
      exact hne rv hrv
    · exact hr.elim

def argsF : List AV → Nat → List (Nat × AV)
  | [], _ => []
  | c :: l, k => (k, c) :: argsF l (k + 1)
theorem argsF_lk : ∀ (l : List AV) (k t : Nat), lk t (argsF l k) = if k ≤ t then l[t - k]? else none
  | [], k, t => by simp [argsF, lk]
  | c :: l, k, t => by
    simp only [argsF, lk_cons, argsF_lk l (k + 1) t]
    by_cases h : k = t
    · subst h; simp
    · rw [if_neg h]
      by_cases h2 : k ≤ t
      · rw [if_pos (by omega), if_pos h2, show t - k = (t - (k + 1)) + 1 by omega]
        simp
      · rw [if_neg (by omega), if_neg h2]

/-- THE CONTRACT OF A FUNCTION. -/
theorem ACalls.of {X : Cx} (hX : X.ok) {f : FuncId} {fn : Func} {c : Code} {n : Nat} {rs : List ResultVar} {args : List AV} {r : AV} (hf : X.P.funcs[f]? = some fn) (hb : fn.body = some c) (hnm : (fn.name == "runtime.NumGoroutine") = false) (hn : fn.ntmps = n) (hrs : fn.results = rs.toArray) (hna : args.length ≤ n)
    (h : W X n c ⟨argsF args 0, []⟩ fun e st => match e with
      | .ret => resOk X st rs r
      | .normal => resOk X st rs r
      | _ => False) (hn5 : n ≤ 5000 := by exact Nat.le_of_ble_eq_true rfl) : ACalls X f args r := by
  refine ⟨⟨fn, hf, by rw [hb]; rfl, hnm⟩, fun M w vs hg hp hl hd => ?_⟩
  refine calls_of_wp hf hb ?_
  have hsim : Sim X ⟨n, hn5, w, M, [], fun _ => (none, 0), fun _ _ => False, fun _ _ h => h.elim⟩ (fun _ => (none, 0)) M ⟨argsF args 0, []⟩ { tmps := vs.toArray ++ Array.replicate (fn.ntmps - vs.toArray.size) undef, defers := [] } w := by
    refine ⟨?_, rfl, Chg.refl _ _, Mem.le_refl _, hg, fun p v hp => .inl hp, hp, fun t => ?_, fun r e he => (by cases he), fun r e g he => (by cases he), fun r r' e e' he => (by cases he), fun r e g p v he => (by cases he), fun _ _ => rfl, fun _ => Nat.le_refl _⟩
    · simp [hn]
      have : vs.length ≤ n := by omega
      omega
    · have hget : (⟨argsF args 0, []⟩ : St).get t = match args[t]? with
        | some c => c
        | none => .junk := by
        unfold St.get
        rw [argsF_lk, if_pos (Nat.zero_le _), Nat.sub_zero]
        cases args[t]? <;> rfl
      rw [hget]
      cases ha : args[t]? with
      | none => exact .junk _
      | some c =>
        have hlt : t < vs.length := by
          have := (List.getElem?_eq_some_iff.1 ha).1
          omega
        have hv : (vs.toArray ++ Array.replicate (fn.ntmps - vs.toArray.size) undef).getD t undef = vs[t] := by
          simp [Array.getElem?_append, hlt]
        simp only [hv]
        exact hd t c vs[t] ha (by simp [hlt]) _
  have fin : ∀ {st' : St} {ρ' : Env} {M' : Mem} {a' : Act} {w' : World}, resOk X st' rs r → Sim X ⟨n, hn5, w, M, [], fun _ => (none, 0), fun _ _ => False, fun _ _ h => h.elim⟩ ρ' M' st' a' w' → a'.defers = [] ∧ ∃ v, (results fn a'.tmps).run X.P w' = .ok v w' ∧ ∃ v_1 M', Ending.returned v = .returned v_1 ∧ DenP M' r v_1 ∧ Mem.le M M' ∧ (∀ p u, M' p = some u → M p = some u ∨ w.heap.size ≤ p.block) ∧ PubOk M' w' ∧ Below w.heap.size w w' ∧ (X.dr = true → w.drawn ≤ w'.drawn) := by
    intro st' ρ' M' a' w' hres hs
    obtain ⟨v, hv, hd⟩ := resOk_run hX rfl hs hrs hres
    refine ⟨hs.defers, v, hv, v, _, rfl, hd, Mem.le_trans hs.m0 (endM_le _ _ _), fun p u hp => ?_, endM_ok hs.pub, hs.chg.below, hs.drn⟩
    rcases endM_fresh hp with h1 | h1
    · exact hs.fresh p u h1
    · exact .inr h1
  refine wp_mono (h.out hX ⟨n, hn5, w, M, [], fun _ => (none, 0), fun _ _ => False, fun _ _ h => h.elim⟩ rfl _ M _ w hsim) fun e a' w' ⟨st', ρ', M', hq, hs⟩ => ?_
  cases e with
  | normal => exact fin hq hs
  | ret => exact fin hq hs
  | _ => exact hq.elim

def toVs : List AV → Option (List Value)
  | [] => some []
  | c :: l => match c.toV with
    | none => none
    | some v => match toVs l with
      | none => none
      | some r => some (v :: r)
theorem toVs_at : ∀ {cs : List AV} {vs : List Value}, toVs cs = some vs → vs.length = cs.length ∧ ∀ (i : Nat) (c : AV), cs[i]? = some c → ∃ v, vs[i]? = some v ∧ c.toV = some v
  | [], vs, h => by cases h; exact ⟨rfl, fun i c hi => by simp at hi⟩
  | c :: l, vs, h => by
    simp only [toVs] at h
    split at h
    · cases h
    rename_i v hv
    split at h
    · cases h
    rename_i r hr
    cases h
    obtain ⟨h1, h2⟩ := toVs_at hr
    refine ⟨by simp [h1], fun i c' hi => ?_⟩
    cases i with
    | zero => simp at hi; subst hi; exact ⟨v, rfl, hv⟩
    | succ i => obtain ⟨v', e1, e2⟩ := h2 i c' (by simpa using hi); exact ⟨v', by simpa using e1, e2⟩
def AV.toR : AV → Option Value
  | .tup cs => match toVs cs with
    | some vs => some (.tuple vs.toArray)
    | none => none
  | c => c.toV
theorem toV1_mk {M : Mem} {c : AV} {v : Value} (h : c.toV1 = some v) : DenP M c v := fun ρ => by
  unfold AV.toV1 at h
  split at h
  · cases h; exact .tt
  · cases h; exact .ff
  · cases h; exact .dat (.val _)
  · cases h
theorem mapV_at : ∀ {cs : List AV} {vs : List Value}, mapV cs = some vs → vs.length = cs.length ∧ ∀ (i : Nat) (c : AV), cs[i]? = some c → ∃ v, vs[i]? = some v ∧ c.toV1 = some v
  | [], vs, h => by cases h; exact ⟨rfl, fun i c hi => by simp at hi⟩
  | c :: l, vs, h => by
    simp only [mapV] at h
    split at h
    · cases h
    rename_i v hv
    split at h
    · cases h
    rename_i r hr
    cases h
    obtain ⟨h1, h2⟩ := mapV_at hr
    refine ⟨by simp [h1], fun i c' hi => ?_⟩
    cases i with
    | zero => simp at hi; subst hi; exact ⟨v, rfl, hv⟩
    | succ i => obtain ⟨v', e1, e2⟩ := h2 i c' (by simpa using hi); exact ⟨v', by simpa using e1, e2⟩
theorem toV_mk {M : Mem} {c : AV} {v : Value} (h : c.toV = some v) : DenP M c v := fun ρ => by
  unfold AV.toV at h
  split at h
  · split at h
    · rename_i cs vs hvs
      cases h
      obtain ⟨h1, h2⟩ := mapV_at hvs
      exact .agg _ vs h1.symm fun i c v hc hv => by
        obtain ⟨v', e1, e2⟩ := h2 i c hc
        rw [hv] at e1; cases e1
        exact toV1_mk e2 ρ
    · cases h
  · exact toV1_mk h ρ
theorem toR_mk {M : Mem} {c : AV} {v : Value} (h : c.toR = some v) : DenP M c v := fun ρ => by
  unfold AV.toR at h
  split at h
  · split at h
    · rename_i cs vs hvs
      cases h
      obtain ⟨h1, h2⟩ := toVs_at hvs
      exact .tup _ vs h1.symm fun i c v hc hv => by
        obtain ⟨v', e1, e2⟩ := h2 i c hc
        rw [hv] at e1; cases e1
        exact toV_mk e2 ρ
    · cases h
  · exact toV_mk h ρ

/-- A contract whose arguments and result name no memory, out of a contract in the kit's own form. -/
theorem ACalls.of_calls {X : Cx} {f : FuncId} (hf : FnOk X.P f) {args : List AV} {vs : List Value} {r : AV} {v : Value} (ha : toVs args = some vs) (hr : r.toR = some v) (h : ∀ w : World, Calls X.P f vs.toArray w fun e w' => e = .returned v ∧ Below w.heap.size w w') (hXd : X.dr = false := by exact rfl) : ACalls X f args r := by
  refine ⟨hf, fun M w us hg hp hl hd => ?_⟩
  obtain ⟨h1, h2⟩ := toVs_at ha
  have hus : us = vs := by
    apply List.ext_getElem?
    intro i
    cases hi : args[i]? with
    | none =>
      have : args.length ≤ i := by simpa using hi
      rw [List.getElem?_eq_none (by omega), List.getElem?_eq_none (by omega)]
    | some c =>
      obtain ⟨v', e1, e2⟩ := h2 i c hi
      have hlt : i < us.length := by
        have := (List.getElem?_eq_some_iff.1 hi).1
        omega
      have e3 : us[i]? = some us[i] := List.getElem?_eq_getElem hlt
      rw [e3, e1]
      have := hd i c _ hi e3 (fun _ => (none, 0))
      rw [AV.toV_den e2 this]
  subst hus
  refine (h w).mono fun e w' ⟨he, hb⟩ => ⟨v, M, he, toR_mk hr, Mem.le_refl _, fun p u hp => .inl hp, fun p u hpu => ?_, hb, fun h => by rw [hXd] at h; cases h⟩
  obtain ⟨e1, e2⟩ := hp p u hpu
  exact ⟨(hb.cell (cell_lt e1)).trans e1, e2⟩

end Go.Proofs.YtekdobbhkklapaaGreat
