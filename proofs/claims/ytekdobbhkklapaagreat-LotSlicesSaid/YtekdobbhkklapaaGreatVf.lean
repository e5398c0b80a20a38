/- Quiet operations, more: rows that are made, parts of slices and strings, values of interfaces. -/
import Derived.Test.YtekdobbhkklapaaGreatVe
namespace Go.Proofs.YtekdobbhkklapaaGreat
open Go Go.RowKit
set_option linter.unusedVariables false
set_option linter.unusedSimpArgs false

theorem partOf_zero (b : Option Nat) (cap s : Nat) : partOf b cap s 0 = addrOf b := by
  unfold partOf
  split
  · rfl
  · rw [Nat.zero_mul]
    cases b <;> rfl

def AV.toD : AV → Option D
  | .tt => some (.val (.bool true))
  | .ff => some (.val (.bool false))
  | .dat (.val v) => match oneV v with
    | true => some (.val v)
    | false => none
  | .dat (.lst s n f) => some (.lst s n f)
  | _ => none
theorem AV.toD_den {ρ : Env} {M : Mem} {c : AV} {d : D} {v : Value} (hc : c.toD = some d) (h : DenA ρ M c v) : DenD M d v ∧ v.oneCell' = true := by
  unfold AV.toD at hc
  split at hc
  · cases hc; cases h; exact ⟨.val _, rfl⟩
  · cases hc; cases h; exact ⟨.val _, rfl⟩
  · split at hc
    · rename_i hq
      cases hc
      obtain rfl := val_of h
      exact ⟨.val _, oneV_one hq⟩
    · cases hc
  · cases hc
    cases h with
    | dat h => exact ⟨h, by cases h; rfl⟩
  · cases hc
def mapD : List AV → Option (List D)
  | [] => some []
  | c :: l => match c.toD with
    | none => none
    | some d => match mapD l with
      | none => none
      | some r => some (d :: r)
theorem mapD_at : ∀ {l : List AV} {ds : List D}, mapD l = some ds → ds.length = l.length ∧ ∀ (i : Nat) (c : AV), l[i]? = some c → ∃ d, ds[i]? = some d ∧ c.toD = some d
  | [], ds, h => by cases h; exact ⟨rfl, fun i c hi => by simp at hi⟩
  | c :: l, ds, h => by
    simp only [mapD] at h
    split at h
    · cases h
    rename_i d hd
    split at h
    · cases h
    rename_i r hr
    cases h
    obtain ⟨h1, h2⟩ := mapD_at hr
    refine ⟨by simp [h1], fun i c' hi => ?_⟩
    cases i with
    | zero => simp at hi; subst hi; exact ⟨d, rfl, hd⟩
    | succ i => obtain ⟨d', e1, e2⟩ := h2 i c' (by simpa using hi); exact ⟨d', by simpa using e1, e2⟩

/-- A new row, and its slice. -/
theorem extq_row {dr : Bool} {ρ : Env} {M : Mem} {w : World} {t : Nat} {E : TypeId} {s n cap : Nat} {f : Nat → Nat → D} {vs : Array Value} (hp : PubOk M w) (hn : n ≤ cap) (hcap : cap ≤ maxLen) (hs : vs.size = cap * s)
    (hc : ∀ i, i < n → ∀ j, j < s → ∃ u, vs[i * s + j]? = some u ∧ DenD M (f i j) u ∧ u.oneCell' = true) :
    ExtQ dr ρ M w (upd ρ t (some w.heap.size, cap)) M (w.alloc (.cells vs E)) (some t) (.own t s 0 n) (some (.row E s n f)) (.slice (some ⟨w.heap.size, 0, none⟩) n cap) where
  env r hr := upd_ne ρ (fun e => hr _ rfl (by rw [e])) _
  mem := Mem.le_refl _
  fresh p u h := .inl h
  pub := hp.alloc _
  bel := (Below.refl _ _).alloc (Nat.le_refl _) _
  drn _ := Nat.le_refl _
  den := by
    have := DenA.own (ρ := upd ρ t (some w.heap.size, cap)) (M := M) t s 0 n
    rw [upd_same, partOf_zero, Nat.sub_zero] at this
    exact this
  new e he := by
    cases he
    have hns : n * s ≤ cap * s := Nat.mul_le_mul_right s hn
    refine ⟨t, rfl, ⟨vs.toList.take (n * s), ?_, fun i hi j hj => ?_⟩, fun g hg => ?_⟩
    · rw [upd_same]
      exact ⟨by simp; omega, .inr ⟨w.heap.size, cap, vs, rfl, Nat.zero_le _, heap_alloc_new w _, hn, hcap, hs, rfl⟩⟩
    · obtain ⟨u, h1, h2, h3⟩ := hc i hi j hj
      refine ⟨u, ?_, h2, h3⟩
      have : (i + 1) * s ≤ n * s := Nat.mul_le_mul_right s hi
      rw [Nat.add_mul, Nat.one_mul] at this
      rw [List.getElem?_take, if_pos (by omega)]
      simpa using h1
    · rw [upd_same] at hg
      cases hg
      exact ⟨Nat.le_refl _, fun p u hpu => hp.off hpu⟩

section
variable {X : Cx} {st : St} {o : Oper}

def zerosA (ez : Value) (n : Nat) : List AV := (List.range n).map fun i => (cellsV ez).getD (i % ez.cells.size) .junk
theorem zerosA_den (ρ : Env) (M : Mem) (ez : Value) (n : Nat) : DenL ρ M (zerosA ez n) ((Array.range n).map (ez.cells[· % ez.cells.size]!)) := by
  refine ⟨by simp [zerosA], fun i c u h1 h2 => ?_⟩
  unfold zerosA at h1
  obtain ⟨hi, rfl⟩ := range_map_at h1
  rw [Array.getElem?_map] at h2
  simp [hi] at h2
  obtain ⟨e1, e2⟩ := cellsV_den ρ M ez
  rcases Nat.lt_or_ge (i % ez.cells.size) ez.cells.size with hlt | hge
  · have : (cellsV ez)[i % ez.cells.size]? = some ((cellsV ez).getD (i % ez.cells.size) .junk) := by
      rw [List.getD_eq_getElem?_getD, List.getElem?_eq_getElem (by omega)]; rfl
    refine e2 _ _ _ this ?_
    rw [Array.getElem?_eq_getElem hlt, ← h2]
    congr 1
    rw [getElem!_pos ez.cells _ hlt]
  · have : (cellsV ez).getD (i % ez.cells.size) .junk = .junk := by
      rw [List.getD_eq_getElem?_getD, List.getElem?_eq_none (by omega)]; rfl
    rw [this]; exact .junk _

/-- A list that is used as a table: numbers, strings. -/
def intsD : List D → Option (List Int)
  | [] => some []
  | .val (.int .i64 z) :: l => match intsD l with
    | some r => some (z :: r)
    | none => none
  | _ :: _ => none
def strsD : List D → Option (List ByteArray)
  | [] => some []
  | .val (.string z) :: l => match strsD l with
    | some r => some (z :: r)
    | none => none
  | _ :: _ => none
theorem intsD_at : ∀ {ds : List D} {zs : List Int}, intsD ds = some zs → ds = zs.map fun z => .val (.int .i64 z)
  | [], zs, h => by cases h; rfl
  | d :: l, zs, h => by
    unfold intsD at h
    split at h
    · rename_i heq; cases heq
    · rename_i z l' heq
      cases heq
      split at h
      · rename_i r hr; cases h; rw [intsD_at hr]; rfl
      · cases h
    · cases h
theorem strsD_at : ∀ {ds : List D} {zs : List ByteArray}, strsD ds = some zs → ds = zs.map fun z => .val (.string z)
  | [], zs, h => by cases h; rfl
  | d :: l, zs, h => by
    unfold strsD at h
    split at h
    · rename_i heq; cases heq
    · rename_i z l' heq
      cases heq
      split at h
      · rename_i r hr; cases h; rw [strsD_at hr]; rfl
      · cases h
    · cases h
def pickF (tab : Bool) (ds : List D) (k : Nat) : D := match tab with
  | false => ds.getD k (.val undef)
  | true => match intsD ds with
    | some zs => .val (.int .i64 (zs.getD k 0))
    | none => match strsD ds with
      | some ss => .val (.string (ss.getD k ByteArray.empty))
      | none => ds.getD k (.val undef)
theorem pickF_eq {tab : Bool} {ds : List D} {k : Nat} (h : k < ds.length) : pickF tab ds k = ds.getD k (.val undef) := by
  unfold pickF
  split
  · rfl
  · split
    · rename_i zs hz
      have := intsD_at hz
      subst this
      simp at h
      simp [h]
    · split
      · rename_i ss hs
        have := strsD_at hs
        subst this
        simp at h
        simp [h]
      · rfl
def tabB (len es : Nat) : Bool := match Nat.beq es 1 with
  | true => Nat.ble 3 len
  | false => false
def evBuildSlice (X : Cx) (st : St) (d : Option Nat) (t : TypeId) (len : Nat) (ps : List (Nat × Operand)) : Res := match d with
  | none => .no
  | some k => match lk t X.T with
    | some ⟨.slice E es eb ez, _, _⟩ => match Nat.beq len 0 with
      | true => match ps with
        | [] => .new (.own k es 0 0) (.row E es 0 fun _ _ => .val undef)
        | _ :: _ => .no
      | false => match fillA (fun i => some (i * es, es)) (zerosA ez (len * es)) (partsA X st ps) with
        | some cs => match mapD cs with
          | some ds => match Nat.ble (len * es) 16777216 with
            | true => match Nat.ble 1 es with
              | true => .new (.own k es 0 len) (.row E es len fun i j => pickF (tabB len es) ds (i * es + j))
              | false => .no
            | false => .no
          | none => .no
        | none => .no
    | _ => .no
theorem fillA_len {pl : Nat → Option (Nat × Nat)} : ∀ (parts : List (Nat × AV)) (c c' : List AV), fillA pl c parts = some c' → c'.length = c.length
  | [], c, c', hc => by cases hc; rfl
  | (i, x) :: parts, c, c', hc => by
    simp only [fillA] at hc
    split at hc
    · cases hc
    split at hc
    · cases hc
    split at hc
    · cases hc
    split at hc
    · cases hc
    rename_i hble
    have := Nat.le_of_ble_eq_true hble
    rw [fillA_len parts _ _ hc]
    simp; omega
theorem s_buildSlice (hX : X.ok) {t : TypeId} {len : Nat} {ps : Array (Nat × Operand)} (ho : o.op = .buildSlice t len ps) : (evBuildSlice X st o.dst t len ps.toList).sound X st o := by
  unfold evBuildSlice
  split
  · trivial
  rename_i k hd
  split
  · rename_i E es eb ez sz z hti
    obtain ⟨_, _, hu, ie, hie, hsz, hby, hz⟩ := hX t _ hti
    split
    · rename_i hl0
      obtain rfl := Nat.eq_of_beq_eq_true hl0
      split
      · rename_i hps
        intro R ρ M a w h K Q hk
        have hps' : ps = #[] := by apply Array.ext'; simpa using hps
        subst hps'
        refine wp_val (v := .slice (some ⟨w.heap.size, 0, none⟩) 0 0) (w' := w.alloc (.cells #[] E)) ?_ (hk _ _ _ _ (by
          rw [hd]
          exact extq_row h.pub (Nat.le_refl _) (Nat.zero_le _) (by simp) fun i hi => absurd hi (by omega)))
        unfold execOp
        simp [ho, Instr.buildSlice, run_underlying hu, sizeOf, typeInfo, hie, Instr.fill, newRow, Array.range_zero']
      · trivial
    · rename_i hl0
      have hlen : 1 ≤ len := by
        rcases Nat.eq_zero_or_pos len with h0 | h0
        · subst h0; cases hl0
        · exact h0
      split
      · rename_i cs hcs
        split
        · rename_i ds hds
          split
          · rename_i hle
            have hle := Nat.le_of_ble_eq_true hle
            split
            · rename_i hpos
              have hpos1 := Nat.le_of_ble_eq_true hpos
              have hpos : 1 ≤ len * es := Nat.mul_pos (by omega) hpos1
              intro R ρ M a w h K Q hk
              obtain ⟨hp1, hp2⟩ := partsA_den h ps
              obtain ⟨vs', hfill, hden⟩ := fill_den (ρ := ρ) (M := M) (place := fun i => some (i * ie.size, ie.size)) (by intro i q hq; rw [hsz]; exact hq) _ _ _ _ _ (zerosA_den ρ M ez (len * es)) hp1 hp2 hcs
              obtain ⟨hd1, hd2⟩ := mapD_at hds
              have hl : vs'.size = len * es := by
                rw [← hden.1, fillA_len _ _ _ hcs]
                simp [zerosA]
              have hrun := run_buildSlice w t E len (ps.map fun q => (q.1, a.eval q.2)) vs' ie ez hu hie hz (by rw [hsz]; omega) (by rw [hsz]; omega) (by rw [hsz]; rw [hsz] at hfill; exact hfill)
              have hcells : ∀ i, i < len → ∀ j, j < es → ∃ u, vs'[i * es + j]? = some u ∧ DenD M (pickF (tabB len es) ds (i * es + j)) u ∧ u.oneCell' = true := by
                intro i hi j hj
                have hij : i * es + j < len * es := by
                  have : (i + 1) * es ≤ len * es := Nat.mul_le_mul_right es hi
                  rw [Nat.add_mul, Nat.one_mul] at this
                  omega
                have hcl : i * es + j < cs.length := by rw [hden.1]; omega
                obtain ⟨d, e1, e2⟩ := hd2 _ _ (List.getElem?_eq_getElem hcl)
                have hv : vs'[i * es + j]? = some (vs'[i * es + j]'(by omega)) := Array.getElem?_eq_getElem (by omega)
                obtain ⟨e3, e4⟩ := AV.toD_den e2 (hden.2 _ _ _ (List.getElem?_eq_getElem hcl) hv)
                refine ⟨_, hv, ?_, e4⟩
                rw [pickF_eq (by omega), List.getD_eq_getElem?_getD, e1]
                exact e3
              have hlm : len ≤ maxLen := by
                have : len * 1 ≤ len * es := Nat.mul_le_mul_left _ hpos1
                unfold maxLen; omega
              refine wp_val (v := .slice (some ⟨w.heap.size, 0, none⟩) len len) (w' := w.alloc (.cells vs' E)) ?_ (hk _ _ _ _ (by
                rw [hd]
                exact extq_row h.pub (Nat.le_refl _) hlm hl hcells))
              unfold execOp
              simp only [ho, Sem.run_bind, hrun, Result.andThen_ok]
              rfl
            · trivial
          · trivial
        · trivial
      · trivial
  · trivial

/-! Rows that are public at once (the slots that the walk names). -/
def hasN (d : Option Nat) : List Nat → Bool
  | [] => false
  | k :: l => match d with
    | none => false
    | some t => match Nat.beq t k with
      | true => true
      | false => hasN d l
def pubR (d : Option Nat) (r : Res) : Res := match r with
  | .new (.own k s 0 n') (.row _ s' n f) => match d with
    | none => .no
    | some t => match Nat.beq t k with
      | false => .no
      | true => match Nat.beq s s' with
        | false => .no
        | true => match Nat.beq n' n with
          | false => .no
          | true => .ok (.dat (.lst s n f))
  | _ => .no
theorem pubR_sound {r : Res} (hr : r.sound X st o) : (pubR o.dst r).sound X st o := by
  unfold pubR
  split
  · rename_i k s n' E s' n f
    split
    · trivial
    rename_i t hd
    split
    · trivial
    rename_i ht
    obtain rfl := Nat.eq_of_beq_eq_true ht
    split
    · trivial
    rename_i hs
    obtain rfl := Nat.eq_of_beq_eq_true hs
    split
    · trivial
    rename_i hn
    obtain rfl := Nat.eq_of_beq_eq_true hn
    have hA : Astep X st o (.own t s 0 n') (some (.row E s n' f)) := hr
    intro R ρ M a w h K Q hk
    refine hA R ρ M a w h K Q fun v ρ' M' w' hx => ?_
    obtain ⟨t', ht', hent, hblk⟩ := hx.new _ rfl
    rw [hd] at ht'
    cases ht'
    have hv := own_of hx.den
    rw [partOf_zero, Nat.sub_zero] at hv
    obtain ⟨M2, hM2⟩ : ∃ M2 : Mem, M2 = fun p => match M' p with
      | some v => some v
      | none => if (ρ' t).1 = some p.block then (match w'.cell? p with
        | some v => match v.oneCell' with
          | true => some v
          | false => none
        | none => none) else none := ⟨_, rfl⟩
    have hle : Mem.le M' M2 := fun p v hp => by rw [hM2]; simp only [hp]
    have hnew : ∀ p v, M2 p = some v → M' p = some v ∨ ((ρ' t).1 = some p.block ∧ w'.cell? p = some v ∧ v.oneCell' = true) := fun p v hp => by
      rw [hM2] at hp
      cases hm : M' p with
      | some u => simp only [hm] at hp; cases hp; exact .inl rfl
      | none =>
        simp only [hm] at hp
        split at hp
        · rename_i hb
          refine .inr ⟨hb, ?_⟩
          cases hc : w'.cell? p with
          | none => rw [hc] at hp; cases hp
          | some u =>
            rw [hc] at hp
            simp only at hp
            cases ho : u.oneCell' with
            | false => rw [ho] at hp; cases hp
            | true => rw [ho] at hp; cases hp; exact ⟨rfl, ho⟩
        · cases hp
    have hof : ∀ p v, (ρ' t).1 = some p.block → w'.cell? p = some v → v.oneCell' = true → M2 p = some v := fun p v hb hc ho => by
      rw [hM2]
      cases hm : M' p with
      | some u =>
        have := (hx.pub p u hm).1
        rw [hc] at this; cases this
        simp only [hm]
      | none => simp only [hm, if_pos hb, hc, ho]
    refine hk v ρ M2 w' ⟨fun _ _ => rfl, Mem.le_trans hx.mem hle, fun p u hp => ?_, fun p u hp => ?_, hx.bel, .dat ?_, fun e he => (by cases he), hx.drn⟩
    · rcases hnew p u hp with h1 | ⟨h1, _, _⟩
      · exact hx.fresh p u h1
      · exact .inr (hblk _ h1).1
    · rcases hnew p u hp with h1 | ⟨_, h2, h3⟩
      · exact hx.pub p u h1
      · exact ⟨h2, h3⟩
    · have hcell := fun g hg i hi j hj => row_cell hent (g := g) hg (k := i) hi (j := j) hj
      obtain ⟨xs, ⟨hxl, how⟩, hf⟩ := hent
      have hcap : n' ≤ (ρ' t).2 ∧ (ρ' t).2 ≤ maxLen ∧ ((ρ' t).1 = none → (ρ' t).2 = 0 ∧ n' = 0) := by
        rcases how with ⟨e1, e2⟩ | ⟨g', cap, cur, e1, _, hh, hnc, hcm, _, _⟩
        · subst e2
          injection e1 with e3 e4 e5
          exact ⟨Nat.zero_le _, by rw [e5]; exact Nat.zero_le _, fun _ => ⟨e5, rfl⟩⟩
        · injection e1 with e3 e4 e5
          exact ⟨by omega, by omega, fun hn => by rw [hn] at e3; cases e3⟩
      obtain ⟨hc1, hc2, hc3⟩ := hcap
      have hch : ∃ u : Nat → Nat → Value, ∀ i, i < n' → ∀ j, j < s → ∀ gg, (ρ' t).1 = some gg → w'.cell? ⟨gg, i * s + j, none⟩ = some (u i j) ∧ DenD M' (f i j) (u i j) ∧ (u i j).oneCell' = true := by
        cases hg : (ρ' t).1 with
        | none => exact ⟨fun _ _ => undef, fun i hi => by have := hc3 hg; omega⟩
        | some gg =>
          refine ⟨fun i j => if hh : i < n' ∧ j < s then (hcell gg hg i hh.1 j hh.2).choose else undef, fun i hi j hj g' hg' => ?_⟩
          cases hg'
          have hh : i < n' ∧ j < s := ⟨hi, hj⟩
          simp only [dif_pos hh]
          exact (hcell gg hg i hh.1 j hh.2).choose_spec
      obtain ⟨u, hu⟩ := hch
      rw [hv]
      refine .lst s n' f _ _ u hc1 hc2 (fun e => ?_) (fun ad e i hi j hj => ?_) (fun i hi j hj => ?_)
      · cases hg : (ρ' t).1 with
        | none => exact (hc3 hg).1
        | some gg => rw [hg] at e; cases e
      · cases hg : (ρ' t).1 with
        | none => have := hc3 hg; omega
        | some gg =>
          rw [hg] at e
          cases e
          obtain ⟨k1, k2, k3⟩ := hu i hi j hj gg hg
          rw [add_off, Nat.zero_add]
          exact hof _ _ hg k1 k3
      · cases hg : (ρ' t).1 with
        | none => have := hc3 hg; omega
        | some gg => exact (hu i hi j hj gg hg).2.1.mono hle
  · trivial
def evBS (X : Cx) (st : St) (d : Option Nat) (t : TypeId) (len : Nat) (ps : List (Nat × Operand)) : Res := match hasN d X.pb with
  | true => pubR d (evBuildSlice X st d t len ps)
  | false => evBuildSlice X st d t len ps
theorem s_bs (hX : X.ok) {t : TypeId} {len : Nat} {ps : Array (Nat × Operand)} (ho : o.op = .buildSlice t len ps) : (evBS X st o.dst t len ps.toList).sound X st o := by
  unfold evBS
  split
  · exact pubR_sound (s_buildSlice hX ho)
  · exact s_buildSlice hX ho

def evMake (X : Cx) (st : St) (d : Option Nat) (t : TypeId) (l c : Operand) : Res := match d with
  | none => .no
  | some k => match lk t X.T with
    | some ⟨.slice E es eb ez, _, _⟩ => match intAV st X l with
      | none => .no
      | some (_, zl) => match intAV st X c with
        | none => .no
        | some (_, zc) => match Nat.beq ez.cells.size es with
          | false => .no
          | true => match ez.cells.toList.all oneV with
            | false => .no
            | true => .cnew (0 ≤ zl ∧ zl ≤ zc ∧ (eb : Int) * zc ≤ 140737488355328 ∧ zc ≤ 4611686018427387904) (.own k es 0 zl.toNat) (.row E es zl.toNat fun i j => .val (ez.cells.toList.getD j undef))
    | _ => .no
theorem s_make (hX : X.ok) {t : TypeId} {l c : Operand} (ho : o.op = .makeSlice t l c) : (evMake X st o.dst t l c).sound X st o := by
  unfold evMake
  split
  · trivial
  rename_i k hd
  split
  · rename_i E es eb ez sz z hti
    obtain ⟨_, _, hu, ie, hie, hsz, hby, hz⟩ := hX t _ hti
    split
    · trivial
    rename_i kl zl hl
    split
    · trivial
    rename_i kc zc hc
    split
    · trivial
    rename_i hes
    have hes := Nat.eq_of_beq_eq_true hes
    split
    · trivial
    rename_i hall
    intro hz0 R ρ M a w h K Q hk
    obtain ⟨z1, z2, z3, z4⟩ := hz0
    have h1 := intAV_den h hl
    have h2 := intAV_den h hc
    have hrun := run_make (P := X.P) w t E ie ez hu hie hz kl kc zl zc z1 z2 (by rw [hby]; omega) (by omega)
    have hcells : ∀ i, i < zl.toNat → ∀ j, j < es → ∃ u, (madeCells ez.cells (zc.toNat * ie.size))[i * es + j]? = some u ∧ DenD M (.val (ez.cells.toList.getD j undef)) u ∧ u.oneCell' = true := by
      intro i hi j hj
      have hij : i * es + j < zc.toNat * es := by
        have : (i + 1) * es ≤ zc.toNat * es := Nat.mul_le_mul_right es (by omega)
        rw [Nat.add_mul, Nat.one_mul] at this
        omega
      have hmod : (i * es + j) % es = j := by
        rw [Nat.mul_comm, Nat.mul_add_mod]
        exact Nat.mod_eq_of_lt hj
      have hjl : j < ez.cells.size := by omega
      refine ⟨ez.cells[j], ?_, ?_, ?_⟩
      · unfold madeCells
        rw [Array.getElem?_map, hsz]
        simp [hij, hes, hmod]
        rw [getElem!_pos ez.cells j hjl]
      · have : ez.cells.toList.getD j undef = ez.cells[j] := by simp [hjl]
        rw [this]; exact .val _
      · have := List.all_eq_true.1 hall ez.cells[j] (by simp)
        exact oneV_one this
    refine wp_val (v := .slice (some ⟨w.heap.size, 0, none⟩) zl.toNat zc.toNat) (w' := w.alloc (.cells (madeCells ez.cells (zc.toNat * ie.size)) E)) ?_ (hk _ _ _ _ (by
      rw [hd]
      exact extq_row h.pub (by omega) (by unfold maxLen; omega) (by rw [size_madeCells, hsz]) hcells))
    unfold execOp
    simp only [ho, h1, h2, Sem.run_bind, hrun, Result.andThen_ok]
    rfl
  · trivial

end
end Go.Proofs.YtekdobbhkklapaaGreat
