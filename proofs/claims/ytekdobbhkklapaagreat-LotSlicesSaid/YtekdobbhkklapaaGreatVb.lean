/- One operation that turns nothing of what was there: what it needs of a description, and what it gives. -/
import Derived.Test.YtekdobbhkklapaaGreatVa
namespace Go.Proofs.YtekdobbhkklapaaGreat
open Go Go.RowKit
set_option linter.unusedVariables false
set_option linter.unusedSimpArgs false

theorem cell_lt {w : World} {p : Addr} {v : Value} (h : w.cell? p = some v) : p.block < w.heap.size := World.block_lt_of_cell? w p h
theorem below_cell {B : Nat} {w w' : World} (h : Below B w w') {p : Addr} (hp : p.block < B) : w'.cell? p = w.cell? p := h.cell hp

/-- Operands. -/
def St.ev (X : Cx) (st : St) : Operand → AV
  | .tmp t => st.get t
  | .const v => match v with
    | .bool true => .tt
    | .bool false => .ff
    | v => .dat (.val v)
  | .global g => match lk g X.G with
    | some (n, c) => .ro n c
    | none => .junk
  | .func f => .dat (.val (.func (.func f) #[] #[]))

theorem Sim.ev {X : Cx} {R : Run} {ρ : Env} {M : Mem} {st : St} {a : Act} {w : World} (h : Sim X R ρ M st a w) (x : Operand) : DenA ρ M (st.ev X x) (a.eval x) := by
  cases x with
  | tmp t => exact h.slots t
  | const v =>
    show DenA ρ M (match v with | .bool true => .tt | .bool false => .ff | v => .dat (.val v)) v
    split
    · exact .tt
    · exact .ff
    · exact .dat (.val _)
  | global g =>
    show DenA ρ M (match lk g X.G with | some (n, c) => .ro n c | none => .junk) _
    cases hg : lk g X.G with
    | none => exact .junk _
    | some q =>
      obtain ⟨n, c⟩ := q
      obtain ⟨u, h1, h2⟩ := h.g0 g n c hg
      exact .ro n c _ u (fun j hj => h.m0 _ _ (h1 j hj)) (fun j hj => (h2 j hj).mono h.m0)
  | func f => exact .dat (.val _)

/-- What a quiet operation may do. -/
structure ExtQ (dr : Bool) (ρ : Env) (M : Mem) (w : World) (ρ' : Env) (M' : Mem) (w' : World) (d : Option Nat) (c : AV) (ne : Option Ent) (v : Value) : Prop where
  env : ∀ r, (∀ e, ne = some e → d ≠ some r) → ρ' r = ρ r
  mem : Mem.le M M'
  fresh : ∀ p u, M' p = some u → M p = some u ∨ w.heap.size ≤ p.block
  pub : PubOk M' w'
  bel : Below w.heap.size w w'
  den : DenA ρ' M' c v
  new : ∀ e, ne = some e → ∃ t, d = some t ∧ EntOk ρ' M' w' t e ∧ ∀ g, (ρ' t).1 = some g → w.heap.size ≤ g ∧ ∀ p u, M' p = some u → p.block ≠ g
  drn : dr = true → w.drawn ≤ w'.drawn

def QStep (X : Cx) (o : Oper) (a : Act) (w : World) (ρ : Env) (M : Mem) (c : AV) (ne : Option Ent) : Prop :=
  ∀ (K : Act → World → Prop) (Q : Exit → Act → World → Prop), (∀ v ρ' M' w', ExtQ X.dr ρ M w ρ' M' w' o.dst c ne v → K (a.put o.dst v) w') → o.wp X.P a w K Q

def Astep (X : Cx) (st : St) (o : Oper) (c : AV) (ne : Option Ent) : Prop :=
  ∀ R ρ M a w, Sim X R ρ M st a w → QStep X o a w ρ M c ne

theorem wp_val {P : Program} {o : Oper} {a : Act} {w w' : World} {K : Act → World → Prop} {Q : Exit → Act → World → Prop} {v : Value} (h : (execOp a.eval o).run P w = .ok (.value v) w') (hk : K (a.put o.dst v) w') : o.wp P a w K Q := by
  unfold Oper.wp
  rw [h]
  exact hk

theorem ExtQ.same {dr : Bool} {ρ : Env} {M : Mem} {w : World} {d : Option Nat} {c : AV} {v : Value} (hp : PubOk M w) (h : DenA ρ M c v) : ExtQ dr ρ M w ρ M w d c none v :=
  ⟨fun _ _ => rfl, Mem.le_refl _, fun _ _ h => .inl h, hp, Below.refl _ _, h, fun e he => (by cases he), fun _ => Nat.le_refl _⟩

/-- A value out of what is there. -/
theorem qval {X : Cx} {o : Oper} {a : Act} {w : World} {ρ : Env} {M : Mem} {c : AV} {v : Value} (hp : PubOk M w) (hr : (execOp a.eval o).run X.P w = .ok (.value v) w) (h : DenA ρ M c v) : QStep X o a w ρ M c none :=
  fun K Q hk => wp_val hr (hk v ρ M w (.same hp h))

/-- What comes out of an operation: nothing; a value; a value and a new block; a number that may wrap. -/
inductive Res where
  | no
  | ok (c : AV)
  | new (c : AV) (e : Ent)
  | num (k : IntKind) (e : Int)
  | cnd (p : Prop) (c : AV)
  | cnum (p : Prop) (k : IntKind) (e : Int)
  | cnew (p : Prop) (c : AV) (e : Ent)

/-- What is owed on the way: a number that may wrap; a condition; a test. -/
structure NumK (k : IntKind) (e : Int) (K : Int → Prop) : Prop where
  ex : ∃ z, z = k.wrap e ∧ K z
structure CndK (p : Prop) (K : Prop) : Prop where
  cnd : p
  nxt : K
structure BrK (e : Bool) (A B : Prop) : Prop where
  yes : e = true → A
  no : e = false → B
theorem NumK.as {k : IntKind} {e : Int} {K : Int → Prop} (z : Int) (h : z = k.wrap e) (hk : K z) : NumK k e K := ⟨z, h, hk⟩
def Res.to (r : Res) (K : AV → Option Ent → Prop) : Prop := match r with
  | .no => False
  | .ok c => K c none
  | .new c e => K c (some e)
  | .num k e => NumK k e fun z => K (.dat (.val (.int k z))) none
  | .cnd p c => CndK p (K c none)
  | .cnum p k e => CndK p (NumK k e fun z => K (.dat (.val (.int k z))) none)
  | .cnew p c e => CndK p (K c (some e))

/-- What of it is sound. -/
def Res.sound (X : Cx) (st : St) (o : Oper) (r : Res) : Prop := match r with
  | .no => True
  | .ok c => Astep X st o c none
  | .new c e => Astep X st o c (some e)
  | .num k e => Astep X st o (.dat (.val (.int k (k.wrap e)))) none
  | .cnd p c => p → Astep X st o c none
  | .cnum p k e => p → Astep X st o (.dat (.val (.int k (k.wrap e)))) none
  | .cnew p c e => p → Astep X st o c (some e)

theorem Res.to_sound {X : Cx} {st : St} {o : Oper} {r : Res} (h : r.sound X st o) {K : AV → Option Ent → Prop} (ht : r.to K) : ∃ c ne, K c ne ∧ Astep X st o c ne := by
  cases r with
  | no => exact ht.elim
  | ok c => exact ⟨_, _, ht, h⟩
  | new c e => exact ⟨_, _, ht, h⟩
  | num k e =>
    obtain ⟨z, rfl, hk⟩ := ht.ex
    exact ⟨_, _, hk, h⟩
  | cnd p c => exact ⟨_, _, ht.nxt, h ht.cnd⟩
  | cnum p k e =>
    obtain ⟨z, rfl, hk⟩ := ht.nxt.ex
    exact ⟨_, _, hk, h ht.cnd⟩
  | cnew p c e => exact ⟨_, _, ht.nxt, h ht.cnd⟩

/-! Types. -/
def aggOf (d : TypeDesc) : Bool := match d with
  | .struct _ | .array _ _ => true
  | _ => false
def TK.agg : TK → Bool
  | .struct _ => true
  | .arr .. => true
  | _ => false

/-- The program knows this type so. -/
def TIok (P : Program) (t : TypeId) (ti : TI) : Prop :=
  (∃ d, P.underlying t = some d ∧ aggOf d = ti.k.agg ∧ (∀ ms, d ≠ .interface ms)) ∧ (∃ i, P.info? t = some i ∧ i.size = ti.size ∧ i.zero = some ti.zero) ∧ match ti.k with
  | .cell => True
  | .struct fs => ∃ fields, P.underlying t = some (.struct fields) ∧ fields.size = fs.length ∧ ∀ (i : Nat) (off sz : Nat), fs[i]? = some (off, sz) → ∃ f, fields[i]? = some f ∧ f.offset = off ∧ ∃ fi, P.info? f.type = some fi ∧ fi.size = sz ∧ sz ≠ 0
  | .slice E es eb ez => P.underlying t = some (.slice E) ∧ ∃ i, P.info? E = some i ∧ i.size = es ∧ i.bytes = eb ∧ i.zero = some ez
  | .arr n E es => P.underlying t = some (.array n E) ∧ ∃ i, P.info? E = some i ∧ i.size = es
  | .str => P.underlying t = some .string
  | .int k => P.underlying t = some (.int k)
  | .bool => P.underlying t = some .bool

def Cx.ok (X : Cx) : Prop := ∀ t ti, lk t X.T = some ti → TIok X.P t ti

theorem run_isAgg {P : Program} {t : TypeId} {d : TypeDesc} (h : P.underlying t = some d) (w : World) : (isAgg t).run P w = .ok (aggOf d) w := by
  unfold isAgg
  rw [Sem.run_bind, run_underlying h w]
  cases d <;> rfl
theorem run_sizeOf {P : Program} {t : TypeId} {i : TypeInfo} (h : P.info? t = some i) (w : World) : (sizeOf t).run P w = .ok i.size w := by
  simp [sizeOf, typeInfo, h]

/-- A whole variable of n cells is loaded. -/
theorem run_loadVar_cells {P : Program} {t : TypeId} {ti : TI} (ht : TIok P t ti) (hk : ti.k.agg = true) (w : World) (ad : Addr) (cs : List Value) (hn : cs.length = ti.size)
    (hc : ∀ (j : Nat) (v : Value), cs[j]? = some v → w.cell? (ad.add j) = some v) : (loadVar t ad).run P w = .ok (.agg cs.toArray) w := by
  obtain ⟨⟨d, hd, hag, _⟩, ⟨i, hi, hs, _⟩, _⟩ := ht
  unfold loadVar
  rw [Sem.run_bind, run_isAgg hd w]
  simp only [Result.andThen_ok, hag, hk, if_true, Sem.run_bind, run_sizeOf hi w, hs, ← hn, run_loadCells_list (P := P) w ad cs hc, Sem.run_pure]
theorem run_loadVar_cell {P : Program} {t : TypeId} {ti : TI} (ht : TIok P t ti) (hk : ti.k.agg = false) (w : World) (ad : Addr) (v : Value) (hc : w.cell? ad = some v) : (loadVar t ad).run P w = .ok v w := by
  obtain ⟨⟨d, hd, hag, _⟩, ⟨i, hi, hs, _⟩, _⟩ := ht
  unfold loadVar
  rw [Sem.run_bind, run_isAgg hd w]
  simp [hag, hk, hc]

theorem add_off (g o j : Nat) : (⟨g, o, none⟩ : Addr).add j = ⟨g, o + j, none⟩ := by
  unfold Addr.add
  split
  · rename_i h; subst h; rfl
  · rfl
theorem add_add (a : Addr) (i j : Nat) : (a.add i).add j = a.add (i + j) := by
  unfold Addr.add
  by_cases hi : i = 0 <;> by_cases hj : j = 0 <;> simp [hi, hj, Nat.add_assoc]
theorem add_block (a : Addr) (n : Nat) : (a.add n).block = a.block := by unfold Addr.add; split <;> rfl
theorem add_zero (a : Addr) : a.add 0 = a := rfl

section
variable {X : Cx} {st : St} {o : Oper}

theorem s_move {x : Operand} (ho : o.op = .move x ∨ o.op = .assign x) : Astep X st o (st.ev X x) none := by
  intro R ρ M a w h
  refine qval h.pub (v := a.eval x) ?_ (h.ev x)
  unfold execOp
  rcases ho with ho | ho <;> simp [ho]

def evPick (X : Cx) (st : St) (c x y : Operand) : Res := match st.ev X c with
  | .tt => .ok (st.ev X x)
  | .ff => .ok (st.ev X y)
  | _ => .no
theorem s_pick {c x y : Operand} (ho : o.op = .pick c x y) : (evPick X st c x y).sound X st o := by
  unfold evPick
  split
  · rename_i hc
    intro R ρ M a w h
    have h1 := h.ev c
    rw [hc] at h1
    generalize hv : a.eval c = v at h1
    cases h1
    refine qval h.pub (v := a.eval x) ?_ (h.ev x)
    unfold execOp
    simp [ho, hv, asBool]
  · rename_i hc
    intro R ρ M a w h
    have h1 := h.ev c
    rw [hc] at h1
    generalize hv : a.eval c = v at h1
    cases h1
    refine qval h.pub (v := a.eval y) ?_ (h.ev y)
    unfold execOp
    simp [ho, hv, asBool]
  · trivial

/-! New blocks. -/
def upd (ρ : Env) (t : Nat) (q : Option Nat × Nat) : Env := fun r => if r = t then q else ρ r
theorem upd_same (ρ : Env) (t : Nat) (q : Option Nat × Nat) : upd ρ t q t = q := if_pos rfl
theorem upd_ne (ρ : Env) {t r : Nat} (h : r ≠ t) (q : Option Nat × Nat) : upd ρ t q r = ρ r := if_neg h

theorem PubOk.alloc {M : Mem} {w : World} (h : PubOk M w) (ob : Obj) : PubOk M (w.alloc ob) := fun p v hp => by
  obtain ⟨h1, h2⟩ := h p v hp
  exact ⟨(World.cell?_alloc_lt w ob p (cell_lt h1)).trans h1, h2⟩
theorem PubOk.off {M : Mem} {w : World} (h : PubOk M w) {p : Addr} {v : Value} (hp : M p = some v) : p.block ≠ w.heap.size := by
  have := cell_lt (h p v hp).1
  omega

/-- Cells that a value fills when it is boxed. -/
def oneV : Value → Bool
  | .agg _ | .tuple _ => false
  | _ => true
theorem oneV_cells {v : Value} (h : oneV v = true) : v.cells = #[v] := by cases v <;> first | rfl | cases h
theorem oneV_one {v : Value} (h : oneV v = true) : v.oneCell' = true := by cases v <;> first | rfl | cases h
def AV.cells : AV → Option (List AV)
  | .agg cs => some cs
  | .tt => some [.tt]
  | .ff => some [.ff]
  | .dat (.val v) => match oneV v with
    | true => some [.dat (.val v)]
    | false => none
  | .dat (.lst s n f) => some [.dat (.lst s n f)]
  | .ptr r off => some [.ptr r off]
  | .ro n c => some [.ro n c]
  | .own r s l n => some [.own r s l n]
  | .rptr r s k j => some [.rptr r s k j]
  | _ => none
theorem AV.cells_den {ρ : Env} {M : Mem} {c : AV} {v : Value} {cs : List AV} (h : DenA ρ M c v) (hc : c.cells = some cs) : cs.length = v.cells.size ∧ ∀ (i : Nat) (c : AV) (u : Value), cs[i]? = some c → v.cells[i]? = some u → DenA ρ M c u := by
  have one : ∀ {c : AV} {v : Value}, DenA ρ M c v → v.cells = #[v] → ([c].length = v.cells.size ∧ ∀ (i : Nat) (c' : AV) (u : Value), [c][i]? = some c' → v.cells[i]? = some u → DenA ρ M c' u) := by
    intro c v h hv
    rw [hv]
    refine ⟨rfl, fun i c' u h1 h2 => ?_⟩
    cases i with
    | zero => simp at h1 h2; subst h1 h2; exact h
    | succ i => simp at h1
  cases c with
  | agg l =>
    cases hc
    cases h with
    | agg _ vs hl hh => exact ⟨by simpa [Value.cells] using hl, fun i c u h1 h2 => hh i c u h1 (by simpa [Value.cells] using h2)⟩
  | tt => cases hc; cases h; exact one .tt rfl
  | ff => cases hc; cases h; exact one .ff rfl
  | dat d =>
    cases d with
    | val x =>
      simp only [AV.cells] at hc
      cases hq : oneV x with
      | false => rw [hq] at hc; cases hc
      | true =>
        rw [hq] at hc
        cases hc
        cases h with
        | dat h => cases h; exact one (.dat (.val _)) (oneV_cells hq)
    | lst s n f =>
      cases hc
      cases h with
      | dat h => cases h with
        | lst _ _ _ A cap u hn hcp hA hm hd => exact one (.dat (.lst s n f A cap u hn hcp hA hm hd)) rfl
  | ptr r off => cases hc; cases h with | ptr _ _ g h => exact one (.ptr r off g h) rfl
  | ro n c => cases hc; cases h with | ro _ _ ad u hm hd => exact one (.ro n c ad u hm hd) rfl
  | own r s l n => cases hc; cases h with | own => exact one (.own r s l n) rfl
  | rptr r s k j => cases hc; cases h with | rptr _ _ _ _ g h => exact one (.rptr r s k j g h) rfl
  | junk => cases hc
  | tup l => cases hc

/-- A new block of cells, and its address. -/
theorem extq_blk {dr : Bool} {ρ : Env} {M : Mem} {w : World} {t : Nat} {E : TypeId} {cs : List AV} {vs : Array Value} (hp : PubOk M w) (hl : cs.length = vs.size) (hc : ∀ (i : Nat) (c : AV) (u : Value), cs[i]? = some c → vs[i]? = some u → DenA ρ M c u) (hu : AV.uses.usesL t cs = false) :
    ExtQ dr ρ M w (upd ρ t (some w.heap.size, 0)) M (w.alloc (.cells vs E)) (some t) (.ptr t 0) (some (.blk E cs)) (.pointer (some ⟨w.heap.size, 0, none⟩)) where
  env r hr := upd_ne ρ (fun e => hr _ rfl (by rw [e])) _
  mem := Mem.le_refl _
  fresh p u h := .inl h
  pub := hp.alloc _
  bel := (Below.refl _ _).alloc (Nat.le_refl _) _
  den := .ptr t 0 _ (by rw [upd_same])
  drn _ := Nat.le_refl _
  new e he := by
    cases he
    refine ⟨t, rfl, ⟨w.heap.size, vs, by rw [upd_same], heap_alloc_new w _, hl, fun i c v h1 h2 => (hc i c v h1 h2).keep (Mem.le_refl _) fun r hr => upd_ne ρ (fun e => ?_) _⟩, fun g hg => ?_⟩
    · subst e
      rw [AV.usesL_false hu i c h1] at hr
      cases hr
    · rw [upd_same] at hg
      cases hg
      exact ⟨Nat.le_refl _, fun p u hpu => hp.off hpu⟩

theorem run_newVar (P : Program) (w : World) (t : TypeId) (v : Value) : (newVar t v).run P w = .ok ⟨w.heap.size, 0, none⟩ (w.alloc (.cells v.cells t)) := rfl

def evBox (X : Cx) (st : St) (d : Option Nat) (E : TypeId) (x : Operand) : Res := match d with
  | none => .no
  | some t => match (st.ev X x).cells with
    | none => .no
    | some cs => match AV.uses.usesL t cs with
      | true => .no
      | false => .new (.ptr t 0) (.blk E cs)
theorem s_box {E : TypeId} {x : Operand} (ho : o.op = .box E x) : (evBox X st o.dst E x).sound X st o := by
  unfold evBox
  split
  · trivial
  rename_i t hd
  split
  · trivial
  rename_i cs hcs
  split
  · trivial
  rename_i hu
  intro R ρ M a w h K Q hk
  obtain ⟨h1, h2⟩ := AV.cells_den (h.ev x) hcs
  refine wp_val (v := .pointer (some ⟨w.heap.size, 0, none⟩)) (w' := w.alloc (.cells (a.eval x).cells E)) ?_ (hk _ _ _ _ (by rw [hd]; exact extq_blk h.pub h1 h2 hu))
  unfold execOp
  simp [ho, Instr.box, run_newVar]

/-- A value that is known. -/
def valAV (v : Value) : AV := match v with
  | .bool true => .tt
  | .bool false => .ff
  | v => .dat (.val v)
theorem valAV_den (ρ : Env) (M : Mem) (v : Value) : DenA ρ M (valAV v) v := by
  unfold valAV
  split
  · exact .tt
  · exact .ff
  · exact .dat (.val _)
theorem valAV_uses (t : Nat) (v : Value) : AV.uses t (valAV v) = false := by
  unfold valAV
  split <;> rfl
def cellsV (v : Value) : List AV := v.cells.toList.map valAV
theorem cellsV_den (ρ : Env) (M : Mem) (v : Value) : (cellsV v).length = v.cells.size ∧ ∀ (i : Nat) (c : AV) (u : Value), (cellsV v)[i]? = some c → v.cells[i]? = some u → DenA ρ M c u := by
  refine ⟨by simp [cellsV], fun i c u h1 h2 => ?_⟩
  unfold cellsV at h1
  rw [List.getElem?_map] at h1
  have h3 : v.cells.toList[i]? = some u := by simpa using h2
  rw [h3] at h1
  cases h1
  exact valAV_den ρ M u
theorem cellsV_uses (t : Nat) (v : Value) : AV.uses.usesL t (cellsV v) = false := by
  unfold cellsV
  generalize v.cells.toList = l
  induction l with
  | nil => rfl
  | cons u l ih => simp only [List.map_cons, AV.uses.usesL, ih, Bool.or_false, valAV_uses]

def evAlloc (X : Cx) (d : Option Nat) (E : TypeId) : Res := match d with
  | none => .no
  | some t => match lk E X.T with
    | none => .no
    | some ti => .new (.ptr t 0) (.blk E (cellsV ti.zero))
theorem s_alloc (hX : X.ok) {E : TypeId} (ho : o.op = .alloc E) : (evAlloc X o.dst E).sound X st o := by
  unfold evAlloc
  split
  · trivial
  rename_i t hd
  split
  · trivial
  rename_i ti hti
  obtain ⟨_, ⟨i, hi, _, hz⟩, _⟩ := hX E ti hti
  intro R ρ M a w h K Q hk
  obtain ⟨h1, h2⟩ := cellsV_den ρ M ti.zero
  refine wp_val (v := .pointer (some ⟨w.heap.size, 0, none⟩)) (w' := w.alloc (.cells ti.zero.cells E)) ?_ (hk _ _ _ _ (by rw [hd]; exact extq_blk h.pub h1 h2 (cellsV_uses t _)))
  unfold execOp
  simp [ho, Instr.alloc, run_newVar, zeroValue, typeInfo, hi, hz]

end
end Go.Proofs.YtekdobbhkklapaaGreat
