/- Values of interfaces; stores and appends. -/
import Derived.Test.YtekdobbhkklapaaGreatVg
namespace Go.Proofs.YtekdobbhkklapaaGreat
open Go Go.RowKit
set_option linter.unusedVariables false
set_option linter.unusedSimpArgs false

/-- The value of a description that names no memory. -/
def AV.toV1 : AV → Option Value
  | .tt => some (.bool true)
  | .ff => some (.bool false)
  | .dat (.val v) => some v
  | _ => none
def mapV : List AV → Option (List Value)
  | [] => some []
  | c :: l => match c.toV1 with
    | none => none
    | some v => match mapV l with
      | none => none
      | some r => some (v :: r)
def AV.toV : AV → Option Value
  | .agg cs => match mapV cs with
    | some vs => some (.agg vs.toArray)
    | none => none
  | c => c.toV1
theorem AV.toV1_den {ρ : Env} {M : Mem} {c : AV} {x v : Value} (hc : c.toV1 = some x) (h : DenA ρ M c v) : v = x := by
  unfold AV.toV1 at hc
  split at hc
  · cases hc; cases h; rfl
  · cases hc; cases h; rfl
  · cases hc; exact val_of h
  · cases hc
theorem mapV_den {ρ : Env} {M : Mem} : ∀ {cs : List AV} {vs us : List Value}, mapV cs = some vs → cs.length = us.length → (∀ (i : Nat) (c : AV) (v : Value), cs[i]? = some c → us[i]? = some v → DenA ρ M c v) → us = vs
  | [], vs, us, h, hl, _ => by cases h; cases us with
    | nil => rfl
    | cons => simp at hl
  | c :: l, vs, us, h, hl, hd => by
    simp only [mapV] at h
    split at h
    · cases h
    rename_i v hv
    split at h
    · cases h
    rename_i r hr
    cases h
    cases us with
    | nil => simp at hl
    | cons u us =>
      have e1 := AV.toV1_den hv (hd 0 c u rfl rfl)
      have e2 := mapV_den (us := us) hr (by simpa using hl) (fun i c' v' h1 h2 => hd (i + 1) c' v' (by simpa using h1) (by simpa using h2))
      rw [e1, e2]
theorem AV.toV_den {ρ : Env} {M : Mem} {c : AV} {x v : Value} (hc : c.toV = some x) (h : DenA ρ M c v) : v = x := by
  unfold AV.toV at hc
  split at hc
  · split at hc
    · rename_i vs hvs
      cases hc
      obtain ⟨us, rfl, hl, hd⟩ := agg_of h
      rw [mapV_den hvs hl hd]
    · cases hc
  · exact AV.toV1_den hc h

/-- A value that is known, whole. -/
def avOf (v : Value) : AV := match v with
  | .agg cs => .agg (cs.toList.map valAV)
  | v => valAV v
theorem avOf_den (ρ : Env) (M : Mem) (v : Value) : DenA ρ M (avOf v) v := by
  unfold avOf
  split
  · rename_i cs
    have := DenA.agg (ρ := ρ) (M := M) (cs.toList.map valAV) cs.toList (by simp) (fun i c v h1 h2 => by
      rw [List.getElem?_map, h2] at h1
      cases h1
      exact valAV_den ρ M v)
    simpa using this
  · exact valAV_den ρ M v

section
variable {X : Cx} {st : St} {o : Oper}

def evIface (X : Cx) (st : St) (t : TypeId) (x : Operand) : Res := match lk t X.T with
  | none => .no
  | some _ => match (st.ev X x).toV with
    | none => .no
    | some v => .ok (.dat (.val (.iface t v)))
theorem s_iface (hX : X.ok) {t : TypeId} {x : Operand} (ho : o.op = .makeInterface t x) : (evIface X st t x).sound X st o := by
  unfold evIface
  split
  · trivial
  rename_i ti hti
  obtain ⟨⟨d, hd, _, hni⟩, _⟩ := hX t ti hti
  split
  · trivial
  rename_i v hv
  intro R ρ M a w h
  have h1 := AV.toV_den hv (h.ev x)
  refine qint h ?_
  unfold execOp
  cases d <;> first
    | exact absurd rfl (hni _)
    | simp [ho, h1, Instr.makeInterface, run_underlying hd]

def evAssert (X : Cx) (st : St) (x : Operand) (a : TypeId) (ok : Bool) : Res := match ok with
  | false => .no
  | true => match lk a X.T with
    | none => .no
    | some ti => match st.ev X x with
      | .dat (.val (.iface t v)) => match Nat.beq t a with
        | true => .ok (.tup [avOf v, .tt])
        | false => .ok (.tup [avOf ti.zero, .ff])
      | .dat (.val .nilIface) => .ok (.tup [avOf ti.zero, .ff])
      | _ => .no
theorem s_assert (hX : X.ok) {x : Operand} {xt a : TypeId} {ok : Bool} (ho : o.op = .typeAssert x xt a ok) : (evAssert X st x a ok).sound X st o := by
  have two : ∀ (ρ : Env) (M : Mem) (v : Value) (c : AV) (b : Bool), DenA ρ M c (.bool b) → DenA ρ M (.tup [avOf v, c]) (.tuple #[v, .bool b]) := by
    intro ρ M v c b hc
    refine .tup [avOf v, c] [v, .bool b] rfl fun i c' u h1 h2 => ?_
    match i with
    | 0 => simp at h1 h2; subst h1 h2; exact avOf_den ρ M v
    | 1 => simp at h1 h2; subst h1 h2; exact hc
    | i + 2 => simp at h1
  unfold evAssert
  split
  · trivial
  split
  · trivial
  rename_i ti hti
  obtain ⟨⟨d, hd, _, hni⟩, ⟨inf, hinf, _, hz⟩, _⟩ := hX a ti hti
  split
  · rename_i t v hx
    split
    · rename_i hb
      obtain rfl := Nat.eq_of_beq_eq_true hb
      intro R ρ M ac w h
      have h1 := val_of (hx ▸ h.ev x)
      refine qval h.pub (v := .tuple #[v, .bool true]) ?_ (two ρ M v .tt true .tt)
      unfold execOp
      cases d <;> first
        | exact absurd rfl (hni _)
        | simp [ho, h1, Instr.typeAssert, run_underlying hd]
    · rename_i hb
      have hne : t ≠ a := fun e => by subst e; rw [Nat.beq_refl] at hb; cases hb
      intro R ρ M ac w h
      have h1 := val_of (hx ▸ h.ev x)
      refine qval h.pub (v := .tuple #[ti.zero, .bool false]) ?_ (two ρ M ti.zero .ff false .ff)
      unfold execOp
      cases d <;> first
        | exact absurd rfl (hni _)
        | simp [ho, h1, Instr.typeAssert, run_underlying hd, hne, zeroValue, typeInfo, hinf, hz]
  · rename_i hx
    intro R ρ M ac w h
    have h1 := val_of (hx ▸ h.ev x)
    refine qval h.pub (v := .tuple #[ti.zero, .bool false]) ?_ (two ρ M ti.zero .ff false .ff)
    unfold execOp
    cases d <;> first
      | exact absurd rfl (hni _)
      | simp [ho, h1, Instr.typeAssert, run_underlying hd, zeroValue, typeInfo, hinf, hz]
  · trivial

/-! What all the quiet operations come to. -/
def evFunc (st : St) (X : Cx) (fn : Fn) (first captured : List Operand) : Res := match mapV (first.map (st.ev X)) with
  | none => .no
  | some fs => match mapV (captured.map (st.ev X)) with
    | none => .no
    | some cs => .ok (.dat (.val (.func fn fs.toArray cs.toArray)))
theorem mapV_ops {R : Run} {ρ : Env} {M : Mem} {a : Act} {w : World} (h : Sim X R ρ M st a w) {xs : Array Operand} {vs : List Value} (hv : mapV (xs.toList.map (st.ev X)) = some vs) : xs.map a.eval = vs.toArray := by
  have := mapV_den (ρ := ρ) (M := M) (us := (xs.map a.eval).toList) hv (by simp) (fun i c v h1 h2 => by
    rw [List.getElem?_map] at h1
    simp only [Array.toList_map, List.getElem?_map] at h2
    cases hq : xs.toList[i]? with
    | none => rw [hq] at h1; cases h1
    | some x => rw [hq] at h1 h2; cases h1; cases h2; exact h.ev x)
  rw [← this]
theorem s_func {fn : Fn} {first captured : Array Operand} (ho : o.op = .makeFunc fn first captured) : (evFunc st X fn first.toList captured.toList).sound X st o := by
  unfold evFunc
  split
  · trivial
  rename_i fs hf
  split
  · trivial
  rename_i cs hc
  intro R ρ M a w h
  refine qint h ?_
  unfold execOp
  simp [ho, Instr.makeFunc, mapV_ops h hf, mapV_ops h hc]

def evq (X : Cx) (st : St) (o : Oper) : Res := match o.op with
  | .move x => .ok (st.ev X x)
  | .assign x => .ok (st.ev X x)
  | .pick c x y => evPick X st c x y
  | .alloc E => evAlloc X o.dst E
  | .box E x => evBox X st o.dst E x
  | .build t ps => evBuild X st t ps.toList
  | .buildSlice t len ps => evBS X st o.dst t len ps.toList
  | .load t p => evLoad X st t p
  | .nilCheck x => evNil X st x
  | .binOp op t x y _ => evBin X st op t x y
  | .unOp op _ x => evUn X st op x
  | .convert s d x => evConv X st s d x
  | .makeInterface t x => evIface X st t x
  | .makeFunc fn f c => evFunc st X fn f.toList c.toList
  | .makeSlice t l c => evMake X st o.dst t l c
  | .slice t x lo hi mx => match mx with
    | none => evSlice X st t x lo hi
    | some _ => .no
  | .fieldAddr t p i => evFieldAddr X st t p i
  | .indexAddr t x i => evIndexAddr X st t x i
  | .index t x i => evIndex X st t x i
  | .extract x i => evExtract X st x i
  | .typeAssert x _ a ok => evAssert X st x a ok
  | .call c => match c with
    | ⟨.builtin b, args, ts⟩ => match b with
      | .len => match args, ts with
        | ⟨[x]⟩, ⟨[t]⟩ => evLen X st t x
        | _, _ => .no
      | .min => match args with
        | ⟨[x, y]⟩ => evMin X st x y
        | _ => .no
      | .max => match args with
        | ⟨[x, y]⟩ => evMax X st x y
        | _ => .no
      | _ => .no
    | _ => .no
  | _ => .no

theorem evq_sound (hX : X.ok) : (evq X st o).sound X st o := by
  unfold evq
  split
  · exact s_move (.inl ‹_›)
  · exact s_move (.inr ‹_›)
  · exact s_pick ‹_›
  · exact s_alloc hX ‹_›
  · exact s_box ‹_›
  · exact s_build hX ‹_›
  · exact s_bs hX ‹_›
  · exact s_load hX ‹_›
  · exact s_nil ‹_›
  · exact s_bin hX ‹_›
  · exact s_un ‹_›
  · exact s_conv hX ‹_›
  · exact s_iface hX ‹_›
  · exact s_func ‹_›
  · exact s_make hX ‹_›
  · split
    · exact s_slice hX ‹_›
    · trivial
  · exact s_fieldAddr hX ‹_›
  · exact s_indexAddr hX ‹_›
  · exact s_index hX ‹_›
  · exact s_extract ‹_›
  · exact s_assert hX ‹_›
  · split
    · split
      · split
        · exact s_len hX ‹_›
        · trivial
      · split
        · exact s_min ‹_›
        · trivial
      · split
        · exact s_max ‹_›
        · trivial
      · trivial
    · trivial
  · trivial

end
end Go.Proofs.YtekdobbhkklapaaGreat
