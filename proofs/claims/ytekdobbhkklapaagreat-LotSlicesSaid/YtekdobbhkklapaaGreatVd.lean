/- Quiet operations, more: numbers, strings, bools, parts of slices, lengths, things that are built. -/
import Derived.Test.YtekdobbhkklapaaGreatVc
import Derived.Laws.StructEq
import Derived.ChangeKeysEq
import Derived.Laws.MakeOwn
import Derived.Laws.OwnMore
import Derived.Great.BuildSlice
namespace Go.Proofs.YtekdobbhkklapaaGreat
open Go Go.RowKit
set_option linter.unusedVariables false
set_option linter.unusedSimpArgs false

def IntKind.same : IntKind → IntKind → Bool
  | .i64, .i64 => true
  | .u64, .u64 => true
  | .u8, .u8 => true
  | .i32, .i32 => true
  | .u32, .u32 => true
  | _, _ => false
theorem IntKind.same_eq {k k' : IntKind} (h : IntKind.same k k' = true) : k = k' := by cases k <;> cases k' <;> first | rfl | cases h

/-- The order of strings. -/
def strLt (a b : ByteArray) : Bool := Op.bytesLess a.toList b.toList
def strEq (a b : ByteArray) : Bool := a.toList == b.toList

def bv (b : Bool) : AV := .dat (.val (.bool b))
def boolOf : AV → Option Bool
  | .tt => some true
  | .ff => some false
  | .dat (.val (.bool b)) => some b
  | _ => none
theorem boolOf_den {ρ : Env} {M : Mem} {c : AV} {b : Bool} {v : Value} (hb : boolOf c = some b) (h : DenA ρ M c v) : v = .bool b := by
  unfold boolOf at hb
  split at hb
  · cases hb; cases h; rfl
  · cases hb; cases h; rfl
  · cases hb; exact val_of h
  · cases hb

section
variable {X : Cx} {st : St} {o : Oper}

theorem qint {R : Run} {ρ : Env} {M : Mem} {a : Act} {w : World} (h : Sim X R ρ M st a w) {v : Value} (hr : (execOp a.eval o).run X.P w = .ok (.value v) w) : QStep X o a w ρ M (.dat (.val v)) none := qval h.pub hr (.dat (.val v))

def andI (k : IntKind) (a b : Int) : Int := k.wrap (BitVec.ofInt k.bits a &&& BitVec.ofInt k.bits b).toNat
def intBin (op : BinOp) (k : IntKind) (a b : Int) : Res := match op with
  | .add => .num k (a + b)
  | .sub => .num k (a - b)
  | .mul => .num k (a * b)
  | .quo => .cnum (b ≠ 0) k (a.tdiv b)
  | .rem => .cnd (b ≠ 0) (.dat (.val (.int k (a.tmod b))))
  | .eql => .ok (bv (decide (a = b)))
  | .neq => .ok (bv (decide (a ≠ b)))
  | .lss => .ok (bv (decide (a < b)))
  | .leq => .ok (bv (decide (a ≤ b)))
  | .gtr => .ok (bv (decide (a > b)))
  | .geq => .ok (bv (decide (a ≥ b)))
  | .shr => .cnd (0 ≤ b) (.dat (.val (.int k (a.fdiv (2 ^ (min b.toNat k.bits))))))
  | .and => .ok (.dat (.val (.int k (andI k a b))))
  | _ => .no
def strBin (op : BinOp) (a b : ByteArray) : Res := match op with
  | .eql => .ok (bv (strEq a b))
  | .neq => .ok (bv (!strEq a b))
  | .lss => .ok (bv (strLt a b))
  | .leq => .ok (bv (strLt a b || strEq a b))
  | .gtr => .ok (bv (!(strLt a b || strEq a b)))
  | .geq => .ok (bv (!strLt a b))
  | _ => .no
/-! Structs of ints are compared. -/
def aggI (l : List Int) : Value := .agg (l.map (Value.int .i64)).toArray
def intsA : List AV → Option (List Int)
  | [] => some []
  | .dat (.val (.int .i64 z)) :: l => match intsA l with
    | some r => some (z :: r)
    | none => none
  | _ :: _ => none
theorem intsA_at : ∀ {cs : List AV} {l : List Int}, intsA cs = some l → ∀ {ρ : Env} {M : Mem} {vs : List Value}, cs.length = vs.length → (∀ (i : Nat) (c : AV) (v : Value), cs[i]? = some c → vs[i]? = some v → DenA ρ M c v) → vs = l.map (Value.int .i64)
  | [], l, h, ρ, M, vs, hl, hd => by
    cases h
    cases vs with
    | nil => rfl
    | cons v vs => simp at hl
  | c :: cs, l, h, ρ, M, vs, hl, hd => by
    unfold intsA at h
    split at h
    · rename_i heq; cases heq
    · rename_i z l' heq
      cases heq
      split at h
      · rename_i r hr
        cases h
        cases vs with
        | nil => simp at hl
        | cons v vs =>
          have h0 := val_of (hd 0 _ v rfl rfl)
          subst h0
          rw [intsA_at hr (vs := vs) (by simpa using hl) (fun i c v hc hv => hd (i + 1) c v (by simpa using hc) (by simpa using hv))]
          rfl
      · cases h
    · cases h
theorem intsA_den {ρ : Env} {M : Mem} {cs : List AV} {l : List Int} {v : Value} (h : intsA cs = some l) (hd : DenA ρ M (.agg cs) v) : v = aggI l := by
  obtain ⟨vs, rfl, hl, hv⟩ := agg_of hd
  rw [intsA_at h hl hv]
  rfl
/-- Two values of struct type t, n ints, are compared. -/
def EqS (P : Program) (t n : Nat) : Prop := P.eqGuardType P.depth t = false ∧ ∀ as bs : List Int, as.length = n → bs.length = n → ∀ w, (Op.equalIn 10000 t (aggI as) (aggI bs)).run P w = .ok (decide (as = bs)) w
def fieldsI (P : Program) : List Field → Nat → Bool
  | [], _ => true
  | f :: l, k => f.name != "_" && (Nat.beq f.offset k && (P.plainKey f.type && ((match P.underlying f.type with
    | some (.int .i64) => true
    | _ => false) && fieldsI P l (k + 1))))
theorem run_eqFieldsI {P : Program} (w : World) (d : Nat) : ∀ (fs : List Field) (k : Nat) (xs ys : List Int), fieldsI P fs k = true → xs.length = k + fs.length → ys.length = k + fs.length →
    (Op.eqFields (d + 1) (xs.map (Value.int .i64)).toArray (ys.map (Value.int .i64)).toArray fs).run P w = .ok (decide (xs.drop k = ys.drop k)) w
  | [], k, xs, ys, _, h1, h2 => by
    have e1 : xs.drop k = [] := by simp at h1 ⊢; omega
    have e2 : ys.drop k = [] := by simp at h2 ⊢; omega
    simp [Op.eqFields, e1, e2]
  | f :: fs, k, xs, ys, hf, h1, h2 => by
    simp only [fieldsI, Bool.and_eq_true, bne_iff_ne, ne_eq] at hf
    obtain ⟨hn, ho, hp, hu, hr⟩ := hf
    have ho := Nat.eq_of_beq_eq_true ho
    have hu : P.underlying f.type = some (.int .i64) := by
      revert hu
      cases hq : P.underlying f.type with
      | none => intro hu; cases hu
      | some td =>
        cases td <;> (try (intro hu; cases hu; done))
        rename_i kk
        cases kk <;> (intro hu; first | rfl | cases hu)
    simp at h1 h2
    have l1 : k < xs.length := by omega
    have l2 : k < ys.length := by omega
    have p1 : (part f.type (xs.map (Value.int .i64)).toArray f.offset).run P w = .ok (.int .i64 xs[k]) w := run_part_plain w hp (by simp [ho, l1])
    have p2 : (part f.type (ys.map (Value.int .i64)).toArray f.offset).run P w = .ok (.int .i64 ys[k]) w := run_part_plain w hp (by simp [ho, l2])
    have ih := run_eqFieldsI w d fs (k + 1) xs ys hr (by omega) (by omega)
    have d1 : xs.drop k = xs[k] :: xs.drop (k + 1) := List.drop_eq_getElem_cons l1
    have d2 : ys.drop k = ys[k] :: ys.drop (k + 1) := List.drop_eq_getElem_cons l2
    simp only [Op.eqFields, hn, ne_eq, not_false_eq_true, if_true, Sem.run_bind, p1, p2, Result.andThen_ok, run_equalIn_int w d f.type .i64 .i64 _ _ hu]
    rw [d1, d2]
    clear d1 d2
    revert ih
    generalize xs.drop (k + 1) = A
    generalize ys.drop (k + 1) = B
    intro ih
    by_cases hx : xs[k] = ys[k]
    · simp [hx, ih]
    · simp [hx]
theorem eqS_mk {P : Program} {t n : Nat} {fields : Array Field} (hg : P.eqGuardType P.depth t = false) (hu : P.underlying t = some (.struct fields)) (hs : P.stoodInHeld t = false) (hf : fieldsI P fields.toList 0 = true) (hn : fields.size = n) : EqS P t n := by
  refine ⟨hg, fun as bs ha hb w => ?_⟩
  have hfo : P.fieldsOf t = fields := by unfold Program.fieldsOf; rw [hu]
  unfold aggI
  rw [run_equalIn_agg w 9999 t _ _ (by rw [hfo]; exact hu) hs, hfo]
  have := run_eqFieldsI w 9998 fields.toList 0 as bs hf (by simp; omega) (by simp; omega)
  simpa using this

def evBin (X : Cx) (st : St) (op : BinOp) (t : TypeId) (x y : Operand) : Res := match st.ev X x with
  | .dat (.val (.int k a)) => match st.ev X y with
    | .dat (.val (.int k' b)) => match IntKind.same k k' with
      | true => intBin op k a b
      | false => .no
    | _ => .no
  | .dat (.val (.string a)) => match st.ev X y with
    | .dat (.val (.string b)) => strBin op a b
    | _ => .no
  | .agg cs => match intsA cs with
    | none => .no
    | some as => match st.ev X y with
      | .agg ds => match intsA ds with
        | none => .no
        | some bs => match op with
          | .eql => .cnd (EqS X.P t as.length ∧ bs.length = as.length) (bv (decide (as = bs)))
          | .neq => .cnd (EqS X.P t as.length ∧ bs.length = as.length) (bv (!decide (as = bs)))
          | _ => .no
      | _ => .no
  | c => match boolOf c with
    | none => .no
    | some a => match boolOf (st.ev X y) with
      | none => .no
      | some b => match lk t X.T with
        | some ⟨.bool, _, _⟩ => match op with
          | .eql => .ok (bv (decide (a = b)))
          | .neq => .ok (bv (!decide (a = b)))
          | _ => .no
        | _ => .no

theorem run_equal_bool {P : Program} {t : TypeId} (hu : P.underlying t = some .bool) (a b : Bool) (w : World) : (Op.equal t (.bool a) (.bool b)).run P w = .ok (a == b) w := by
  have h : ∀ d : Nat, (Op.equalIn (d + 1) t (.bool a) (.bool b)).run P w = .ok (a == b) w := fun d => by
    simp [Op.equalIn, run_underlying hu]
  exact h 9999
theorem s_bin (hX : X.ok) {op : BinOp} {t yt : TypeId} {x y : Operand} (ho : o.op = .binOp op t x y yt) : (evBin X st op t x y).sound X st o := by
  unfold evBin
  split
  · rename_i k a hx
    split
    · rename_i k' b hy
      split
      · rename_i hk
        obtain rfl := IntKind.same_eq hk
        have hev : ∀ {R : Run} {ρ : Env} {M : Mem} {ac : Act} {w : World}, Sim X R ρ M st ac w → ac.eval x = .int k a ∧ ac.eval y = .int k b := fun h => ⟨val_of (hx ▸ h.ev x), val_of (hy ▸ h.ev y)⟩
        cases op <;> first
          | trivial
          | (intro R ρ M ac w h
             obtain ⟨h1, h2⟩ := hev h
             refine qint h ?_
             unfold execOp
             simp [ho, h1, h2, eqGuard, binOp, Op.intArith, Op.intCmp, bne_eq_decide_ne]
             done)
          | (intro hb R ρ M ac w h
             obtain ⟨h1, h2⟩ := hev h
             refine qint h ?_
             unfold execOp
             simp [ho, h1, h2, eqGuard, binOp, Op.intDiv, hb]
             done)
          | (intro hb R ρ M ac w h
             obtain ⟨h1, h2⟩ := hev h
             refine qint h ?_
             unfold execOp
             simp only [ho, h1, h2]
             simp [eqGuard, binOp, Op.shift, Int.not_lt.mpr hb]
             done)
          | (intro R ρ M ac w h
             obtain ⟨h1, h2⟩ := hev h
             refine qint h ?_
             unfold execOp
             simp [ho, h1, h2, eqGuard, binOp, Op.intBits, andI]
             done)
          | (intro R ρ M ac w h
             obtain ⟨h1, h2⟩ := hev h
             refine qint h ?_
             unfold execOp
             simp [ho, h1, h2, eqGuard, binOp, Op.intArith, Op.intCmp]
             first | rfl | (congr; done) | (by_cases hab : a = b <;> simp [hab]) | skip)
      · trivial
    · trivial
  · rename_i a hx
    split
    · rename_i b hy
      have hev : ∀ {R : Run} {ρ : Env} {M : Mem} {ac : Act} {w : World}, Sim X R ρ M st ac w → ac.eval x = .string a ∧ ac.eval y = .string b := fun h => ⟨val_of (hx ▸ h.ev x), val_of (hy ▸ h.ev y)⟩
      cases op <;> first
        | trivial
        | (intro R ρ M ac w h
           obtain ⟨h1, h2⟩ := hev h
           refine qint h ?_
           unfold execOp
           simp [ho, h1, h2, eqGuard, binOp, Op.stringOp, strLt, strEq])
    · trivial
  · rename_i cs hx
    split
    · trivial
    rename_i as has
    split
    · rename_i ds hy
      split
      · trivial
      rename_i bs hbs
      have hev : ∀ {R : Run} {ρ : Env} {M : Mem} {ac : Act} {w : World}, Sim X R ρ M st ac w → ac.eval x = aggI as ∧ ac.eval y = aggI bs := fun h => ⟨intsA_den has (hx ▸ h.ev x), intsA_den hbs (hy ▸ h.ev y)⟩
      split
      · intro ⟨⟨hg, he⟩, hlen⟩ R ρ M ac w h
        obtain ⟨h1, h2⟩ := hev h
        have he := he as bs rfl hlen w
        unfold aggI at h1 h2 he
        refine qint h ?_
        unfold execOp
        simp only [ho, h1, h2, Sem.run_bind, run_eqGuard_agg w .eql t x y _ _ hg, run_eql_struct, he, Result.andThen_ok]
        rfl
      · intro ⟨⟨hg, he⟩, hlen⟩ R ρ M ac w h
        obtain ⟨h1, h2⟩ := hev h
        have he := he as bs rfl hlen w
        unfold aggI at h1 h2 he
        refine qint h ?_
        unfold execOp
        simp only [ho, h1, h2, Sem.run_bind, run_eqGuard_agg w .neq t x y _ _ hg, run_neq_struct, he, Result.andThen_ok]
        rfl
      · trivial
    · trivial
  · split
    · trivial
    rename_i c _ _ _ a ha
    split
    · trivial
    rename_i b hb
    split
    · rename_i sz z hti
      obtain ⟨_, _, hu⟩ := hX t _ hti
      have hev : ∀ {R : Run} {ρ : Env} {M : Mem} {ac : Act} {w : World}, Sim X R ρ M st ac w → ac.eval x = .bool a ∧ ac.eval y = .bool b := fun h => ⟨boolOf_den ha (h.ev x), boolOf_den hb (h.ev y)⟩
      split
      · intro R ρ M ac w h
        obtain ⟨h1, h2⟩ := hev h
        refine qint h ?_
        unfold execOp
        simp only [ho, h1, h2, eqGuard, binOp, Sem.run_bind, run_equal_bool hu]
        cases a <;> cases b <;> rfl
      · intro R ρ M ac w h
        obtain ⟨h1, h2⟩ := hev h
        refine qint h ?_
        unfold execOp
        simp only [ho, h1, h2, eqGuard, binOp, Sem.run_bind, run_equal_bool hu]
        cases a <;> cases b <;> rfl
      · trivial
    · trivial

def evUn (X : Cx) (st : St) (op : UnOp) (x : Operand) : Res := match op with
  | .not => match st.ev X x with
    | .tt => .ok .ff
    | .ff => .ok .tt
    | .dat (.val (.bool b)) => .ok (bv (!b))
    | _ => .no
  | .neg => match st.ev X x with
    | .dat (.val (.int k a)) => .num k (0 - a)
    | _ => .no
  | _ => .no
theorem s_un {op : UnOp} {t : TypeId} {x : Operand} (ho : o.op = .unOp op t x) : (evUn X st op x).sound X st o := by
  unfold evUn
  split
  · split
    · rename_i hx
      intro R ρ M a w h
      have h1 := hx ▸ h.ev x
      generalize hv : a.eval x = v at h1
      cases h1
      refine qval h.pub (v := .bool false) ?_ .ff
      unfold execOp
      simp [ho, hv, Op.unary]
    · rename_i hx
      intro R ρ M a w h
      have h1 := hx ▸ h.ev x
      generalize hv : a.eval x = v at h1
      cases h1
      refine qval h.pub (v := .bool true) ?_ .tt
      unfold execOp
      simp [ho, hv, Op.unary]
    · rename_i b hx
      intro R ρ M a w h
      have h1 := val_of (hx ▸ h.ev x)
      refine qint h ?_
      unfold execOp
      simp [ho, h1, Op.unary]
    · trivial
  · split
    · rename_i k b hx
      intro R ρ M a w h
      have h1 := val_of (hx ▸ h.ev x)
      refine qint h ?_
      unfold execOp
      simp [ho, h1, Op.unary, Op.intArith]
    · trivial
  · trivial

def evConv (X : Cx) (st : St) (s d : TypeId) (x : Operand) : Res := match lk s X.T with
  | none => .no
  | some si => match lk d X.T with
    | some ⟨.int k, _, _⟩ => match st.ev X x with
      | .dat (.val (.int _ n)) => .num k n
      | _ => .no
    | some ⟨.str, _, _⟩ => match st.ev X x with
      | .dat (.val (.string b)) => .ok (.dat (.val (.string b)))
      | _ => .no
    | _ => .no
theorem s_conv (hX : X.ok) {s d : TypeId} {x : Operand} (ho : o.op = .convert s d x) : (evConv X st s d x).sound X st o := by
  unfold evConv
  split
  · trivial
  rename_i si hsi
  obtain ⟨⟨ds, hds, _⟩, _, _⟩ := hX s si hsi
  split
  · rename_i k sz z hti
    obtain ⟨_, _, hu⟩ := hX d _ hti
    split
    · rename_i k0 n hx
      intro R ρ M a w h
      have h1 := val_of (hx ▸ h.ev x)
      refine qint h ?_
      unfold execOp
      cases ds <;> simp [ho, h1, convert, run_underlying hds, run_underlying hu, Conv.intToInt]
    · trivial
  · rename_i sz z hti
    obtain ⟨_, _, hu⟩ := hX d _ hti
    split
    · rename_i b hx
      intro R ρ M a w h
      have h1 := val_of (hx ▸ h.ev x)
      refine qint h ?_
      unfold execOp
      cases ds <;> simp [ho, h1, convert, run_underlying hds, run_underlying hu]
    · trivial
  · trivial

/-! Lengths, the least, the greatest. -/
def evLen (X : Cx) (st : St) (t : TypeId) (x : Operand) : Res := match lk t X.T with
  | some ⟨.slice .., _, _⟩ => match st.ev X x with
    | .dat (.lst s n f) => .ok (.dat (.val (.int .i64 n)))
    | .own r s lo n => .ok (.dat (.val (.int .i64 n)))
    | .dat (.val (.slice none 0 0)) => .ok (.dat (.val (.int .i64 0)))
    | _ => .no
  | some ⟨.str, _, _⟩ => match st.ev X x with
    | .dat (.val (.string b)) => .ok (.dat (.val (.int .i64 b.size)))
    | _ => .no
  | _ => .no
theorem s_len (hX : X.ok) {t : TypeId} {x : Operand} (ho : o.op = .call { callee := .builtin .len, args := #[x], argTypes := #[t] }) : (evLen X st t x).sound X st o := by
  unfold evLen
  split
  · rename_i E es eb ez sz z hti
    obtain ⟨_, _, hu, _⟩ := hX t _ hti
    split
    · rename_i s n f hx
      intro R ρ M a w h
      obtain ⟨A, cap, u, hv, _⟩ := lst_of (hx ▸ h.ev x)
      refine qint h ?_
      unfold execOp
      simp [ho, hv, resolve, invoke, builtin, Builtin.len_, run_underlying hu, goInt]
    · rename_i r s lo n hx
      intro R ρ M a w h
      have hv := own_of (hx ▸ h.ev x)
      refine qint h ?_
      unfold execOp
      simp [ho, hv, resolve, invoke, builtin, Builtin.len_, run_underlying hu, goInt]
    · rename_i hx
      intro R ρ M a w h
      have hv := val_of (hx ▸ h.ev x)
      refine qint h ?_
      unfold execOp
      simp [ho, hv, resolve, invoke, builtin, Builtin.len_, run_underlying hu, goInt]
    · trivial
  · rename_i sz z hti
    obtain ⟨_, _, hu⟩ := hX t _ hti
    split
    · rename_i b hx
      intro R ρ M a w h
      have hv := val_of (hx ▸ h.ev x)
      refine qint h ?_
      unfold execOp
      simp [ho, hv, resolve, invoke, builtin, Builtin.len_, run_underlying hu, goInt]
    · trivial
  · trivial

def intAV (st : St) (X : Cx) (x : Operand) : Option (IntKind × Int) := match st.ev X x with
  | .dat (.val (.int k z)) => some (k, z)
  | _ => none
theorem intAV_den {R : Run} {ρ : Env} {M : Mem} {a : Act} {w : World} (h : Sim X R ρ M st a w) {x : Operand} {k : IntKind} {z : Int} (hx : intAV st X x = some (k, z)) : a.eval x = .int k z := by
  unfold intAV at hx
  split at hx
  · rename_i k' z' he
    cases hx
    exact val_of (he ▸ h.ev x)
  · cases hx
def evMin (X : Cx) (st : St) (x y : Operand) : Res := match intAV st X x with
  | none => .no
  | some (k, a) => match intAV st X y with
    | none => .no
    | some (_, b) => .ok (.dat (.val (.int k (if b < a then b else a))))
theorem s_min {x y : Operand} {ts : Array TypeId} (ho : o.op = .call { callee := .builtin .min, args := #[x, y], argTypes := ts }) : (evMin X st x y).sound X st o := by
  unfold evMin
  split
  · trivial
  rename_i k a hx
  split
  · trivial
  rename_i k' b hy
  intro R ρ M ac w h
  have h1 := intAV_den h hx
  have h2 := intAV_den h hy
  refine qint h ?_
  unfold execOp
  simp [ho, h1, h2, resolve, invoke, builtin, Builtin.min_, Builtin.min2]
def evMax (X : Cx) (st : St) (x y : Operand) : Res := match intAV st X x with
  | none => .no
  | some (k, a) => match intAV st X y with
    | none => .no
    | some (_, b) => .ok (.dat (.val (.int k (if b > a then b else a))))
theorem s_max {x y : Operand} {ts : Array TypeId} (ho : o.op = .call { callee := .builtin .max, args := #[x, y], argTypes := ts }) : (evMax X st x y).sound X st o := by
  unfold evMax
  split
  · trivial
  rename_i k a hx
  split
  · trivial
  rename_i k' b hy
  intro R ρ M ac w h
  have h1 := intAV_den h hx
  have h2 := intAV_den h hy
  refine qint h ?_
  unfold execOp
  simp [ho, h1, h2, resolve, invoke, builtin, Builtin.max_, Builtin.max2]

/-! A byte of a string. -/
def byteAt (s : ByteArray) (i : Nat) : Int := ((s.data.toList.getD i 0).toNat : Int)
theorem run_partI {P : Program} {E : TypeId} {d : TypeDesc} {inf : TypeInfo} (hd : P.underlying E = some d) (hag : aggOf d = true) (hinf : P.info? E = some inf) (l : List Int) (off : Nat) (h : off + inf.size ≤ l.length) (w : World) :
    (part E (l.map (Value.int .i64)).toArray off).run P w = .ok (.agg ((List.range inf.size).map fun j => Value.int .i64 (l.getD (off + j) 0)).toArray) w := by
  unfold part
  rw [Sem.run_bind, run_isAgg hd]
  simp only [Result.andThen_ok, hag, if_true, Sem.run_bind, run_sizeOf hinf, Sem.run_pure]
  congr 2
  apply Array.ext
  · simp; omega
  · intro i h1 h2
    have hi : i < inf.size := by simpa using h2
    have hl : off + i < l.length := by omega
    simp [hl]
def evIndex (X : Cx) (st : St) (t : TypeId) (x i : Operand) : Res := match intAV st X i with
  | none => .no
  | some (k, z) => match lk t X.T with
    | some ⟨.str, _, _⟩ => match st.ev X x with
      | .dat (.val (.string s)) => .cnd (0 ≤ z ∧ z < (s.size : Int)) (.dat (.val (.int .u8 (byteAt s z.toNat))))
      | _ => .no
    | some ⟨.arr n E es, _, _⟩ => match st.ev X x with
      | .agg cs => match intsA cs with
        | none => .no
        | some l => match lk E X.T with
          | none => .no
          | some ti => match ti.k.agg with
            | false => .no
            | true => match Nat.beq ti.size es with
              | false => .no
              | true => match Nat.beq l.length (n * es) with
                | false => .no
                | true => .cnd (0 ≤ z ∧ z < (n : Int)) (.agg ((List.range es).map fun j => .dat (.val (.int .i64 (l.getD (z.toNat * es + j) 0)))))
      | _ => .no
    | _ => .no
theorem s_index (hX : X.ok) {t : TypeId} {x i : Operand} (ho : o.op = .index t x i) : (evIndex X st t x i).sound X st o := by
  unfold evIndex
  split
  · trivial
  rename_i k z hi
  split
  · rename_i sz z0 hti
    obtain ⟨_, _, hu⟩ := hX t _ hti
    split
    · rename_i s hx
      intro hz R ρ M a w h
      have hv := val_of (hx ▸ h.ev x)
      have hiv := intAV_den h hi
      refine qint h ?_
      have hlt : z.toNat < s.size := by omega
      have hb : s[z.toNat]? = some s[z.toNat] := by simp [hlt]
      have hb2 : byteAt s z.toNat = (s[z.toNat].toNat : Int) := by
        unfold byteAt
        rw [List.getD_eq_getElem?_getD, Array.getElem?_toList]
        have : s.data[z.toNat]? = some s[z.toNat] := by
          rw [Array.getElem?_eq_getElem (by exact hlt)]; rfl
        rw [this]; rfl
      unfold execOp
      simp [ho, hv, hiv, Instr.index, asIntOf, run_underlying hu, hz.1, hb, hb2]
    · trivial
  · rename_i n E es sz z0 hti
    obtain ⟨_, _, hu, ie, hie, hsz⟩ := hX t _ hti
    split
    · rename_i cs hx
      split
      · trivial
      rename_i l hl
      split
      · trivial
      rename_i ti hE
      obtain ⟨⟨d, hd, hag, _⟩, ⟨inf, hinf, his, _⟩, _⟩ := hX E ti hE
      split
      · trivial
      rename_i hk
      split
      · trivial
      rename_i hes
      have hes := Nat.eq_of_beq_eq_true hes
      split
      · trivial
      rename_i hlen
      have hlen := Nat.eq_of_beq_eq_true hlen
      intro hz R ρ M a w h
      have hv := intsA_den hl (hx ▸ h.ev x)
      have hiv := intAV_den h hi
      have hie2 : inf.size = es := by omega
      have hin : z.toNat * es + inf.size ≤ l.length := by
        have h1 : (z.toNat + 1) * es ≤ n * es := Nat.mul_le_mul_right es (by omega)
        rw [Nat.add_mul, Nat.one_mul] at h1
        omega
      refine qval h.pub (v := .agg ((List.range es).map fun j => Value.int .i64 (l.getD (z.toNat * es + j) 0)).toArray) ?_ (.agg _ ((List.range es).map fun j => Value.int .i64 (l.getD (z.toNat * es + j) 0)) (by simp) fun i c v h1 h2 => ?_)
      · have hp := run_partI hd (by rw [hag, hk]) hinf l (z.toNat * es) hin w
        rw [hie2] at hp
        unfold aggI at hv
        unfold execOp
        simp only [ho, hv, hiv, Instr.index, asIntOf, Sem.run_bind, Sem.run_pure, Result.andThen_ok, run_underlying hu]
        rw [if_pos hz]
        simp only [Sem.run_bind, run_sizeOf hie, hsz, Result.andThen_ok, hp]
      · obtain ⟨_, rfl⟩ := range_map_at h1
        obtain ⟨_, rfl⟩ := range_map_at h2
        exact .dat (.val _)
    · trivial
  · trivial

end
end Go.Proofs.YtekdobbhkklapaaGreat
