/- Regions in order; code; functions. -/
import Derived.Test.YtekdobbhkklapaaGreatVl
namespace Go.Proofs.YtekdobbhkklapaaGreat
open Go Go.RowKit
set_option linter.unusedVariables false
set_option linter.unusedSimpArgs false
set_option linter.unnecessarySimpa false

/-- A description whose head is known, handed on written out. -/
def force (c : AV) (K : AV → Prop) : Prop := match c with
  | .junk => K .junk
  | .tt => K .tt
  | .ff => K .ff
  | .dat (.val v) => K (.dat (.val v))
  | .dat (.lst s n f) => K (.dat (.lst s n f))
  | .ptr r o => K (.ptr r o)
  | .ro n c => K (.ro n c)
  | .own r s l n => K (.own r s l n)
  | .rptr r s k j => K (.rptr r s k j)
  | .agg cs => forceL cs fun cs => K (.agg cs)
  | .tup cs => forceL cs fun cs => K (.tup cs)
where
  force1 (c : AV) (K : AV → Prop) : Prop := match c with
    | .junk => K .junk
    | .tt => K .tt
    | .ff => K .ff
    | .dat (.val v) => K (.dat (.val v))
    | .dat (.lst s n f) => K (.dat (.lst s n f))
    | .ptr r o => K (.ptr r o)
    | .ro n c => K (.ro n c)
    | .own r s l n => K (.own r s l n)
    | .rptr r s k j => K (.rptr r s k j)
    | .agg cs => K (.agg cs)
    | .tup cs => K (.tup cs)
  forceL (cs : List AV) (K : List AV → Prop) : Prop := match cs with
    | [] => K []
    | c :: l => force1 c fun c => forceL l fun l => K (c :: l)
theorem force1_eq (c : AV) (K : AV → Prop) : force.force1 c K = K c := by
  cases c with
  | dat d => cases d <;> rfl
  | _ => rfl
theorem forceL_eq : ∀ (cs : List AV) (K : List AV → Prop), force.forceL cs K = K cs
  | [], K => rfl
  | c :: l, K => by
    show force.force1 c (fun c => force.forceL l fun l => K (c :: l)) = _
    rw [force1_eq, forceL_eq l]
theorem force_eq (c : AV) (K : AV → Prop) : force c K = K c := by
  cases c with
  | dat d => cases d <;> rfl
  | agg cs => show force.forceL cs _ = _; rw [forceL_eq]
  | tup cs => show force.forceL cs _ = _; rw [forceL_eq]
  | _ => rfl

def forceE (e : Ent) (K : Ent → Prop) : Prop := match e with
  | .blk t cs => force.forceL cs fun cs => K (.blk t cs)
  | .row E s n f => K (.row E s n f)
  | .pub s n f => K (.pub s n f)
  | .dead => K .dead
theorem forceE_eq (e : Ent) (K : Ent → Prop) : forceE e K = K e := by
  cases e with
  | blk t cs => show force.forceL cs _ = _; rw [forceL_eq]
  | _ => rfl
/-- Afterwards. -/
def aftK (n : Nat) (st : St) (d : Option Nat) (c : AV) (ne : Option Ent) (K : St → Prop) : Prop := match d with
  | none => match ne with
    | none => K st
    | some _ => False
  | some t => match Nat.ble (t + 1) n with
    | false => False
    | true => match ne with
      | none => force c fun c => st.un fun fr hp => K ⟨(t, c) :: fr, hp⟩
      | some e => match cleanF t st.fr with
        | false => False
        | true => match cleanH t st.hp with
          | false => False
          | true => force c fun c => st.un fun fr hp => K ⟨(t, c) :: fr, (t, e) :: hp⟩
theorem aftK_ok {n : Nat} {st : St} {d : Option Nat} {c : AV} {ne : Option Ent} {K : St → Prop} (h : aftK n st d c ne K) : okDst n st d ne ∧ K (st.aft d c ne) := by
  unfold aftK at h
  split at h
  · split at h
    · exact ⟨fun t ht => (by cases ht), h⟩
    · exact h.elim
  · rename_i t
    split at h
    · exact h.elim
    rename_i hb
    have hb := Nat.le_of_ble_eq_true hb
    split at h
    · rw [force_eq] at h
      exact ⟨fun t' ht => by cases ht; exact ⟨by omega, fun hn => by cases hn⟩, h⟩
    · split at h
      · exact h.elim
      rename_i hcf
      split at h
      · exact h.elim
      rename_i hch
      rw [force_eq] at h
      exact ⟨fun t' ht => by cases ht; exact ⟨by omega, fun _ => ⟨hcf, hch⟩⟩, h⟩

/-- A call. -/
structure ExCall (X : Cx) (n : Nat) (st : St) (d : Option Nat) (f : FuncId) (cs : List AV) (K : St → Prop) : Prop where
  out : ∀ (o : Oper) (cl : Operand) (args : Array Operand) (ts : Array TypeId), o.op = .call { callee := .value cl, args := args, argTypes := ts } → st.ev X cl = .dat (.val (.func (.func f) #[] #[])) → args.toList.map (st.ev X) = cs → o.dst = d → OpOk X n st o K
theorem ExCall.by {X : Cx} {n : Nat} {st : St} {d : Option Nat} {f : FuncId} {cs : List AV} {K : St → Prop} {r : AV} (h : CallA X st f cs r) (hk : aftK n st d r none K) : ExCall X n st d f cs K := by
  constructor
  intro o cl args ts ho hcl hcs hd R hn ρ M a w hs K' Q hK'
  obtain ⟨h1, h2⟩ := aftK_ok hk
  refine h.out o cl args ts ho hcl hcs R ρ M a w hs K' Q fun v ρ' M' w' hx => ?_
  subst hd
  subst hn
  exact hK' _ _ _ _ _ h2 (hs.quiet hx h1)

/-- A slice that may be nil, or may not, is compared with nil. -/
structure UnK (p : Bool → Prop) (K : Bool → Prop) : Prop where
  ex : ∀ b, p b → K b
def exNil (X : Cx) (n : Nat) (st : St) (o : Oper) (t : TypeId) (x : Operand) (K : St → Prop) : Prop := match lk t X.T with
  | some ⟨.slice E es eb ez, _, _⟩ => match st.ev X x with
    | .dat (.lst s m f) => UnK (fun b => b = true → m = 0) fun b => aftK n st o.dst (bv b) none K
    | .dat (.val (.slice none 0 0)) => aftK n st o.dst (bv true) none K
    | _ => False
  | _ => False
theorem run_nilEq {X : Cx} {E : TypeId} {t yt : TypeId} {x : Operand} {o : Oper} (hu : X.P.underlying t = some (.slice E)) (ho : o.op = .binOp .eql t x (.const (.slice none 0 0)) yt) {a : Act} {w : World} {A : Option Addr} {m c : Nat} (hx : a.eval x = .slice A m c) :
    (execOp a.eval o).run X.P w = .ok (.value (.bool A.isNone)) w := by
  have h1 : ∀ d : Nat, (Op.equalIn (d + 1) t (.slice A m c) (.slice none 0 0)).run X.P w = .ok A.isNone w := fun d => by
    cases A <;> simp [Op.equalIn, run_underlying hu]
  have h2 : (Op.equal t (.slice A m c) (.slice none 0 0)).run X.P w = .ok A.isNone w := h1 9999
  have h3 : a.eval (.const (.slice none 0 0)) = .slice none 0 0 := rfl
  unfold execOp
  simp only [ho, hx, h3, eqGuard, binOp, Sem.run_bind]
  simp [h2]
theorem exNil_ok {X : Cx} (hX : X.ok) {n : Nat} {st : St} {o : Oper} {t yt : TypeId} {x : Operand} {K : St → Prop} (ho : o.op = .binOp .eql t x (.const (.slice none 0 0)) yt) (h : exNil X n st o t x K) : OpOk X n st o K := by
  unfold exNil at h
  split at h
  · rename_i E es eb ez sz z hti
    obtain ⟨_, _, hu, _⟩ := hX t _ hti
    split at h
    · rename_i s m f hx
      intro R hn ρ M a w hs K' Q hK'
      obtain ⟨A, cap, u, hv, hn2, hc, hA, hm, hd⟩ := lst_of (hx ▸ hs.ev x)
      obtain ⟨h1, h2⟩ := aftK_ok (h.ex A.isNone (fun hb => by
        cases A with
        | none => have := hA rfl; omega
        | some ad => cases hb))
      subst hn
      have hr := run_nilEq hu ho (a := a) (w := w) hv
      refine qval (c := bv A.isNone) hs.pub hr (.dat (.val _)) K' Q fun v ρ' M' w' hx => hK' _ _ _ _ _ h2 (hs.quiet hx h1)
    · rename_i hx
      intro R hn ρ M a w hs K' Q hK'
      have hv := val_of (hx ▸ hs.ev x)
      obtain ⟨h1, h2⟩ := aftK_ok h
      subst hn
      have hr := run_nilEq hu ho (a := a) (w := w) hv
      refine qval (c := bv true) hs.pub hr (.dat (.val _)) K' Q fun v ρ' M' w' hx => hK' _ _ _ _ _ h2 (hs.quiet hx h1)
    · exact h.elim
  · exact h.elim
/-- One operation. -/
def exOp (X : Cx) (n : Nat) (st : St) (o : Oper) (K : St → Prop) : Prop := match o.op with
  | .store t p x => match o.dst with
    | none => exStore X st t p x K
    | some _ => False
  | .call c => match c with
    | ⟨.value cl, args, _⟩ => match st.ev X cl with
      | .dat (.val (.func (.func f) ⟨[]⟩ ⟨[]⟩)) => ExCall X n st o.dst f (args.toList.map (st.ev X)) K
      | _ => False
    | ⟨.builtin .append, ⟨[x, y]⟩, ⟨[t, t']⟩⟩ => match Nat.beq t t' with
      | true => exAppend X n st o.dst t x y K
      | false => False
    | _ => (evq X st o).to fun c ne => aftK n st o.dst c ne K
  | .binOp .eql t x (.const (.slice none 0 0)) _ => exNil X n st o t x K
  | _ => (evq X st o).to fun c ne => aftK n st o.dst c ne K

theorem exq_ok {X : Cx} (hX : X.ok) {n : Nat} {st : St} {o : Oper} {K : St → Prop} (h : (evq X st o).to fun c ne => aftK n st o.dst c ne K) : OpOk X n st o K := by
  obtain ⟨c, ne, h1, h2⟩ := Res.to_sound (evq_sound hX) h
  intro R hn ρ M a w hs K' Q hK'
  obtain ⟨h3, h4⟩ := aftK_ok h1
  refine h2 R ρ M a w hs K' Q fun v ρ' M' w' hx => ?_
  subst hn
  exact hK' _ _ _ _ _ h4 (hs.quiet hx h3)

theorem exOp_ok {X : Cx} (hX : X.ok) {n : Nat} {st : St} {o : Oper} {K : St → Prop} (h : exOp X n st o K) : OpOk X n st o K := by
  unfold exOp at h
  split at h
  · rename_i ho
    split at h
    · rename_i hd
      exact s_store hX ho hd h
    · exact h.elim
  · rename_i ho
    split at h
    · split at h
      · rename_i hcl
        exact h.out _ _ _ _ ho hcl rfl rfl
      · exact h.elim
    · split at h
      · rename_i hb
        obtain rfl := Nat.eq_of_beq_eq_true hb
        exact s_append hX ho h
      · exact h.elim
    · exact exq_ok hX h
  · rename_i ho
    exact exNil_ok hX ho h
  · exact exq_ok hX h

def und : AV := .dat (.val undef)
/-- Whether an operation is run: by the slot of the one that guards it. -/
def exG (n : Nat) (ops : List Oper) (st : St) (o : Oper) (yes no : St → Prop) : Prop := match o.guard with
  | none => yes st
  | some (j, b) => match ops[j]? with
    | none => False
    | some oj => match oj.dst with
      | none => False
      | some t => match st.get t with
        | .tt => match b with
          | true => yes st
          | false => no st
        | .ff => match b with
          | true => no st
          | false => yes st
        | .dat (.val (.tuple _)) => no st
        | .dat (.val (.bool e)) => match Nat.ble (t + 1) n with
          | false => False
          | true => BrK e (match b with
              | true => st.un fun fr hp => yes ⟨(t, .tt) :: fr, hp⟩
              | false => st.un fun fr hp => no ⟨(t, .tt) :: fr, hp⟩) (match b with
              | true => st.un fun fr hp => no ⟨(t, .ff) :: fr, hp⟩
              | false => st.un fun fr hp => yes ⟨(t, .ff) :: fr, hp⟩)
        | _ => False

theorem Sim.reslot {X : Cx} {R : Run} {ρ : Env} {M : Mem} {st : St} {a : Act} {w : World} (h : Sim X R ρ M st a w) {t : Nat} {c : AV} (hc : DenA ρ M c (a.tmps.getD t undef)) : Sim X R ρ M ⟨(t, c) :: st.fr, st.hp⟩ a w :=
  ⟨h.size, h.defers, h.chg, h.m0, h.g0, h.fresh, h.pub, fun s => by
    rw [St.get_cons]
    by_cases hs : t = s
    · rw [if_pos hs]; subst hs; exact hc
    · rw [if_neg hs]; exact h.slots s, h.ents, h.own, h.apart, h.sep, h.fix, h.drn⟩

def boolY (v : Value) : Option Bool := match v with
  | .bool b => some b
  | _ => none
theorem yielded_of {ops : List Oper} {oj : Oper} {j t : Nat} {a : Act} (hj : ops[j]? = some oj) (ht : oj.dst = some t) {v : Value} (hv : a.tmps.getD t undef = v) : yielded ops.toArray a.tmps j = boolY v := by
  unfold yielded
  have h1 : ops.toArray[j]? = some oj := by simpa using hj
  rw [h1]
  show (match (oj.dst).bind (a.tmps[·]?) with | some (.bool b) => some b | _ => none) = _
  rw [ht]
  show (match a.tmps[t]? with | some (.bool b) => some b | _ => none) = _
  cases hq : a.tmps[t]? with
  | none =>
    have hv2 : v = undef := by rw [← hv]; simp [hq]
    subst hv2
    rfl
  | some u =>
    have : v = u := by rw [← hv]; simp [hq]
    subst this
    cases v <;> rfl

theorem exG_ok {n : Nat} {ops : List Oper} {st : St} {o : Oper} {yes no : St → Prop} (h : exG n ops st o yes no) {X : Cx} {R : Run} {ρ : Env} {M : Mem} {a : Act} {w : World} (hn : R.n = n) (hs : Sim X R ρ M st a w) :
    ∃ st', Sim X R ρ M st' a w ∧ ((Region.wanted o (yielded ops.toArray a.tmps) = true ∧ yes st') ∨ (Region.wanted o (yielded ops.toArray a.tmps) = false ∧ no st')) := by
  unfold exG at h
  split at h
  · rename_i hg
    exact ⟨st, hs, .inl ⟨by simp [Region.wanted, hg], h⟩⟩
  rename_i j b hg
  split at h
  · exact h.elim
  rename_i oj hj
  split at h
  · exact h.elim
  rename_i t ht
  have hw : ∀ {v : Value}, a.tmps.getD t undef = v → Region.wanted o (yielded ops.toArray a.tmps) = (boolY v == some b) := fun hv => by
    simp [Region.wanted, hg, yielded_of hj ht hv]
  have hsl := hs.slots t
  split at h
  · rename_i hc
    rw [hc] at hsl
    generalize hv : a.tmps.getD t undef = v at hsl
    cases hsl
    split at h
    · exact ⟨st, hs, .inl ⟨by rw [hw hv]; rfl, h⟩⟩
    · exact ⟨st, hs, .inr ⟨by rw [hw hv]; rfl, h⟩⟩
  · rename_i hc
    rw [hc] at hsl
    generalize hv : a.tmps.getD t undef = v at hsl
    cases hsl
    split at h
    · exact ⟨st, hs, .inr ⟨by rw [hw hv]; rfl, h⟩⟩
    · exact ⟨st, hs, .inl ⟨by rw [hw hv]; rfl, h⟩⟩
  · rename_i hc
    rw [hc] at hsl
    have hv := val_of hsl
    exact ⟨st, hs, .inr ⟨by rw [hw hv]; rfl, h⟩⟩
  · rename_i e hc
    rw [hc] at hsl
    have hv := val_of hsl
    split at h
    · exact h.elim
    cases e with
    | true =>
      have h1 := h.yes rfl
      refine ⟨_, hs.reslot (t := t) (c := .tt) (by rw [hv]; exact .tt), ?_⟩
      split at h1
      · exact .inl ⟨by rw [hw hv]; rfl, h1⟩
      · exact .inr ⟨by rw [hw hv]; rfl, h1⟩
    | false =>
      have h1 := h.no rfl
      refine ⟨_, hs.reslot (t := t) (c := .ff) (by rw [hv]; exact .ff), ?_⟩
      split at h1
      · exact .inr ⟨by rw [hw hv]; rfl, h1⟩
      · exact .inl ⟨by rw [hw hv]; rfl, h1⟩
  · exact h.elim

/-- An operation that is not run leaves its slot without a value. -/
theorem Sim.skip {X : Cx} {R : Run} {ρ : Env} {M : Mem} {st : St} {a : Act} {w : World} (h : Sim X R ρ M st a w) {d : Option Nat} {K : St → Prop} (hk : aftK R.n st d und none K) : ∃ st', K st' ∧ Sim X R ρ M st' (a.put d undef) w := by
  obtain ⟨h1, h2⟩ := aftK_ok hk
  exact ⟨_, h2, h.quiet (ExtQ.same (d := d) h.pub (.dat (.val undef))) h1⟩

/-- A region, in order. -/
def ex (X : Cx) (n : Nat) (ops : List Oper) : List Oper → St → (St → Prop) → Prop
  | [], st, K => K st
  | o :: r, st, K => exG n ops st o (fun st' => exOp X n st' o fun st'' => ex X n ops r st'' K) (fun st' => aftK n st' o.dst und none fun st'' => ex X n ops r st'' K)

theorem ex_ok {X : Cx} (hX : X.ok) {R : Run} {ops : List Oper} {Q : Exit → Act → World → Prop} : ∀ (l : List Oper) (st : St) (K : St → Prop), ex X R.n ops l st K → ∀ ρ M a w, Sim X R ρ M st a w →
    (∀ st' ρ' M' a' w', K st' → Sim X R ρ' M' st' a' w' → Q .normal a' w') → wpList X.P ops.toArray Q l a w
  | [], st, K, h, ρ, M, a, w, hs, hQ => wpList_nil (hQ st ρ M a w h hs)
  | o :: r, st, K, h, ρ, M, a, w, hs, hQ => by
    obtain ⟨st', hs', hcase⟩ := exG_ok h rfl hs
    refine wpList_step fun K' hK' => ?_
    rcases hcase with ⟨hw, hy⟩ | ⟨hw, hno⟩
    · rw [if_pos hw]
      exact exOp_ok hX hy R rfl ρ M a w hs' K' Q fun st'' ρ' M' a' w' hk hs'' => hK' _ _ (ex_ok hX r st'' K hk ρ' M' a' w' hs'' hQ)
    · rw [if_neg (by rw [hw]; simp)]
      obtain ⟨st'', hk, hs''⟩ := hs'.skip hno
      exact hK' _ _ (ex_ok hX r st'' K hk ρ M _ w hs'' hQ)

/-- The code, run where the description is st, comes to Q of an exit and a description. -/
structure W (X : Cx) (n : Nat) (c : Code) (st : St) (Q : Exit → St → Prop) : Prop where
  out : X.ok → ∀ R : Run, R.n = n → ∀ ρ M a w, Sim X R ρ M st a w → c.wp X.P (fun e a' w' => ∃ st' ρ' M', Q e st' ∧ Sim X R ρ' M' st' a' w') a w

section
variable {X : Cx} {n : Nat} {st : St} {Q : Exit → St → Prop}

theorem W.seq {c d : Code} (h : W X n c st (fun e st' => match e with
    | .normal => W X n d st' Q
    | e => Q e st')) : W X n (.seq c d) st Q := ⟨fun hX R hn ρ M a w hs => wp_seq (wp_mono (h.out hX R hn ρ M a w hs) fun e a' w' ⟨st', ρ', M', hq, hs'⟩ => by
  cases e with
  | normal => exact hq.out hX R hn ρ' M' a' w' hs'
  | _ => exact ⟨st', ρ', M', hq, hs'⟩)⟩
theorem W.skip (h : Q .normal st) : W X n .skip st Q := ⟨fun _ R hn ρ M a w hs => wp_skip ⟨st, ρ, M, h, hs⟩⟩
theorem W.exit {i : Nat} (h : Q (.exit i) st) : W X n (.exit i) st Q := ⟨fun _ R hn ρ M a w hs => wp_exit ⟨st, ρ, M, h, hs⟩⟩
theorem W.ret (h : Q .ret st) : W X n .ret st Q := ⟨fun _ R hn ρ M a w hs => wp_ret ⟨st, ρ, M, h, hs⟩⟩
theorem W.block {i : Nat} {c : Code} (h : W X n c st (fun e st' => match e with
    | .exit j => match Nat.beq j i with
      | true => Q .normal st'
      | false => Q (.exit j) st'
    | e => Q e st')) : W X n (.block i c) st Q := ⟨fun hX R hn ρ M a w hs => wp_block (wp_mono (h.out hX R hn ρ M a w hs) fun e a' w' ⟨st', ρ', M', hq, hs'⟩ => by
  cases e with
  | exit j =>
    show if j = i then _ else _
    by_cases hj : j = i
    · subst hj
      rw [if_pos rfl]
      simp only [Nat.beq_refl] at hq
      exact ⟨st', ρ', M', hq, hs'⟩
    · rw [if_neg hj]
      have : Nat.beq j i = false := by
        cases hb : Nat.beq j i
        · rfl
        · exact absurd (Nat.eq_of_beq_eq_true hb) hj
      simp only [this] at hq
      exact ⟨st', ρ', M', hq, hs'⟩
  | _ => exact ⟨st', ρ', M', hq, hs'⟩)⟩
theorem W.region {i : Nat} {l : List Oper} (h : ex X n l l st (Q .normal)) : W X n (.region i l.toArray false) st Q := ⟨fun hX R hn ρ M a w hs => by
  subst hn
  exact wp_region_lit (ex_ok hX l st _ h ρ M a w hs fun st' ρ' M' a' w' hk hs' => ⟨st', ρ', M', hk, hs'⟩)⟩

/-- From here on the rows that are built in these slots are public at once. -/
theorem Sim.pbU {X : Cx} {l : List Nat} {R : Run} {ρ : Env} {M : Mem} {st : St} {a : Act} {w : World} (h : Sim { X with pb := l } R ρ M st a w) : Sim X R ρ M st a w :=
  ⟨h.size, h.defers, h.chg, h.m0, h.g0, h.fresh, h.pub, h.slots, h.ents, h.own, h.apart, h.sep, h.fix, h.drn⟩
theorem Sim.pbD {X : Cx} (l : List Nat) {R : Run} {ρ : Env} {M : Mem} {st : St} {a : Act} {w : World} (h : Sim X R ρ M st a w) : Sim { X with pb := l } R ρ M st a w :=
  ⟨h.size, h.defers, h.chg, h.m0, h.g0, h.fresh, h.pub, h.slots, h.ents, h.own, h.apart, h.sep, h.fix, h.drn⟩
theorem W.pb (l : List Nat) {c : Code} (h : W { X with pb := l } n c st Q) : W X n c st Q := ⟨fun hX R hn ρ M a w hs => wp_mono (h.out hX R hn ρ M a w (hs.pbD l)) fun e a' w' ⟨st', ρ', M', hq, hs'⟩ => ⟨st', ρ', M', hq, hs'.pbU⟩⟩

/-- A test. -/
def cond1 (c : AV) (yes no : Prop) : Prop := match c with
  | .tt => yes
  | .ff => no
  | .dat (.val (.bool b)) => BrK b yes no
  | _ => False
theorem W.cond {x : Operand} {c d : Code} (h : cond1 (st.ev X x) (W X n c st Q) (W X n d st Q)) : W X n (.cond x c d) st Q := ⟨fun hX R hn ρ M a w hs => by
  have hx := hs.ev x
  unfold cond1 at h
  split at h
  · rename_i hc
    rw [hc] at hx
    generalize hv : a.eval x = v at hx
    cases hx
    exact wp_cond_true hv (h.out hX R hn ρ M a w hs)
  · rename_i hc
    rw [hc] at hx
    generalize hv : a.eval x = v at hx
    cases hx
    exact wp_cond_false hv (h.out hX R hn ρ M a w hs)
  · rename_i b hc
    rw [hc] at hx
    have hv := val_of hx
    cases b with
    | true => exact wp_cond_true hv ((h.yes rfl).out hX R hn ρ M a w hs)
    | false => exact wp_cond_false hv ((h.no rfl).out hX R hn ρ M a w hs)
  · exact h.elim⟩

/-- Own blocks: one description is weaker. -/
def EntLe (e e' : Ent) : Prop := ∀ ρ M w r, EntOk ρ M w r e → EntOk ρ M w r e'
theorem EntLe.refl (e : Ent) : EntLe e e := fun _ _ _ _ h => h
theorem EntLe.blk {t : TypeId} {cs ds : List AV} (h : AVsLe cs ds) : EntLe (.blk t cs) (.blk t ds) := fun ρ M w r ⟨g, vs, h1, h2, h3, h4⟩ => by
  obtain ⟨e1, e2⟩ := AVsLe_at h
  exact ⟨g, vs, h1, h2, by omega, fun i c v hi hv => by
    obtain ⟨c', e3, e4⟩ := e2 i c hi
    exact e4 _ _ _ (h4 i c' v e3 hv)⟩
theorem EntLe.row {E : TypeId} {s n m : Nat} {f g : Nat → Nat → D} (hn : n = m) (h : ∀ i, i < n → ∀ j, j < s → Dle (f i j) (g i j)) : EntLe (.row E s n f) (.row E s m g) := fun ρ M w r ⟨xs, h1, h2⟩ => by
  subst hn
  exact ⟨xs, h1, fun i hi j hj => by
    obtain ⟨u, e1, e2, e3⟩ := h2 i hi j hj
    exact ⟨u, e1, h i hi j hj M u e2, e3⟩⟩

/-- The slots that are wanted, as they are now. -/
def keepF (st : St) : List Nat → List (Nat × AV)
  | [] => []
  | t :: r => (t, st.get t) :: keepF st r
def keepH (st : St) : List Nat → List (Nat × Ent)
  | [] => []
  | t :: r => match st.ent t with
    | some e => (t, e) :: keepH st r
    | none => keepH st r
def leF (st : St) : List (Nat × AV) → Prop
  | [] => True
  | (t, c) :: r => AVle (st.get t) c ∧ leF st r
def leH (st : St) : List (Nat × Ent) → Prop
  | [] => True
  | (t, e) :: r => (∃ e0, st.ent t = some e0 ∧ EntLe e0 e ∧ e.owned = e0.owned) ∧ leH st r
theorem leF_get {st : St} : ∀ {l : List (Nat × AV)}, leF st l → ∀ (hp : List (Nat × Ent)) (t : Nat), AVle (st.get t) ((⟨l, hp⟩ : St).get t)
  | [], _, hp, t => AVle.junk _
  | (s, c) :: r, h, hp, t => by
    have := St.get_cons ⟨r, hp⟩ s c hp t
    rw [this]
    by_cases hst : s = t
    · rw [if_pos hst]; subst hst; exact h.1
    · rw [if_neg hst]; exact leF_get h.2 hp t
theorem leH_ent {st : St} : ∀ {l : List (Nat × Ent)}, leH st l → ∀ (r : Nat) (e : Ent), lk r l = some e → ∃ e0, st.ent r = some e0 ∧ EntLe e0 e ∧ e.owned = e0.owned
  | [], _, r, e, h => by cases h
  | (s, e') :: l, hl, r, e, h => by
    rw [lk_cons] at h
    split at h
    · rename_i hs; subst hs; cases h; exact hl.1
    · exact leH_ent hl.2 r e h
/-- A weaker description. -/
theorem Sim.le {X : Cx} {R : Run} {ρ : Env} {M : Mem} {st : St} {a : Act} {w : World} (h : Sim X R ρ M st a w) {st' : St} (hf : leF st st'.fr) (hh : leH st st'.hp) : Sim X R ρ M st' a w :=
  ⟨h.size, h.defers, h.chg, h.m0, h.g0, h.fresh, h.pub, fun t => leF_get hf st'.hp t ρ M _ (h.slots t), fun r e he => by
    obtain ⟨e0, h1, h2, _⟩ := leH_ent hh r e he
    exact h2 _ _ _ _ (h.ents r e0 h1), fun r e g he ho => by
    obtain ⟨e0, h1, h2, h3⟩ := leH_ent hh r e he
    exact h.own r e0 g h1 (by rw [← h3]; exact ho), fun r r' e e' he he' ho ho' => by
    obtain ⟨e0, h1, h2, h3⟩ := leH_ent hh r e he
    obtain ⟨e0', h1', h2', h3'⟩ := leH_ent hh r' e' he'
    exact h.apart r r' e0 e0' h1 h1' (by rw [← h3]; exact ho) (by rw [← h3']; exact ho'), fun r e g p v he ho => by
    obtain ⟨e0, h1, h2, h3⟩ := leH_ent hh r e he
    exact h.sep r e0 g p v h1 (by rw [← h3]; exact ho), h.fix, h.drn⟩
theorem W.weak {c : Code} (st' : St) (hf : leF st st'.fr) (hh : leH st st'.hp) (h : W X n c st' Q) : W X n c st Q := ⟨fun hX R hn ρ M a w hs => h.out hX R hn ρ M a w (hs.le hf hh)⟩
theorem W.mono {c : Code} {Q' : Exit → St → Prop} (h : W X n c st Q') (hq : ∀ e st', Q' e st' → Q e st') : W X n c st Q := ⟨fun hX R hn ρ M a w hs => wp_mono (h.out hX R hn ρ M a w hs) fun e a' w' ⟨st', ρ', M', hq', hs'⟩ => ⟨st', ρ', M', hq e st' hq', hs'⟩⟩

theorem wp_loop_ix {ι : Type} {P : Program} {c : Code} {Q : Exit → Act → World → Prop} {a : Act} {w : World} (I : ι → Act → World → Prop) (μ : ι → Nat) (i0 : ι) (h₀ : I i0 a w)
    (round : ∀ i a w, I i a w → c.wp P (Exit.then (fun a' w' => ∃ i', I i' a' w' ∧ μ i' < μ i) Q) a w) : (Code.loop c).wp P Q a w := by
  intro b k cs
  have key : ∀ n i a w, μ i = n → I i a w → ∃ e a' w', Q e a' w' ∧ Arrives P (lone (b.at a (.code c :: .inLoop c :: k)) cs w) b k cs e a' w' := by
    intro n
    induction n using Nat.strongRecOn with
    | _ n ih =>
      intro i a w hn hI
      obtain ⟨e, a₁, w₁, hq, harr⟩ := round i a w hI b (.inLoop c :: k) cs
      cases e with
      | normal =>
        obtain ⟨i', hI₁, hlt⟩ := hq
        obtain ⟨e₂, a₂, w₂, hq₂, harr₂⟩ := ih (μ i') (hn ▸ hlt) i' a₁ w₁ rfl hI₁
        exact ⟨e₂, a₂, w₂, hq₂, .of_steps (Steps.trans harr (.one step_inLoop)) harr₂⟩
      | exit id => exact ⟨_, a₁, w₁, hq, .pass (x := .inLoop c) rfl (fun _ _ => .inl (by simp)) harr⟩
      | goto l => exact ⟨_, a₁, w₁, hq, .pass (x := .inLoop c) rfl (fun _ _ => .inl (by simp)) harr⟩
      | ret => exact ⟨_, a₁, w₁, hq, .pass (x := .inLoop c) rfl (fun _ _ => .inl (by simp)) harr⟩
      | panic ch => exact ⟨_, a₁, w₁, hq, .pass (x := .inLoop c) rfl (fun _ _ => .inl (by simp)) harr⟩
      | outgrown => exact ⟨_, a₁, w₁, hq, .pass (x := .inLoop c) rfl (fun _ _ => .inl (by simp)) harr⟩
  obtain ⟨e, a', w', hq, harr⟩ := key _ i0 a w rfl h₀
  exact ⟨e, a', w', hq, .of_steps (.one step_loop) harr⟩

/-- A loop: a family of descriptions, and a measure. -/
theorem W.loop {ι : Type} {c : Code} (S : ι → St) (P : ι → Prop) (μ : ι → Nat) (i0 : ι) (h0 : P i0) (hf : leF st (S i0).fr) (hh : leH st (S i0).hp)
    (round : ∀ i, P i → W X n c (S i) (fun e st' => match e with
      | .normal => ∃ i', P i' ∧ μ i' < μ i ∧ leF st' (S i').fr ∧ leH st' (S i').hp
      | e => Q e st')) : W X n (.loop c) st Q := ⟨fun hX R hn ρ M a w hs => by
  refine wp_loop_ix (I := fun i a w => P i ∧ ∃ ρ M, Sim X R ρ M (S i) a w) μ i0 ⟨h0, ρ, M, hs.le hf hh⟩ fun i a w ⟨hp, ρ, M, hs⟩ => ?_
  refine wp_mono ((round i hp).out hX R hn ρ M a w hs) fun e a' w' ⟨st', ρ', M', hq, hs'⟩ => ?_
  cases e with
  | normal =>
    obtain ⟨i', hp', hlt, hf', hh'⟩ := hq
    exact ⟨i', ⟨hp', ρ', M', hs'.le hf' hh'⟩, hlt⟩
  | _ => exact ⟨st', ρ', M', hq, hs'⟩⟩

end
end Go.Proofs.YtekdobbhkklapaaGreat
