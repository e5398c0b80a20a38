/- Contracts of functions in terms of descriptions, and calls by them. -/
import Derived.Test.YtekdobbhkklapaaGreatVk
namespace Go.Proofs.YtekdobbhkklapaaGreat
open Go Go.RowKit
set_option linter.unusedVariables false
set_option linter.unusedSimpArgs false
set_option linter.unnecessarySimpa false

/-- A description that holds wherever own blocks lie. -/
def DenP (M : Mem) (c : AV) (v : Value) : Prop := ∀ ρ, DenA ρ M c v

/-- The function is there, with a body. -/
def FnOk (P : Program) (f : FuncId) : Prop := ∃ fn, P.funcs[f]? = some fn ∧ fn.body.isNone = false ∧ (fn.name == "runtime.NumGoroutine") = false

/-- The contract: on arguments so described the function returns a result so described; nothing that was there turns. -/
structure ACalls (X : Cx) (f : FuncId) (args : List AV) (r : AV) : Prop where
  fn : FnOk X.P f
  out : ∀ (M : Mem) (w : World) (vs : List Value), X.glob M → PubOk M w → args.length = vs.length → (∀ (i : Nat) (c : AV) (v : Value), args[i]? = some c → vs[i]? = some v → DenP M c v) →
    Calls X.P f vs.toArray w fun e w' => ∃ v M', e = .returned v ∧ DenP M' r v ∧ Mem.le M M' ∧ (∀ p u, M' p = some u → M p = some u ∨ w.heap.size ≤ p.block) ∧ PubOk M' w' ∧ Below w.heap.size w w' ∧ (X.dr = true → w.drawn ≤ w'.drawn)

/-- The same where rows are public at once. -/
theorem ACalls.at {X : Cx} {l : List Nat} {f : FuncId} {args : List AV} {r : AV} (h : ACalls X f args r) : ACalls { X with pb := l } f args r := ⟨h.fn, h.out⟩
/-- All of memory, as public. -/
def allM (w : World) : Mem := fun p => match w.cell? p with
  | some v => match v.oneCell' with
    | true => some v
    | false => none
  | none => none
theorem allM_ok (w : World) : PubOk (allM w) w := fun p v hp => by
  unfold allM at hp
  cases hc : w.cell? p with
  | none => rw [hc] at hp; cases hp
  | some u =>
    rw [hc] at hp
    simp only at hp
    cases ho : u.oneCell' with
    | false => rw [ho] at hp; cases hp
    | true => rw [ho] at hp; cases hp; exact ⟨rfl, ho⟩
theorem allM_le {M : Mem} {w : World} (h : PubOk M w) : Mem.le M (allM w) := fun p v hp => by
  obtain ⟨h1, h2⟩ := h p v hp
  unfold allM
  rw [h1]
  simp only [h2]
theorem allM_of {w : World} {p : Addr} {v : Value} (h : w.cell? p = some v) (ho : v.oneCell' = true) : allM w p = some v := by
  unfold allM
  rw [h]
  simp only [ho]

/-- No memory is named. -/
def AV.plain : AV → Bool
  | .tt => true
  | .ff => true
  | .dat (.val _) => true
  | .agg cs => plainL cs
  | .tup cs => plainL cs
  | _ => false
where plainL : List AV → Bool
  | [] => true
  | c :: l => match AV.plain c with
    | true => plainL l
    | false => false
theorem AV.plainL_at : ∀ {l : List AV}, AV.plain.plainL l = true → ∀ (i : Nat) (c : AV), l[i]? = some c → c.plain = true
  | [], _, i, c, h => by simp at h
  | x :: l, h, i, c, hi => by
    simp only [AV.plain.plainL] at h
    split at h
    · rename_i hx
      cases i with
      | zero => simp at hi; subst hi; exact hx
      | succ i => exact AV.plainL_at h i c (by simpa using hi)
    · cases h
theorem AV.plain_den {ρ ρ' : Env} {M M' : Mem} {c : AV} {v : Value} (h : DenA ρ M c v) (hc : c.plain = true) : DenA ρ' M' c v := by
  induction h with
  | junk v => exact .junk v
  | tt => exact .tt
  | ff => exact .ff
  | @dat d v h =>
    cases d with
    | val x => cases h; exact .dat (.val _)
    | lst => cases hc
  | ptr => cases hc
  | ro => cases hc
  | own => cases hc
  | rptr => cases hc
  | agg cs vs hl h ih => exact .agg cs vs hl fun i c v h1 h2 => ih i c v h1 h2 (AV.plainL_at hc i c h1)
  | tup cs vs hl h ih => exact .tup cs vs hl fun i c v h1 h2 => ih i c v h1 h2 (AV.plainL_at hc i c h1)

/-- Data alone: no own block is named. -/
def AV.pure : AV → Bool
  | .tt => true
  | .ff => true
  | .dat _ => true
  | .ro .. => true
  | .agg cs => pureL cs
  | .tup cs => pureL cs
  | _ => false
where pureL : List AV → Bool
  | [] => true
  | c :: l => match AV.pure c with
    | true => pureL l
    | false => false
theorem AV.pureL_at : ∀ {l : List AV}, AV.pure.pureL l = true → ∀ (i : Nat) (c : AV), l[i]? = some c → c.pure = true
  | [], _, i, c, h => by simp at h
  | x :: l, h, i, c, hi => by
    simp only [AV.pure.pureL] at h
    split at h
    · rename_i hx
      cases i with
      | zero => simp at hi; subst hi; exact hx
      | succ i => exact AV.pureL_at h i c (by simpa using hi)
    · cases h
theorem AV.pure_den {ρ : Env} {M : Mem} {c : AV} {v : Value} (h : DenA ρ M c v) (hc : c.pure = true) : DenP M c v := by
  induction h with
  | junk v => cases hc
  | tt => exact fun _ => .tt
  | ff => exact fun _ => .ff
  | dat h => exact fun _ => .dat h
  | ptr => cases hc
  | ro n c ad u hm hd => exact fun _ => .ro n c ad u hm hd
  | own => cases hc
  | rptr => cases hc
  | agg cs vs hl h ih => exact fun ρ' => .agg cs vs hl fun i c v h1 h2 => ih i c v h1 h2 (AV.pureL_at hc i c h1) ρ'
  | tup cs vs hl h ih => exact fun ρ' => .tup cs vs hl fun i c v h1 h2 => ih i c v h1 h2 (AV.pureL_at hc i c h1) ρ'

/-- An argument that the caller has as c, handed over as d, where all of memory may be read. -/
def ArgLe (X : Cx) (st : St) (c d : AV) : Prop := ∀ R ρ M a w v, Sim X R ρ M st a w → DenA ρ M c v → DenP (allM w) d v
def ArgsLe (X : Cx) (st : St) : List AV → List AV → Prop
  | [], [] => True
  | c :: l, d :: r => ArgLe X st c d ∧ ArgsLe X st l r
  | _, _ => False
theorem ArgsLe_at {X : Cx} {st : St} : ∀ {cs ds : List AV}, ArgsLe X st cs ds → ds.length = cs.length ∧ ∀ (i : Nat) (d : AV), ds[i]? = some d → ∃ c, cs[i]? = some c ∧ ArgLe X st c d
  | [], [], _ => ⟨rfl, fun i d h => by simp at h⟩
  | c :: l, d :: r, h => by
    obtain ⟨h1, h2⟩ := ArgsLe_at h.2
    refine ⟨by simp [h1], fun i d' hi => ?_⟩
    cases i with
    | zero => simp at hi; subst hi; exact ⟨c, rfl, h.1⟩
    | succ i => obtain ⟨c', e1, e2⟩ := h2 i d' (by simpa using hi); exact ⟨c', by simpa using e1, e2⟩
  | [], _ :: _, h => h.elim
  | _ :: _, [], h => h.elim

/-- One description says at least as much as another. -/
def AVle (c d : AV) : Prop := ∀ ρ M v, DenA ρ M c v → DenA ρ M d v
theorem AVle.refl (c : AV) : AVle c c := fun _ _ _ h => h
theorem AVle.of_eq {c d : AV} (h : c = d) : AVle c d := h ▸ AVle.refl c
theorem AVle.trans {c d e : AV} (h : AVle c d) (k : AVle d e) : AVle c e := fun ρ M v hv => k ρ M v (h ρ M v hv)
theorem AVle.junk (c : AV) : AVle c .junk := fun _ _ _ _ => .junk _
theorem AVle.int {k : IntKind} {a b : Int} (h : a = b) : AVle (.dat (.val (.int k a))) (.dat (.val (.int k b))) := .of_eq (by rw [h])
theorem AVle.bool {a b : Bool} (h : a = b) : AVle (bv a) (bv b) := .of_eq (by rw [h])
theorem AVle.tt_ {b : Bool} (h : b = true) : AVle .tt (bv b) := fun ρ M v hv => by subst h; cases hv; exact .dat (.val _)
theorem AVle.ff_ {b : Bool} (h : b = false) : AVle .ff (bv b) := fun ρ M v hv => by subst h; cases hv; exact .dat (.val _)
theorem AVle.of_tt {b : Bool} (h : b = true) : AVle (bv b) .tt := fun ρ M v hv => by subst h; obtain rfl := val_of hv; exact .tt
theorem AVle.of_ff {b : Bool} (h : b = false) : AVle (bv b) .ff := fun ρ M v hv => by subst h; obtain rfl := val_of hv; exact .ff
def Dle (c d : D) : Prop := ∀ M v, DenD M c v → DenD M d v
theorem Dle.refl (c : D) : Dle c c := fun _ _ h => h
theorem Dle.of_eq {c d : D} (h : c = d) : Dle c d := h ▸ Dle.refl c
theorem Dle.lst {s n m : Nat} {f g : Nat → Nat → D} (hn : n = m) (h : ∀ i, i < n → ∀ j, j < s → Dle (f i j) (g i j)) : Dle (.lst s n f) (.lst s m g) := fun M v hv => by
  subst hn
  cases hv with
  | lst _ _ _ A cap u hn hc hA hm hd => exact .lst s n g A cap u hn hc hA hm fun i hi j hj => h i hi j hj M _ (hd i hi j hj)
theorem Dle.nil (s : Nat) (f : Nat → Nat → D) : Dle (.val (.slice none 0 0)) (.lst s 0 f) := fun M v hv => by
  cases hv
  exact .lst s 0 f none 0 (fun _ _ => undef) (Nat.le_refl _) (Nat.zero_le _) (fun _ => rfl) (fun ad e => by cases e) (fun i hi => absurd hi (by omega))
theorem AVle.dat {c d : D} (h : Dle c d) : AVle (.dat c) (.dat d) := fun ρ M v hv => by
  cases hv with
  | dat hv => exact .dat (h M v hv)
def AVsLe : List AV → List AV → Prop
  | [], [] => True
  | c :: l, d :: r => AVle c d ∧ AVsLe l r
  | _, _ => False
theorem AVsLe_at : ∀ {cs ds : List AV}, AVsLe cs ds → ds.length = cs.length ∧ ∀ (i : Nat) (d : AV), ds[i]? = some d → ∃ c, cs[i]? = some c ∧ AVle c d
  | [], [], _ => ⟨rfl, fun i d h => by simp at h⟩
  | c :: l, d :: r, h => by
    obtain ⟨h1, h2⟩ := AVsLe_at h.2
    refine ⟨by simp [h1], fun i d' hi => ?_⟩
    cases i with
    | zero => simp at hi; subst hi; exact ⟨c, rfl, h.1⟩
    | succ i => obtain ⟨c', e1, e2⟩ := h2 i d' (by simpa using hi); exact ⟨c', by simpa using e1, e2⟩
  | [], _ :: _, h => h.elim
  | _ :: _, [], h => h.elim
theorem AVle.agg {cs ds : List AV} (h : AVsLe cs ds) : AVle (.agg cs) (.agg ds) := fun ρ M v hv => by
  obtain ⟨vs, rfl, hl, hd⟩ := agg_of hv
  obtain ⟨h1, h2⟩ := AVsLe_at h
  exact .agg ds vs (by omega) fun i c v e1 e2 => by
    obtain ⟨c', e3, e4⟩ := h2 i c e1
    exact e4 _ _ _ (hd i c' v e3 e2)
theorem AVle.tup {cs ds : List AV} (h : AVsLe cs ds) : AVle (.tup cs) (.tup ds) := fun ρ M v hv => by
  obtain ⟨vs, rfl, hl, hd⟩ := tup_of hv
  obtain ⟨h1, h2⟩ := AVsLe_at h
  exact .tup ds vs (by omega) fun i c v e1 e2 => by
    obtain ⟨c', e3, e4⟩ := h2 i c e1
    exact e4 _ _ _ (hd i c' v e3 e2)

theorem DenA.all {X : Cx} {R : Run} {ρ : Env} {M : Mem} {st : St} {a : Act} {w : World} {c : AV} {v : Value} (hs : Sim X R ρ M st a w) (h : DenA ρ M c v) : DenA ρ (allM w) c v := h.keep (allM_le hs.pub) fun _ _ => rfl
theorem ArgLe.pure {X : Cx} {st : St} {c d : AV} (h : AVle c d) (hd : d.pure = true) : ArgLe X st c d := fun R ρ M a w v hs hc => AV.pure_den (h _ _ _ (hc.all hs)) hd
theorem ArgLe.refl {X : Cx} {st : St} {c : AV} (hd : c.pure = true) : ArgLe X st c c := ArgLe.pure (AVle.refl c) hd
/-- An own row, lent. -/
theorem ArgLe.own {X : Cx} {st : St} {r s lo n N : Nat} {f g : Nat → Nat → D} (hr : rowOf (st.ent r) s = some (N, f)) (hle : lo + n ≤ N) (hfg : ∀ i, i < n → ∀ j, j < s → Dle (f (lo + i) j) (g i j)) : ArgLe X st (.own r s lo n) (.dat (.lst s n g)) := by
  intro R ρ M a w v hs hc ρ'
  obtain rfl := own_of hc
  obtain ⟨hc1, hc2, hc3⟩ := rowOf_cap hs hr
  have hch : ∃ u : Nat → Nat → Value, ∀ i, i < n → ∀ j, j < s → ∀ gg, (ρ r).1 = some gg → w.cell? ⟨gg, (lo + i) * s + j, none⟩ = some (u i j) ∧ DenD M (f (lo + i) j) (u i j) ∧ (u i j).oneCell' = true := by
    cases hg : (ρ r).1 with
    | none => exact ⟨fun _ _ => undef, fun i hi => by have := hc3 hg; omega⟩
    | some gg =>
      refine ⟨fun i j => if hh : i < n ∧ j < s then (rowOf_cell hs hr hg (k := lo + i) (by omega) hh.2).choose else undef, fun i hi j hj g' hg' => ?_⟩
      cases hg'
      have hh : i < n ∧ j < s := ⟨hi, hj⟩
      simp only [dif_pos hh]
      exact (rowOf_cell hs hr hg (k := lo + i) (by omega) hh.2).choose_spec
  obtain ⟨u, hu⟩ := hch
  refine .dat (.lst s n g _ _ u (by omega) (by omega) (fun e => ?_) (fun ad e i hi j hj => ?_) (fun i hi j hj => ?_))
  · cases hg : (ρ r).1 with
    | none => have := hc3 hg; omega
    | some gg =>
      rw [hg] at e
      unfold partOf at e
      split at e
      · omega
      · simp [addrOf] at e
  · cases hg : (ρ r).1 with
    | none => have := hc3 hg; omega
    | some gg =>
      rw [partOf_some hg (by omega)] at e
      cases e
      obtain ⟨h1, _, h3⟩ := hu i hi j hj gg hg
      rw [add_off]
      rw [Nat.add_mul, Nat.add_assoc] at h1
      exact allM_of h1 h3
  · cases hg : (ρ r).1 with
    | none => have := hc3 hg; omega
    | some gg =>
      obtain ⟨_, h2, _⟩ := hu i hi j hj gg hg
      exact hfg i hi j hj _ _ (h2.mono (allM_le hs.pub))
theorem ArgLe.agg {X : Cx} {st : St} {cs ds : List AV} (h : ArgsLe X st cs ds) : ArgLe X st (.agg cs) (.agg ds) := fun R ρ M a w v hs hc ρ' => by
  obtain ⟨vs, rfl, hl, hd⟩ := agg_of hc
  obtain ⟨h1, h2⟩ := ArgsLe_at h
  exact .agg ds vs (by omega) fun i c v e1 e2 => by
    obtain ⟨c', e3, e4⟩ := h2 i c e1
    exact e4 R ρ M a w v hs (hd i c' v e3 e2) ρ'

section
variable {X : Cx} {st : St} {o : Oper}

theorem run_call {P : Program} {f : FuncId} {cl : Operand} {args : Array Operand} {ts : Array TypeId} (ho : o.op = .call { callee := .value cl, args := args, argTypes := ts }) (hf : FnOk P f) (a : Act) (hcl : a.eval cl = .func (.func f) #[] #[]) (w : World) :
    (execOp a.eval o).run P w = .ok (.enter f (args.map a.eval)) w := by
  obtain ⟨fn, h1, h2, h3⟩ := hf
  have h2' : fn.body ≠ none := fun e => by rw [e] at h2; cases h2
  have h3' : fn.name ≠ "runtime.NumGoroutine" := by simpa using h3
  unfold execOp
  simp [ho, hcl, resolve, Deferred.ofValue, invoke, callFunc, h1, h2', h3']

theorem args_den {R : Run} {ρ : Env} {M : Mem} {a : Act} {w : World} (h : Sim X R ρ M st a w) (args : Array Operand) (i : Nat) (c : AV) (hc : (args.toList.map (st.ev X))[i]? = some c) : ∃ v, (args.map a.eval).toList[i]? = some v ∧ DenA ρ M c v := by
  rw [List.getElem?_map] at hc
  cases hq : args.toList[i]? with
  | none => rw [hq] at hc; cases hc
  | some x =>
    rw [hq] at hc; cases hc
    exact ⟨a.eval x, by simp [hq], h.ev x⟩

/-- A call as one quiet step. -/
structure CallA (X : Cx) (st : St) (f : FuncId) (cs : List AV) (r : AV) : Prop where
  out : ∀ (o : Oper) (cl : Operand) (args : Array Operand) (ts : Array TypeId), o.op = .call { callee := .value cl, args := args, argTypes := ts } → st.ev X cl = .dat (.val (.func (.func f) #[] #[])) → args.toList.map (st.ev X) = cs → Astep X st o r none

/-- The result names no memory: own blocks may be lent. -/
theorem CallA.plain {f : FuncId} {cs ds : List AV} {r : AV} (hc : ACalls X f ds r) (ha : ArgsLe X st cs ds) (hr : r.plain = true) : CallA X st f cs r := by
  constructor
  intro o cl args ts ho hcl hcs R ρ M a w h K Q hk
  obtain ⟨hl, hat⟩ := ArgsLe_at ha
  have hlen : ds.length = (args.map a.eval).toList.length := by rw [hl, ← hcs]; simp
  have hC := hc.out (allM w) w (args.map a.eval).toList (Cx.glob_mono (Mem.le_trans h.m0 (allM_le h.pub)) h.g0) (allM_ok w) hlen (fun i d v h1 h2 => by
    obtain ⟨c, e1, e2⟩ := hat i d h1
    rw [← hcs] at e1
    obtain ⟨v', e3, e4⟩ := args_den h args i c e1
    rw [h2] at e3; cases e3
    exact e2 R ρ M a w v h e4)
  rw [Array.toArray_toList] at hC
  unfold Oper.wp
  rw [run_call ho hc.fn a (val_of (hcl ▸ h.ev cl)), Oper.upon_enter]
  refine hC.mono fun e w' ⟨v, M', he, hd, hle, hfr, hp, hb, hdr⟩ => ?_
  subst he
  refine hk v ρ M w' ⟨fun _ _ => rfl, Mem.le_refl _, fun p u hp => .inl hp, fun p u hp => ?_, hb, AV.plain_den (hd ρ) hr, fun e he => (by cases he), hdr⟩
  obtain ⟨h1, h2⟩ := h.pub p u hp
  exact ⟨(hb.cell (cell_lt h1)).trans h1, h2⟩

/-- An argument that names no own block. -/
def ArgP (c d : AV) : Prop := ∀ ρ M v, DenA ρ M c v → DenP M d v
theorem ArgP.of {c d : AV} (h : AVle c d) (hd : d.pure = true) : ArgP c d := fun ρ M v hc => AV.pure_den (h ρ M v hc) hd
def ArgsP : List AV → List AV → Prop
  | [], [] => True
  | c :: l, d :: r => ArgP c d ∧ ArgsP l r
  | _, _ => False
theorem ArgsP_at : ∀ {cs ds : List AV}, ArgsP cs ds → ds.length = cs.length ∧ ∀ (i : Nat) (d : AV), ds[i]? = some d → ∃ c, cs[i]? = some c ∧ ArgP c d
  | [], [], _ => ⟨rfl, fun i d h => by simp at h⟩
  | c :: l, d :: r, h => by
    obtain ⟨h1, h2⟩ := ArgsP_at h.2
    refine ⟨by simp [h1], fun i d' hi => ?_⟩
    cases i with
    | zero => simp at hi; subst hi; exact ⟨c, rfl, h.1⟩
    | succ i => obtain ⟨c', e1, e2⟩ := h2 i d' (by simpa using hi); exact ⟨c', by simpa using e1, e2⟩
  | [], _ :: _, h => h.elim
  | _ :: _, [], h => h.elim

/-- The result may name public memory: no own block is lent. -/
theorem CallA.data {f : FuncId} {cs ds : List AV} {r : AV} (hc : ACalls X f ds r) (ha : ArgsP cs ds) : CallA X st f cs r := by
  constructor
  intro o cl args ts ho hcl hcs R ρ M a w h K Q hk
  obtain ⟨hl, hat⟩ := ArgsP_at ha
  have hlen : ds.length = (args.map a.eval).toList.length := by rw [hl, ← hcs]; simp
  have hC := hc.out M w (args.map a.eval).toList (Cx.glob_mono h.m0 h.g0) h.pub hlen (fun i d v h1 h2 => by
    obtain ⟨c, e1, e2⟩ := hat i d h1
    rw [← hcs] at e1
    obtain ⟨v', e3, e4⟩ := args_den h args i c e1
    rw [h2] at e3; cases e3
    exact e2 ρ M v e4)
  rw [Array.toArray_toList] at hC
  unfold Oper.wp
  rw [run_call ho hc.fn a (val_of (hcl ▸ h.ev cl)), Oper.upon_enter]
  refine hC.mono fun e w' ⟨v, M', he, hd, hle, hfr, hp, hb, hdr⟩ => ?_
  subst he
  exact hk v ρ M' w' ⟨fun _ _ => rfl, hle, hfr, hp, hb, hd ρ, fun e he => (by cases he), hdr⟩

end
end Go.Proofs.YtekdobbhkklapaaGreat
