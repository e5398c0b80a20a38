/- Types by tables; loops with what stays; regions that draw, by a table. -/
import Derived.Test.YtekdobbhkklapaaGreatVp
namespace Go.Proofs.YtekdobbhkklapaaGreat
open Go Go.RowKit
set_option linter.unusedVariables false
set_option linter.unusedSimpArgs false

theorem TIok.mk {P : Program} {t : TypeId} {ti : TI} {d : TypeDesc} (hu : P.underlying t = some d) (ha : aggOf d = ti.k.agg) (hn : ∀ ms, d ≠ .interface ms) (hi : (P.info? t).map (fun i => (i.size, i.zero)) = some (ti.size, some ti.zero))
    (hk : match ti.k with
      | .cell => True
      | .struct fs => ∃ fields, P.underlying t = some (.struct fields) ∧ fields.size = fs.length ∧ ∀ (i : Nat) (off sz : Nat), fs[i]? = some (off, sz) → ∃ f, fields[i]? = some f ∧ f.offset = off ∧ ∃ fi, P.info? f.type = some fi ∧ fi.size = sz ∧ sz ≠ 0
      | .slice E es eb ez => P.underlying t = some (.slice E) ∧ ∃ i, P.info? E = some i ∧ i.size = es ∧ i.bytes = eb ∧ i.zero = some ez
      | .arr n E es => P.underlying t = some (.array n E) ∧ ∃ i, P.info? E = some i ∧ i.size = es
      | .str => P.underlying t = some .string
      | .int k => P.underlying t = some (.int k)
      | .bool => P.underlying t = some .bool) : TIok P t ti := by
  refine ⟨⟨d, hu, ha, hn⟩, ?_, hk⟩
  cases hq : P.info? t with
  | none => rw [hq] at hi; cases hi
  | some i =>
    rw [hq] at hi
    simp at hi
    exact ⟨i, rfl, hi.1, hi.2⟩
theorem slice_ok {P : Program} {t E es eb : Nat} {ez : Value} (hu : P.underlying t = some (.slice E)) (hi : (P.info? E).map (fun i => (i.size, i.bytes, i.zero)) = some (es, eb, some ez)) : P.underlying t = some (.slice E) ∧ ∃ i, P.info? E = some i ∧ i.size = es ∧ i.bytes = eb ∧ i.zero = some ez := by
  refine ⟨hu, ?_⟩
  cases hq : P.info? E with
  | none => rw [hq] at hi; cases hi
  | some i =>
    rw [hq] at hi
    simp at hi
    exact ⟨i, rfl, hi.1, hi.2.1, hi.2.2⟩
theorem arr_ok {P : Program} {t n E es : Nat} (hu : P.underlying t = some (.array n E)) (hi : (P.info? E).map (fun i => i.size) = some es) : P.underlying t = some (.array n E) ∧ ∃ i, P.info? E = some i ∧ i.size = es := by
  refine ⟨hu, ?_⟩
  cases hq : P.info? E with
  | none => rw [hq] at hi; cases hi
  | some i =>
    rw [hq] at hi
    simp at hi
    exact ⟨i, rfl, hi⟩
def fieldsB (P : Program) : List Field → List (Nat × Nat) → Bool
  | [], [] => true
  | f :: l, (off, sz) :: r => Nat.beq f.offset off && (match P.info? f.type with
    | some i => Nat.beq i.size sz && Nat.ble 1 sz
    | none => false) && fieldsB P l r
  | _, _ => false
theorem fieldsB_at {P : Program} : ∀ {l : List Field} {fs : List (Nat × Nat)}, fieldsB P l fs = true → l.length = fs.length ∧ ∀ (i : Nat) (off sz : Nat), fs[i]? = some (off, sz) → ∃ f, l[i]? = some f ∧ f.offset = off ∧ ∃ fi, P.info? f.type = some fi ∧ fi.size = sz ∧ sz ≠ 0
  | [], [], _ => ⟨rfl, fun i off sz h => by simp at h⟩
  | f :: l, (off0, sz0) :: r, h => by
    simp only [fieldsB, Bool.and_eq_true] at h
    obtain ⟨⟨h1, h2⟩, h3⟩ := h
    obtain ⟨h4, h5⟩ := fieldsB_at h3
    refine ⟨by simp [h4], fun i off sz hi => ?_⟩
    cases i with
    | zero =>
      simp at hi
      obtain ⟨rfl, rfl⟩ := hi
      split at h2
      · rename_i fi hfi
        rw [Bool.and_eq_true] at h2
        have := Nat.le_of_ble_eq_true h2.2
        exact ⟨f, rfl, Nat.eq_of_beq_eq_true h1, fi, hfi, Nat.eq_of_beq_eq_true h2.1, by omega⟩
      · cases h2
    | succ i =>
      obtain ⟨f', e1, e2⟩ := h5 i off sz (by simpa using hi)
      exact ⟨f', by simpa using e1, e2⟩
  | [], _ :: _, h => by cases h
  | _ :: _, [], h => by cases h
theorem fields_ok {P : Program} {t : Nat} {fields : Array Field} {fs : List (Nat × Nat)} (hu : P.underlying t = some (.struct fields)) (hb : fieldsB P fields.toList fs = true) :
    ∃ fields, P.underlying t = some (.struct fields) ∧ fields.size = fs.length ∧ ∀ (i : Nat) (off sz : Nat), fs[i]? = some (off, sz) → ∃ f, fields[i]? = some f ∧ f.offset = off ∧ ∃ fi, P.info? f.type = some fi ∧ fi.size = sz ∧ sz ≠ 0 := by
  obtain ⟨h1, h2⟩ := fieldsB_at hb
  refine ⟨fields, hu, by simpa using h1, fun i off sz hi => ?_⟩
  obtain ⟨f, e1, e2⟩ := h2 i off sz hi
  exact ⟨f, by simpa using e1, e2⟩
def tiAllP (P : Program) : List (Nat × TI) → Prop
  | [] => True
  | (t, ti) :: l => TIok P t ti ∧ tiAllP P l
theorem tiAll {P : Program} : ∀ (l : List (Nat × TI)), tiAllP P l → ∀ t ti, lk t l = some ti → TIok P t ti
  | [], _, t, ti, h => by cases h
  | (t0, ti0) :: l, h, t, ti, hl => by
    rw [lk_cons] at hl
    split at hl
    · rename_i he; subst he; cases hl; exact h.1
    · exact tiAll l h.2 t ti hl

section
variable {X : Cx} {n : Nat} {st : St} {Q : Exit → St → Prop}

/-- An empty slice that is nil, as a row of one's own. -/
theorem W.adopt {c : Code} (t r E s : Nat) (f : Nat → Nat → D) (ht : st.get t = .dat (.val (.slice none 0 0))) (hf : cleanF r st.fr = true) (hh : cleanH r st.hp = true) (hr : AV.uses r (st.get r) = false)
    (h : St.un st fun fr hp => W X n c ⟨(t, .own r s 0 0) :: fr, (r, .row E s 0 f) :: hp⟩ Q) (hkr : kp r = false := by exact rfl) : W X n c st Q := ⟨fun hX R hn ρ M a w hsim => by
  have hne : ∀ k, k ≠ r → upd ρ r (none, 0) k = ρ k := fun k hk => upd_ne ρ hk _
  have hslot : ∀ u, AV.uses r (st.get u) = false := fun u => by
    by_cases hu : u = r
    · subst hu; exact hr
    · exact get_uses hf hu
  refine (show W X n c ⟨(t, .own r s 0 0) :: st.fr, (r, .row E s 0 f) :: st.hp⟩ Q from h).out hX R hn (upd ρ r (none, 0)) M a w ?_
  have hents : ∀ k q, (⟨(t, .own r s 0 0) :: st.fr, (r, .row E s 0 f) :: st.hp⟩ : St).ent k = some q → (k = r ∧ q = .row E s 0 f) ∨ (k ≠ r ∧ st.ent k = some q) := fun k q hq => by
    have hq' : lk k ((r, .row E s 0 f) :: st.hp) = some q := hq
    rw [lk_cons] at hq'
    split at hq'
    · rename_i hrk; cases hq'; exact .inl ⟨hrk.symm, rfl⟩
    · rename_i hrk; exact .inr ⟨fun e => hrk e.symm, hq'⟩
  refine ⟨hsim.size, hsim.defers, hsim.chg, hsim.m0, hsim.g0, hsim.fresh, hsim.pub, fun u => ?_, fun k q hq => ?_, fun k q g hq ho hg => ?_, fun k k' q q' hq hq' ho ho' hkk g hg hg' => ?_, fun k q g p v hq ho hg hp => ?_, fun k hk => (hne k fun e => by rw [e, hkr] at hk; cases hk).trans (hsim.fix k hk), hsim.drn⟩
  · have := St.get_cons st t (.own r s 0 0) ((r, .row E s 0 f) :: st.hp) u
    rw [this]
    by_cases hu : t = u
    · subst hu
      rw [if_pos rfl]
      have h1 := hsim.slots t
      rw [ht] at h1
      have h2 := val_of h1
      rw [h2]
      have := DenA.own (ρ := upd ρ r (none, 0)) (M := M) r s 0 0
      rw [upd_same, partOf_zero] at this
      exact this
    · rw [if_neg hu]
      exact (hsim.slots u).keep (Mem.le_refl _) fun k hk => hne k fun e => by subst e; rw [hslot u] at hk; cases hk
  · rcases hents k q hq with ⟨rfl, rfl⟩ | ⟨hk, h1⟩
    · refine ⟨[], ?_, fun i hi => absurd hi (by omega)⟩
      rw [upd_same]
      exact World.ownsRow_nil w 0 E s
    · exact (hsim.ents k q h1).keep (Mem.le_refl _) (hne k hk) (fun j hj => hne j fun e => by
        subst e
        rw [cleanH_get hh hk q h1] at hj; cases hj) fun _ _ _ _ => rfl
  · rcases hents k q hq with ⟨rfl, rfl⟩ | ⟨hk, h1⟩
    · rw [upd_same] at hg; cases hg
    · rw [hne k hk] at hg; exact hsim.own k q g h1 ho hg
  · rcases hents k q hq with ⟨rfl, rfl⟩ | ⟨hk, h1⟩
    · rw [upd_same] at hg; cases hg
    · rcases hents k' q' hq' with ⟨rfl, rfl⟩ | ⟨hk', h1'⟩
      · rw [upd_same] at hg'; cases hg'
      · rw [hne k hk] at hg; rw [hne k' hk'] at hg'
        exact hsim.apart k k' q q' h1 h1' ho ho' hkk g hg hg'
  · rcases hents k q hq with ⟨rfl, rfl⟩ | ⟨hk, h1⟩
    · rw [upd_same] at hg; cases hg
    · rw [hne k hk] at hg; exact hsim.sep k q g p v h1 ho hg hp⟩

theorem leF_keep (st : St) : ∀ l : List Nat, leF st (keepF st l)
  | [] => trivial
  | t :: r => ⟨AVle.refl _, leF_keep st r⟩
theorem leH_keep (st : St) : ∀ l : List Nat, leH st (keepH st l)
  | [] => trivial
  | t :: r => by
    unfold keepH
    split
    · rename_i e he
      exact ⟨⟨e, he, EntLe.refl e, rfl⟩, leH_keep st r⟩
    · exact leH_keep st r
theorem leF_app {st : St} : ∀ {l m : List (Nat × AV)}, leF st l → leF st m → leF st (l ++ m)
  | [], _, _, h => h
  | _ :: _, _, h, h' => ⟨h.1, leF_app h.2 h'⟩
theorem leH_app {st : St} : ∀ {l m : List (Nat × Ent)}, leH st l → leH st m → leH st (l ++ m)
  | [], _, _, h => h
  | _ :: _, _, h, h' => ⟨h.1, leH_app h.2 h'⟩
/-- The slots that are wanted, written out. -/
def keepFK (st : St) : List Nat → (List (Nat × AV) → Prop) → Prop
  | [], K => K []
  | t :: r, K => force (st.get t) fun c => keepFK st r fun l => K ((t, c) :: l)
def keepHK (st : St) : List Nat → (List (Nat × Ent) → Prop) → Prop
  | [], K => K []
  | t :: r, K => match st.ent t with
    | some e => forceE e fun e => keepHK st r fun l => K ((t, e) :: l)
    | none => keepHK st r K
theorem keepFK_eq (st : St) : ∀ (l : List Nat) (K : List (Nat × AV) → Prop), keepFK st l K = K (keepF st l)
  | [], K => rfl
  | t :: r, K => by
    show force (st.get t) _ = _
    rw [force_eq, keepFK_eq st r]
    rfl
theorem keepHK_eq (st : St) : ∀ (l : List Nat) (K : List (Nat × Ent) → Prop), keepHK st l K = K (keepH st l)
  | [], K => rfl
  | t :: r, K => by
    unfold keepHK keepH
    split
    · rename_i e he
      rw [forceE_eq, keepHK_eq st r, he]
    · rename_i he
      rw [keepHK_eq st r, he]
/-- A loop: slots and own blocks that stay as they are at its beginning are named by number, those that turn are said. -/
theorem W.loopK {ι : Type} {c : Code} (live lrefs : List Nat) (inv : ι → List (Nat × AV)) (hinv : ι → List (Nat × Ent)) (P : ι → Prop) (μ : ι → Nat) (i0 : ι) (h0 : P i0) (hf : leF st (inv i0)) (hh : leH st (hinv i0))
    (round : keepFK st live fun lf => keepHK st lrefs fun lh => ∀ i, P i → W X n c ⟨inv i ++ lf, hinv i ++ lh⟩ (fun e st' => match e with
      | .normal => ∃ i', P i' ∧ μ i' < μ i ∧ leF st' (inv i') ∧ leH st' (hinv i') ∧ leF st' lf ∧ leH st' lh
      | e => Q e st')) : W X n (.loop c) st Q := by
  rw [keepFK_eq, keepHK_eq] at round
  refine W.loop (fun i => ⟨inv i ++ keepF st live, hinv i ++ keepH st lrefs⟩) P μ i0 h0 (leF_app hf (leF_keep st live)) (leH_app hh (leH_keep st lrefs)) fun i hi => ?_
  refine (round i hi).mono fun e st' hq => ?_
  cases e with
  | normal =>
    obtain ⟨i', h1, h2, h3, h4, h5, h6⟩ := hq
    exact ⟨i', h1, h2, leF_app h3 h5, leH_app h4 h6⟩
  | _ => exact hq

theorem W.drawT {id : Nat} {ms : List Nat} {drs : List (Option Nat × Option Nat)} {l : List Oper} (tb : List (Nat × (List Nat × List (Option Nat × Option Nat)))) (ht : lk id tb = some (ms, drs)) (hm : X.P.follows .mixedOrders = true) (hB : drawB n l ms drs = true)
    (h : exD X n l ms drs st l ms drs 0 [] fun effs => CndK (apartB ms effs drs 0 = true) (Q .normal (vw (fun _ => .app) drs effs 0 st))) : W X n (.region id l.toArray true) st Q :=
  W.draw ms drs hm hB h
/-- The table where rows that are public at once are no blocks of one's own. -/
def drP (l : List Nat) : List (Option Nat × Option Nat) → List (Option Nat × Option Nat)
  | [] => []
  | (d, r) :: t => match hasN d l with
    | true => (d, none) :: drP l t
    | false => (d, r) :: drP l t
theorem W.drawP {id : Nat} {ms : List Nat} {drs0 : List (Option Nat × Option Nat)} {l : List Oper} (tb : List (Nat × (List Nat × List (Option Nat × Option Nat)))) (ht : lk id tb = some (ms, drs0)) (hm : X.P.follows .mixedOrders = true) (hB : drawB n l ms (drP X.pb drs0) = true)
    (h : exD X n l ms (drP X.pb drs0) st l ms (drP X.pb drs0) 0 [] fun effs => CndK (apartB ms effs (drP X.pb drs0) 0 = true) (Q .normal (vw (fun _ => .app) (drP X.pb drs0) effs 0 st))) : W X n (.region id l.toArray true) st Q :=
  W.draw ms (drP X.pb drs0) hm hB h
end
theorem wrapOk {z : Int} (h : -9223372036854775808 ≤ z ∧ z ≤ 9223372036854775807) : z = IntKind.i64.wrap z := by rw [IntKind.wrap_i64]; omega
theorem wrapU {z : Int} (h : 0 ≤ z ∧ z ≤ 18446744073709551615) : z = IntKind.u64.wrap z := by unfold IntKind.wrap; simp [IntKind.signed, IntKind.bits]; omega
theorem divOk {a b : Int} (ha : 0 ≤ a) (hb : 0 < b) (hm : a ≤ 9223372036854775807) : a / b = IntKind.i64.wrap (a.tdiv b) := by
  rw [Int.tdiv_eq_ediv_of_nonneg ha]
  refine wrapOk ⟨?_, ?_⟩
  · have := Int.ediv_nonneg ha (Int.le_of_lt hb); omega
  · have := Int.ediv_le_self b ha; omega
theorem CallA.pl {X : Cx} {st : St} {f : FuncId} {cs ds : List AV} {r : AV} (ha : ArgsLe X st cs ds) (hc : ACalls X f ds r) (hr : r.plain = true) : CallA X st f cs r := CallA.plain hc ha hr
theorem modOk {a b c : Int} (ha : 0 ≤ a) (hb : 0 < b) (hc : 0 ≤ c) (hm : b + c ≤ 9223372036854775807) : a % b + c = IntKind.i64.wrap (a.tmod b + c) := by
  rw [Int.tmod_eq_emod_of_nonneg ha]
  have h1 := Int.emod_nonneg a (show b ≠ 0 by omega)
  have h2 := Int.emod_lt_of_pos a hb
  exact wrapOk ⟨by omega, by omega⟩
def pureL : List AV → Bool
  | [] => true
  | c :: l => match c.pure with
    | true => pureL l
    | false => false
theorem ArgsLe.refl {X : Cx} {st : St} : ∀ {cs : List AV}, pureL cs = true → ArgsLe X st cs cs
  | [], _ => trivial
  | c :: l, h => by
    unfold pureL at h
    split at h
    · rename_i hc
      exact ⟨ArgLe.refl hc, ArgsLe.refl h⟩
    · cases h
theorem CallA.p2 {X : Cx} {st : St} {f : FuncId} {ds : List AV} {r : AV} (hp : pureL ds = true) (hc : ACalls X f ds r) (hr : r.plain = true) : CallA X st f ds r := CallA.plain hc (ArgsLe.refl hp) hr
end Go.Proofs.YtekdobbhkklapaaGreat
