/- Appends. -/
import Derived.Test.YtekdobbhkklapaaGreatVj
namespace Go.Proofs.YtekdobbhkklapaaGreat
open Go Go.RowKit
set_option linter.unusedVariables false
set_option linter.unusedSimpArgs false
set_option linter.unnecessarySimpa false

def AV.junkR (r : Nat) (c : AV) : AV := match AV.uses r c with
  | true => .junk
  | false => c
theorem AV.junkR_den {ρ ρ' : Env} {M M' : Mem} {r : Nat} {c : AV} {v : Value} (hM : Mem.le M M') (hρ : ∀ k, k ≠ r → ρ' k = ρ k) (h : DenA ρ M c v) : DenA ρ' M' (c.junkR r) v := by
  unfold AV.junkR
  split
  · exact .junk v
  · rename_i hu
    refine h.keep hM fun k hk => hρ k fun e => ?_
    subst e
    rw [hu] at hk; cases hk
theorem usesL_map_junk (r k : Nat) : ∀ cs : List AV, AV.uses.usesL k (cs.map (AV.junkR r)) = true → AV.uses.usesL k cs = true
  | [], h => h
  | c :: l, h => by
    simp only [List.map_cons, AV.uses.usesL, Bool.or_eq_true] at h ⊢
    rcases h with h | h
    · left
      unfold AV.junkR at h
      split at h
      · cases h
      · exact h
    · exact .inr (usesL_map_junk r k l h)
def junkF (r : Nat) (fr : List (Nat × AV)) : List (Nat × AV) := fr.map fun q => (q.1, AV.junkR r q.2)
def Ent.junkR (r : Nat) : Ent → Ent
  | .blk t cs => .blk t (cs.map (AV.junkR r))
  | e => e
def junkH (r : Nat) (hp : List (Nat × Ent)) : List (Nat × Ent) := hp.map fun q => (q.1, Ent.junkR r q.2)
theorem lk_map {α β : Type} (f : α → β) (k : Nat) : ∀ l : List (Nat × α), lk k (l.map fun q => (q.1, f q.2)) = (lk k l).map f
  | [] => rfl
  | (i, x) :: r => by
    simp only [List.map_cons, lk_cons, lk_map f k r]
    split <;> rfl
theorem get_junk (r : Nat) (st : St) (hp : List (Nat × Ent)) (s : Nat) : (⟨junkF r st.fr, hp⟩ : St).get s = AV.junkR r (st.get s) := by
  unfold St.get junkF
  rw [lk_map]
  cases lk s st.fr <;> rfl
theorem Ent.junkR_owned (r : Nat) (e : Ent) : (Ent.junkR r e).owned = e.owned := by cases e <;> rfl

/-- Own row r has been made longer, in its place or in a new block; whoever named it before is forgotten. -/
theorem Sim.regrow {X : Cx} {R : Run} {ρ : Env} {M : Mem} {st : St} {a : Act} {w w' : World} {r dt : Nat} {ob : Option Nat} {b' : Option Nat} {cap' : Nat} {E : TypeId} {s n : Nat} {f : Nat → Nat → D} {v : Value}
    (h : Sim X R ρ M st a w) (hob : ∀ g, ob = some g → ∃ e, st.ent r = some e ∧ e.owned = true ∧ (ρ r).1 = some g) (hgr : w.grownBy w' ob) (hb : b' = ob ∨ b' = some w.heap.size)
    (hok : EntOk (upd ρ r (b', cap')) M w' r (.row E s n f)) (hv : v = .slice (addrOf b') n cap') (hdt : dt < R.n) (hkr : kp r = false) (hdr : w.drawn ≤ w'.drawn) :
    Sim X R (upd ρ r (b', cap')) M ⟨(dt, .own r s 0 n) :: junkF r st.fr, (r, .row E s n f) :: junkH r st.hp⟩ (a.put (some dt) v) w' := by
  have hne : ∀ k, k ≠ r → upd ρ r (b', cap') k = ρ k := fun k hk => upd_ne ρ hk _
  have hcell : ∀ g, g < w.heap.size → ob ≠ some g → w'.heap[g]? = w.heap[g]? := fun g hg hn => hgr.block g hg (fun e => hn e.symm)
  have hpub : PubOk M w' := fun p u hp => by
    obtain ⟨h1, h2⟩ := h.pub p u hp
    refine ⟨(World.cell?_of_block (hcell _ (cell_lt h1) fun hpo => ?_)).trans h1, h2⟩
    obtain ⟨e, he, ho, hg⟩ := hob _ hpo
    exact h.sep r e p.block p u he ho hg hp rfl
  have hents : ∀ k q, (⟨(dt, .own r s 0 n) :: junkF r st.fr, (r, .row E s n f) :: junkH r st.hp⟩ : St).ent k = some q → (k = r ∧ q = .row E s n f) ∨ (k ≠ r ∧ ∃ q0, st.ent k = some q0 ∧ q = Ent.junkR r q0) := fun k q hq => by
    have hq' : lk k ((r, .row E s n f) :: junkH r st.hp) = some q := hq
    rw [lk_cons] at hq'
    split at hq'
    · rename_i hrk; cases hq'; exact .inl ⟨hrk.symm, rfl⟩
    · rename_i hrk
      unfold junkH at hq'
      rw [lk_map] at hq'
      cases hl : lk k st.hp with
      | none => rw [hl] at hq'; cases hq'
      | some q0 => rw [hl] at hq'; cases hq'; exact .inr ⟨fun e => hrk e.symm, q0, hl, rfl⟩
  have hbnew : ∀ g, b' = some g → (ob = some g ∨ w.heap.size ≤ g) := fun g hg => by
    rcases hb with hb | hb
    · exact .inl (hb ▸ hg)
    · rw [hb] at hg; cases hg; exact .inr (Nat.le_refl _)
  refine ⟨by rw [put_sz]; exact h.size, by rw [put_df]; exact h.defers, ?_, h.m0, h.g0, h.fresh, hpub, fun t => ?_, fun k q hq => ?_, fun k q g hq ho hg => ?_, fun k k' q q' hq hq' ho ho' hkk g hg hg' => ?_, fun k q g p u hq ho hg hp => ?_, fun k hk => (hne k fun e => by rw [e, hkr] at hk; cases hk).trans (h.fix k hk), fun hd => Nat.le_trans (h.drn hd) hdr⟩
  · refine ⟨hgr.os.trans h.chg.os, hgr.tape.trans h.chg.tape, hgr.output.trans h.chg.output, Nat.le_trans h.chg.size hgr.size, fun k hk hn => (hcell k (Nat.lt_of_lt_of_le hk h.chg.size) fun hko => ?_).trans (h.chg.block k hk hn)⟩
    obtain ⟨e, he, ho, hg⟩ := hob k hko
    rcases h.own r e k he ho hg with h1 | h1
    · omega
    · exact hn (R.hsub _ _ h1.2)
  · rw [put_get a dt v (by rw [h.size]; exact hdt)]
    have e1 : (⟨(dt, .own r s 0 n) :: junkF r st.fr, (r, .row E s n f) :: junkH r st.hp⟩ : St).get t = if dt = t then .own r s 0 n else AV.junkR r (st.get t) := by
      have := St.get_cons ⟨junkF r st.fr, st.hp⟩ dt (.own r s 0 n) ((r, .row E s n f) :: junkH r st.hp) t
      rw [this, get_junk]
    rw [e1]
    by_cases htt : dt = t
    · rw [if_pos htt, if_pos htt, hv]
      have := DenA.own (ρ := upd ρ r (b', cap')) (M := M) r s 0 n
      rw [upd_same, partOf_zero, Nat.sub_zero] at this
      exact this
    · rw [if_neg htt, if_neg htt]
      exact AV.junkR_den (Mem.le_refl _) hne (h.slots t)
  · rcases hents k q hq with ⟨rfl, rfl⟩ | ⟨hkr, q0, h1, rfl⟩
    · exact hok
    · have h0 := h.ents k q0 h1
      have hblk : ∀ g, q0.owned = true → (ρ k).1 = some g → g < w.heap.size → w'.heap[g]? = w.heap[g]? := fun g ho hg hlt => hcell g hlt fun hgo => by
        obtain ⟨e, he, ho', hg'⟩ := hob g hgo
        exact h.apart k r q0 e h1 he ho ho' hkr g hg hg'
      cases q0 with
      | blk t cs =>
        obtain ⟨g, vs, e1, e3, e4, e5⟩ := h0
        refine ⟨g, vs, by rw [hne k hkr]; exact e1, by rw [hblk g rfl e1 (Array.getElem?_eq_some_iff.1 e3).1]; exact e3, by simpa using e4, fun i c u hi hu => ?_⟩
        rw [List.getElem?_map] at hi
        cases hci : cs[i]? with
        | none => rw [hci] at hi; cases hi
        | some c0 =>
          rw [hci] at hi; cases hi
          exact AV.junkR_den (Mem.le_refl _) hne (e5 i c0 u hci hu)
      | row E' s' n' f' => exact h0.keep (Mem.le_refl _) (hne k hkr) (fun _ hu => by cases hu) hblk
      | pub s' n' f' => exact h0.keep (Mem.le_refl _) (hne k hkr) (fun _ hu => by cases hu) hblk
      | dead => trivial
  · rcases hents k q hq with ⟨rfl, rfl⟩ | ⟨hkr, q0, h1, rfl⟩
    · rw [upd_same] at hg
      rcases hbnew g hg with h2 | h2
      · obtain ⟨e, he, ho', hg'⟩ := hob g h2
        exact h.own k e g he ho' hg'
      · have := h.chg.size
        exact .inl (by omega)
    · rw [hne k hkr] at hg
      rw [Ent.junkR_owned] at ho
      exact h.own k q0 g h1 ho hg
  · rcases hents k q hq with ⟨rfl, rfl⟩ | ⟨hkr, q0, h1, rfl⟩
    · rcases hents k' q' hq' with ⟨rfl, rfl⟩ | ⟨hkr', q0', h1', rfl⟩
      · exact hkk rfl
      · rw [upd_same] at hg
        rw [hne k' hkr'] at hg'
        rw [Ent.junkR_owned] at ho'
        rcases hbnew g hg with h2 | h2
        · obtain ⟨e, he, hoe, hge⟩ := hob g h2
          exact h.apart k k' e q0' he h1' hoe ho' hkk g hge hg'
        · have := (h.ents k' q0' h1').lt ho' g hg'
          omega
    · rw [hne k hkr] at hg
      rw [Ent.junkR_owned] at ho
      rcases hents k' q' hq' with ⟨rfl, rfl⟩ | ⟨hkr', q0', h1', rfl⟩
      · rw [upd_same] at hg'
        rcases hbnew g hg' with h2 | h2
        · obtain ⟨e, he, hoe, hge⟩ := hob g h2
          exact h.apart k k' q0 e h1 he ho hoe hkk g hg hge
        · have := (h.ents k q0 h1).lt ho g hg
          omega
      · rw [hne k' hkr'] at hg'
        rw [Ent.junkR_owned] at ho'
        exact h.apart k k' q0 q0' h1 h1' ho ho' hkk g hg hg'
  · rcases hents k q hq with ⟨rfl, rfl⟩ | ⟨hkr, q0, h1, rfl⟩
    · rw [upd_same] at hg
      rcases hbnew g hg with h2 | h2
      · obtain ⟨e, he, hoe, hge⟩ := hob g h2
        exact h.sep k e g p u he hoe hge hp
      · have := cell_lt (h.pub p u hp).1
        omega
    · rw [hne k hkr] at hg
      rw [Ent.junkR_owned] at ho
      exact h.sep k q0 g p u h1 ho hg hp

/-- What is appended: so many elements. -/
def srcK (X : Cx) (st : St) (s : Nat) (y : Operand) (K : Nat → (Nat → Nat → D) → Prop) : Prop := match st.ev X y with
  | .dat (.lst s' m g) => match Nat.beq s s' with
    | true => K m g
    | false => False
  | .own r s' lo m => match Nat.beq s s' with
    | true => match rowOf (st.ent r) s with
      | some (N, f) => CndK (lo + m ≤ N) (K m (fun i j => f (lo + i) j))
      | none => False
    | false => False
  | .dat (.val (.slice none 0 0)) => K 0 (fun _ _ => .val undef)
  | _ => False

def Src (M : Mem) (w : World) (s : Nat) (v : Value) (m : Nat) (g : Nat → Nat → D) : Prop :=
  ∃ A c, v = .slice A m c ∧ (A = none → m = 0 ∧ c = 0) ∧ ∃ news : List Value, news.length = m * s ∧ (∀ ad, A = some ad → ∀ (j : Nat) (u : Value), news[j]? = some u → w.cell? (ad.add j) = some u) ∧ (∀ u ∈ news, u.oneCell' = true) ∧ ∀ i, i < m → ∀ j, j < s → ∃ u, news[i * s + j]? = some u ∧ DenD M (g i j) u

theorem src_list {M : Mem} {w : World} {s m : Nat} {g : Nat → Nat → D} {P : Nat → Value → Prop} (h : ∀ i, i < m → ∀ j, j < s → ∃ u, P (i * s + j) u ∧ DenD M (g i j) u ∧ u.oneCell' = true) :
    ∃ news : List Value, news.length = m * s ∧ (∀ (j : Nat) (u : Value), news[j]? = some u → P j u) ∧ (∀ u ∈ news, u.oneCell' = true) ∧ ∀ i, i < m → ∀ j, j < s → ∃ u, news[i * s + j]? = some u ∧ DenD M (g i j) u := by
  have hdm : ∀ k, k < m * s → k / s < m ∧ k % s < s ∧ k / s * s + k % s = k := fun k hk => by
    have hs : 0 < s := Nat.pos_of_ne_zero fun e => by subst e; simp at hk
    exact ⟨Nat.div_lt_of_lt_mul (by rw [Nat.mul_comm]; exact hk), Nat.mod_lt _ hs, Nat.div_add_mod' k s⟩
  have hall : ∀ k, k < m * s → ∃ u, P k u ∧ DenD M (g (k / s) (k % s)) u ∧ u.oneCell' = true := fun k hk => by
    obtain ⟨h1, h2, h3⟩ := hdm k hk
    obtain ⟨u, e1, e2, e3⟩ := h _ h1 _ h2
    exact ⟨u, by rw [h3] at e1; exact e1, e2, e3⟩
  refine ⟨(List.range (m * s)).map fun k => if hk : k < m * s then (hall k hk).choose else undef, by simp, fun j u hu => ?_, fun u hu => ?_, fun i hi j hj => ?_⟩
  · obtain ⟨hj, rfl⟩ := range_map_at hu
    simp only [dif_pos hj]
    exact (hall j hj).choose_spec.1
  · obtain ⟨k, hk, rfl⟩ := List.mem_map.1 hu
    have hk := List.mem_range.1 hk
    simp only [dif_pos hk]
    exact (hall k hk).choose_spec.2.2
  · have hij : i * s + j < m * s := by
      have : (i + 1) * s ≤ m * s := Nat.mul_le_mul_right s hi
      rw [Nat.add_mul, Nat.one_mul] at this
      omega
    refine ⟨(hall _ hij).choose, by simp [hij], ?_⟩
    have := (hall _ hij).choose_spec.2.1
    have hs : 0 < s := by omega
    generalize (hall _ hij).choose = q at this ⊢
    rwa [show (i * s + j) / s = i by rw [Nat.mul_comm, Nat.mul_add_div hs, Nat.div_eq_of_lt hj, Nat.add_zero], show (i * s + j) % s = j by rw [Nat.mul_comm, Nat.mul_add_mod]; exact Nat.mod_eq_of_lt hj] at this

theorem src_den {X : Cx} {R : Run} {ρ : Env} {M : Mem} {st : St} {a : Act} {w : World} (h : Sim X R ρ M st a w) {s : Nat} {y : Operand} {K : Nat → (Nat → Nat → D) → Prop} (hs : srcK X st s y K) : ∃ m g, K m g ∧ Src M w s (a.eval y) m g := by
  unfold srcK at hs
  split at hs
  · rename_i s' m g hy
    split at hs
    · rename_i hb
      obtain rfl := Nat.eq_of_beq_eq_true hb
      obtain ⟨A, cap, u, hv, hn, hc, hA, hm, hd⟩ := lst_of (hy ▸ h.ev y)
      refine ⟨m, g, hs, A, cap, hv, fun e => ⟨by have := hA e; omega, hA e⟩, ?_⟩
      cases A with
      | none =>
        have := hA rfl
        obtain rfl : m = 0 := by omega
        exact ⟨[], by simp, fun ad e => (by cases e), fun u hu => (by cases hu), fun i hi => absurd hi (by omega)⟩
      | some ad =>
        obtain ⟨news, h1, h2, h3, h4⟩ := src_list (w := w) (P := fun k u => w.cell? (ad.add k) = some u) (fun i hi j hj => ⟨u i j, (h.pub _ _ (hm ad rfl i hi j hj)).1, hd i hi j hj, (h.pub _ _ (hm ad rfl i hi j hj)).2⟩)
        exact ⟨news, h1, fun ad' e j u hu => by cases e; exact h2 j u hu, h3, h4⟩
    · exact hs.elim
  · rename_i r s' lo m hy
    split at hs
    · rename_i hb
      obtain rfl := Nat.eq_of_beq_eq_true hb
      split at hs
      · rename_i N f hr
        obtain ⟨hle, hk⟩ := hs
        obtain ⟨hc1, hc2, hc3⟩ := rowOf_cap h hr
        have hv := own_of (hy ▸ h.ev y)
        refine ⟨m, _, hk, partOf (ρ r).1 (ρ r).2 s lo, (ρ r).2 - lo, hv, fun e => ?_, ?_⟩
        · cases hg : (ρ r).1 with
          | none => have := hc3 hg; omega
          | some g =>
            rw [hg] at e
            unfold partOf at e
            split at e
            · cases e
            · simp [addrOf] at e
        · cases hg : (ρ r).1 with
          | none =>
            have := hc3 hg
            obtain rfl : m = 0 := by omega
            exact ⟨[], by simp, fun ad e j u hu => (by simp at hu), fun u hu => (by cases hu), fun i hi => absurd hi (by omega)⟩
          | some g =>
            obtain ⟨news, h1, h2, h3, h4⟩ := src_list (m := m) (w := w) (g := fun i j => f (lo + i) j) (P := fun k u => w.cell? ⟨g, lo * s + k, none⟩ = some u) (fun i hi j hj => by
              obtain ⟨u, e1, e2, e3⟩ := rowOf_cell h hr hg (k := lo + i) (by omega) hj
              refine ⟨u, ?_, e2, e3⟩
              rw [Nat.add_mul, Nat.add_assoc] at e1
              exact e1)
            refine ⟨news, h1, fun ad e j u hu => ?_, h3, h4⟩
            have hlt : j < m * s := by
              have := (List.getElem?_eq_some_iff.1 hu).1
              omega
            have hmpos : 0 < m := Nat.pos_of_ne_zero fun e => by subst e; simp at hlt
            have e2 := partOf_some (ρ := ρ) (s := s) (lo := lo) hg (by omega)
            rw [hg] at e2
            rw [e2] at e
            cases e
            rw [add_off]
            exact h2 j u hu
      · exact hs.elim
    · exact hs.elim
  · rename_i hy
    have hv := val_of (hy ▸ h.ev y)
    exact ⟨0, _, hs, none, 0, hv, fun _ => ⟨rfl, rfl⟩, [], by simp, fun ad e => (by cases e), fun u hu => (by cases hu), fun i hi => absurd hi (by omega)⟩
  · exact hs.elim

def catF (n : Nat) (f g : Nat → Nat → D) : Nat → Nat → D := fun i j => if i < n then f i j else g (i - n) j

def exAppend (X : Cx) (n : Nat) (st : St) (d : Option Nat) (t : TypeId) (x y : Operand) (K : St → Prop) : Prop := match d with
  | none => False
  | some dt => match Nat.ble (dt + 1) n with
    | false => False
    | true => match lk t X.T with
      | some ⟨.slice E es eb ez, _, _⟩ => match Nat.beq ez.cells.size es with
        | false => False
        | true => match Nat.ble 1 es with
          | false => False
          | true => match st.ev X x with
            | .own r s 0 k => match Nat.beq es s with
              | false => False
              | true => match st.ent r with
                | some (.row E' s' N f) => match Nat.beq E E' with
                  | false => False
                  | true => match Nat.beq es s' with
                    | false => False
                    | true => match kp r with
                      | true => False
                      | false => srcK X st es y fun m g => CndK (k = N ∧ (N + m) * eb ≤ 140737488355328 ∧ N + m ≤ 4611686018427387904) (st.un fun fr hp => K ⟨(dt, .own r s 0 (N + m)) :: junkF r fr, (r, .row E s (N + m) (catF N f g)) :: junkH r hp⟩)
                | _ => False
            | .dat (.val (.slice none 0 0)) => srcK X st es y fun m g => CndK (m * eb ≤ 140737488355328 ∧ m ≤ 4611686018427387904) (st.un fun fr hp => K ⟨(dt, .own dt es 0 m) :: junkF dt fr, (dt, .row E es m g) :: junkH dt hp⟩)
            | _ => False
      | _ => False

theorem ownsRow_form {w : World} {B : Nat} {E : TypeId} {s : Nat} {v : Value} {n : Nat} {xs : List Value} (h : w.ownsRow B E s v n xs) : ∃ b cap, v = .slice (addrOf b) n cap ∧ v.ownBlock = b := by
  rcases h.2 with ⟨rfl, rfl⟩ | ⟨g, cap, cur, rfl, _⟩
  · exact ⟨none, 0, rfl, rfl⟩
  · exact ⟨some g, cap, rfl, rfl⟩

/-- The append itself. -/
theorem run_append {P : Program} {w : World} {E : TypeId} {t ty : TypeId} {es eb : Nat} {ez : Value} {M : Mem} (hu : P.underlying t = some (.slice E)) {ie : TypeInfo} (hie : P.info? E = some ie) (hsz : ie.size = es) (hby : ie.bytes = eb) (hz : ie.zero = some ez) (hzs : ez.cells.size = es) (hes : 1 ≤ es)
    {b : Option Nat} {cap N : Nat} {xs : List Value} (hown : w.ownsRow 0 E es (.slice (addrOf b) N cap) N xs) {f : Nat → Nat → D} (hf : ∀ i, i < N → ∀ j, j < es → ∃ u, xs[i * es + j]? = some u ∧ DenD M (f i j) u ∧ u.oneCell' = true)
    {y : Value} {m : Nat} {g : Nat → Nat → D} (hs : Src M w es y m g) (hb1 : (N + m) * eb ≤ 140737488355328) (hb2 : N + m ≤ 4611686018427387904) :
    ∃ b' cap' w' ys, (Builtin.append_ #[t, t] ty #[.slice (addrOf b) N cap, y]).run P w = .ok (.slice (addrOf b') (N + m) cap') w' ∧ w.grownBy w' b ∧ (b' = b ∨ b' = some w.heap.size) ∧
      w'.ownsRow 0 E es (.slice (addrOf b') (N + m) cap') (N + m) ys ∧ ∀ i, i < N + m → ∀ j, j < es → ∃ u, ys[i * es + j]? = some u ∧ DenD M (catF N f g i j) u ∧ u.oneCell' = true := by
  obtain ⟨A, c, rfl, hA, news, hl, hc, h1, hg⟩ := hs
  have hbo : (Value.slice (addrOf b) N cap).ownBlock = b := by cases b <;> rfl
  cases A with
  | none =>
    obtain ⟨rfl, rfl⟩ := hA rfl
    refine ⟨b, cap, w, xs, ?_, ⟨rfl, rfl, rfl, Nat.le_refl _, fun _ _ _ => rfl⟩, .inl rfl, hown, fun i hi j hj => ?_⟩
    · exact run_append_owned_none (P := P) w 0 t ty E ie es hu hie _ N xs hown
    · unfold catF
      rw [if_pos (by omega)]
      exact hf i (by omega) j hj
  | some ad =>
    obtain ⟨v', w', hr, ho, hgr, _, hbl⟩ := run_append_own_at (P := P) w 0 t ty E ie ez es eb hu hie hz hsz hby hzs hes _ N xs hown ad m c news hl (hc ad rfl) h1 (by unfold maxLen; omega) hb1 (Nat.zero_le _)
    obtain ⟨b', cap', rfl, hb'⟩ := ownsRow_form ho
    rw [hbo] at hgr hbl
    rw [hb'] at hbl
    refine ⟨b', cap', w', xs ++ news, hr, hgr, hbl, ho, fun i hi j hj => ?_⟩
    have hxl : xs.length = N * es := hown.1
    unfold catF
    by_cases hiN : i < N
    · rw [if_pos hiN]
      obtain ⟨u, e1, e2, e3⟩ := hf i hiN j hj
      refine ⟨u, ?_, e2, e3⟩
      rw [List.getElem?_append_left (by have := (List.getElem?_eq_some_iff.1 e1).1; exact this)]
      exact e1
    · rw [if_neg hiN]
      obtain ⟨u, e1, e2⟩ := hg (i - N) (by omega) j hj
      refine ⟨u, ?_, e2, h1 u (List.mem_of_getElem? e1)⟩
      have hle : N * es ≤ i * es := Nat.mul_le_mul_right es (by omega)
      rw [List.getElem?_append_right (by omega), hxl, show i * es + j - N * es = (i - N) * es + j by rw [Nat.sub_mul]; omega]
      exact e1

section
variable {X : Cx} {st : St} {o : Oper}

theorem s_append (hX : X.ok) {n : Nat} {t : TypeId} {x y : Operand} (ho : o.op = .call { callee := .builtin .append, args := #[x, y], argTypes := #[t, t] }) {K : St → Prop} (hk : exAppend X n st o.dst t x y K) : OpOk X n st o K := by
  unfold exAppend at hk
  split at hk
  · exact hk.elim
  rename_i dt hd
  split at hk
  · exact hk.elim
  rename_i hdt
  have hdt := Nat.le_of_ble_eq_true hdt
  split at hk
  · rename_i E es eb ez sz z hti
    obtain ⟨_, _, hu, ie, hie, hsz, hby, hz⟩ := hX t _ hti
    split at hk
    · exact hk.elim
    rename_i hzs
    have hzs := Nat.eq_of_beq_eq_true hzs
    split at hk
    · exact hk.elim
    rename_i hes
    have hes := Nat.le_of_ble_eq_true hes
    split at hk
    · rename_i r s k hx
      split at hk
      · exact hk.elim
      rename_i hss
      obtain rfl := Nat.eq_of_beq_eq_true hss
      split at hk
      · rename_i E' s' N f he
        split at hk
        · exact hk.elim
        rename_i hE
        obtain rfl := Nat.eq_of_beq_eq_true hE
        split at hk
        · exact hk.elim
        rename_i hs'
        obtain rfl := Nat.eq_of_beq_eq_true hs'
        split at hk
        · exact hk.elim
        rename_i hkp
        intro R hn ρ M a w h K' Q hK'
        obtain ⟨m, g, ⟨⟨rfl, hb1, hb2⟩, hK⟩, hsrc⟩ := src_den h hk
        have hv := own_of (hx ▸ h.ev x)
        rw [partOf_zero, Nat.sub_zero] at hv
        obtain ⟨xs, hown, hf⟩ := h.ents r _ he
        obtain ⟨b', cap', w', ys, hrun, hgr, hbb, how, hys⟩ := run_append (ty := o.type) hu hie hsz hby hz hzs hes hown hf hsrc hb1 hb2
        have hsim := h.regrow (r := r) (dt := dt) (ob := (ρ r).1) (b' := b') (cap' := cap') (E := E) (s := es) (n := k + m) (f := catF k f g) (fun b hb => ⟨_, he, rfl, hb⟩) hgr hbb ⟨ys, by rw [upd_same]; exact how, hys⟩ rfl (by omega) hkp (run_drawn hrun)
        refine wp_val (v := .slice (addrOf b') (k + m) cap') (w' := w') ?_ (by rw [hd]; exact hK' _ _ _ _ _ hK hsim)
        unfold execOp
        simp only [ho, resolve, invoke, builtin, Sem.run_bind, Sem.run_pure, Result.andThen_ok, List.map_toArray, List.map_cons, List.map_nil, hv, hrun]
      · exact hk.elim
    · rename_i hx
      intro R hn ρ M a w h K' Q hK'
      obtain ⟨m, g, ⟨⟨hb1, hb2⟩, hK⟩, hsrc⟩ := src_den h hk
      have hv := val_of (hx ▸ h.ev x)
      obtain ⟨b', cap', w', ys, hrun, hgr, hbb, how, hys⟩ := run_append (ty := o.type) (b := none) (cap := 0) (f := fun _ _ => .val undef) hu hie hsz hby hz hzs hes (World.ownsRow_nil w 0 E es) (fun i hi => absurd hi (by omega)) hsrc (by rw [Nat.zero_add]; exact hb1) (by omega)
      rw [Nat.zero_add] at how hys hrun
      have hsim := h.regrow (r := dt) (dt := dt) (ob := none) (b' := b') (cap' := cap') (E := E) (s := es) (n := m) (f := g) (fun b hb => by cases hb) hgr hbb ⟨ys, by rw [upd_same]; exact how, fun i hi j hj => by
        obtain ⟨u, e1, e2, e3⟩ := hys i hi j hj
        exact ⟨u, e1, by simpa [catF] using e2, e3⟩⟩ rfl (by omega) (kp_small (by have := R.n5; omega)) (run_drawn hrun)
      refine wp_val (v := .slice (addrOf b') m cap') (w' := w') ?_ (by rw [hd]; exact hK' _ _ _ _ _ hK hsim)
      have hrun' : (Builtin.append_ #[t, t] o.type #[.slice none 0 0, a.eval y]).run X.P w = .ok (.slice (addrOf b') m cap') w' := hrun
      unfold execOp
      simp only [ho, resolve, invoke, builtin, Sem.run_bind, Sem.run_pure, Result.andThen_ok, List.map_toArray, List.map_cons, List.map_nil, hv, hrun']
    · exact hk.elim
  · exact hk.elim

end
end Go.Proofs.YtekdobbhkklapaaGreat
