/- The walk by descriptions, first part: what descriptions say, operations, calls, code. -/
import Derived.Orders
import Derived.Below
import Derived.Tactics
import Derived.Laws.AppendOwn
import Derived.Laws.Cells
import Derived.Laws.Rows
import Derived.Laws.CopyRow
import Derived.Laws.Tables
import Derived.Deep.Draws
import Derived.Laws.StructEq
import Derived.ChangeKeysEq
import Derived.Laws.MakeOwn
import Derived.Laws.OwnMore
import Derived.Great.BuildSlice
import Derived.Maps.AppendAt
import Derived.Maps.OwnSet
import Derived.Maps.Views
import Derived.Maps.Range
import Derived.StringKeys
import Derived.IntWalk

namespace Go.Proofs.Ytoeghejbgibioaa
open Go Go.RowKit
set_option linter.unusedVariables false
set_option linter.unusedSimpArgs false

theorem ask_drawn {α : Type} : ∀ (A : Ask α) (w : World), w.drawn ≤ (w.ask A).2.drawn := by
  intro A
  induction A with
  | done a => intro w; exact Nat.le_refl _
  | ask what range k ih =>
    intro w
    simp only [World.ask]
    split
    · exact ih _ w
    · have := ih ((Question.extern what range).cut (w.tape w.drawn (Question.extern what range))) { w with drawn := w.drawn + 1 }
      exact Nat.le_trans (Nat.le_succ _) this
theorem sys_drawn (w : World) (c : Sys) : w.drawn ≤ (w.sys c).2.drawn := by
  have h := ask_drawn (Kernel.perform c w.os) w
  unfold World.sys
  split
  · exact Nat.le_refl _
  · rename_i r os w' _ heq
    rw [heq] at h
    exact h
theorem ex_bind {α β ε : Type} {x : Except ε α} {f : α → Except ε β} {r : β} (h : (x >>= f) = .ok r) : ∃ a, x = .ok a ∧ f a = .ok r := by
  cases x with
  | error e => cases h
  | ok a => exact ⟨a, rfl, h⟩
theorem throw_ok {α : Type} {e : String} {r : α} (h : (MonadExcept.throw e : Except String α) = Except.ok r) : False := by
  cases h
theorem viewStore_drawn {p : Program} {w w' : World} {at_ : Addr} {u : TypeId} {k : Addr} {v : Value} {b : Bool} {l : List Addr} (h : w.viewStore p at_ u k v b = .ok (w', l)) : w.drawn ≤ w'.drawn := by
  unfold World.viewStore at h
  repeat' (first | (exact (throw_ok h).elim) | (obtain ⟨_, _, h⟩ := ex_bind h) | (split at h) | (cases h; exact Nat.le_refl _) | (obtain ⟨a, _, h⟩ := ex_bind h; obtain ⟨_, _, _, _, _, _⟩ := a))
theorem farStore_drawn {p : Program} {w w' : World} {a : Addr} {v : Value} {b : Bool} {l : List Addr} (h : w.farStore p a v b = .ok (w', l)) : w.drawn ≤ w'.drawn := by
  unfold World.farStore at h
  split at h
  · split at h
    · rename_i r hr
      cases h
      exact viewStore_drawn hr
    · cases h
  · cases h
theorem setCell_drawn (w : World) (a : Addr) (v : Value) : (w.setCell a v).drawn = w.drawn := rfl
theorem freeze_drawn (w : World) (a : Addr) (n : Nat) : (w.freeze a n).drawn = w.drawn := by unfold World.freeze; split <;> rfl
theorem run_drawn {α : Type} {P : Program} : ∀ {s : Sem α} {w w' : World} {x : α}, s.run P w = .ok x w' → w.drawn ≤ w'.drawn := by
  intro s
  induction s with
  | pure a => intro w w' x h; simp only [Sem.run] at h; cases h; exact Nat.le_refl _
  | load m a k ih =>
    intro w w' x h
    simp only [Sem.run] at h
    split at h
    · exact ih _ h
    · split at h
      · exact ih _ h
      · cases h
  | store m a v k ih =>
    intro w w' x h
    unfold Sem.run at h
    split at h
    all_goals first | (cases h; done) | skip
    all_goals rename_i heq
    all_goals first | (cases heq; done) | skip
    cases heq
    split at h
    · split at h
      · cases h
      · exact Nat.le_trans (Nat.le_of_eq (setCell_drawn _ _ _).symm) (ih h)
    · split at h
      · rename_i w1 l1 hf
        exact Nat.le_trans (farStore_drawn hf) (ih h)
      · cases h
  | new o k ih => intro w w' x h; simp only [Sem.run] at h; exact ih (w := { w with heap := w.heap.push o }) _ h
  | shape r k ih => intro w w' x h; simp only [Sem.run] at h; exact ih _ h
  | freeze a n k ih => intro w w' x h; simp only [Sem.run] at h; have := ih h; rwa [freeze_drawn] at this
  | frozen a k ih => intro w w' x h; simp only [Sem.run] at h; exact ih _ h
  | getObj r k ih =>
    intro w w' x h
    simp only [Sem.run] at h
    split at h
    · cases h
    · exact ih _ h
    · cases h
  | setObj r o k ih =>
    intro w w' x h
    simp only [Sem.run] at h
    split at h
    · cases h
    · exact ih (w := { w with heap := w.heap.setIfInBounds r o }) h
    · cases h
  | choose q k ih =>
    intro w w' x h
    simp only [Sem.run] at h
    split at h
    · exact ih _ h
    · have := ih _ h
      exact Nat.le_trans (Nat.le_succ _) this
  | sys c k ih => intro w w' x h; simp only [Sem.run] at h; exact Nat.le_trans (sys_drawn w c) (ih _ h)
  | program k ih => intro w w' x h; simp only [Sem.run] at h; exact ih _ h
  | mark m k ih => intro w w' x h; simp only [Sem.run] at h; exact ih h
  | halt hh => intro w w' x h; simp only [Sem.run] at h; cases h

abbrev Mem := Addr → Option Value
def Mem.le (M M' : Mem) : Prop := ∀ p v, M p = some v → M' p = some v
theorem Mem.le_refl (M : Mem) : Mem.le M M := fun _ _ h => h
theorem Mem.le_trans {M M' M'' : Mem} (h : Mem.le M M') (h' : Mem.le M' M'') : Mem.le M M'' := fun p v hp => h' p v (h p v hp)

inductive D where
  | val (v : Value)
  | lst (size n : Nat) (f : Nat → Nat → D)

inductive DenD (M : Mem) : D → Value → Prop where
  | val (v : Value) : DenD M (.val v) v
  | lst (size n : Nat) (f : Nat → Nat → D) (A : Option Addr) (cap : Nat) (u : Nat → Nat → Value) (hn : n ≤ cap) (hc : cap ≤ maxLen) (hA : A = none → cap = 0)
      (hm : ∀ ad, A = some ad → ∀ i, i < n → ∀ j, j < size → M (ad.add (i * size + j)) = some (u i j))
      (hd : ∀ i, i < n → ∀ j, j < size → DenD M (f i j) (u i j)) : DenD M (.lst size n f) (.slice A n cap)

theorem DenD.mono {M M' : Mem} (h : Mem.le M M') {d : D} {v : Value} (hd : DenD M d v) : DenD M' d v := by
  induction hd with
  | val v => exact .val v
  | lst size n f A cap u hn hc hA hm hd ih => exact .lst size n f A cap u hn hc hA (fun ad ha i hi j hj => h _ _ (hm ad ha i hi j hj)) ih

abbrev ML := List (ByteArray × Int)
def getM (L : ML) (s : ByteArray) : Int := match L.find? (fun p => decide (p.1 = s)) with
  | some p => p.2
  | none => 0
def hasM (L : ML) (s : ByteArray) : Bool := L.any fun p => decide (p.1 = s)
def putM (L : ML) (s : ByteArray) (v : Int) : ML := (s, v) :: L.filter fun p => !decide (p.1 = s)
def litM (p : ByteArray × Int) : Lit × DataW Unit := (.string p.1.data.toList, .lit (.int .i64 p.2))
def MapRep (L : ML) (D : DataW Unit) : Prop := ∃ es, D = .map es ∧ es.Perm (L.map litM) ∧ (L.map Prod.fst).Nodup
theorem bytes_inj {a b : ByteArray} (h : a.data.toList = b.data.toList) : a = b := ByteArray.ext (Array.ext' h)
theorem litM_key {p : ByteArray × Int} {s : ByteArray} : (litM p).1.sameKey (.string s.data.toList) = decide (p.1 = s) := by
  by_cases h : p.1 = s
  · subst h
    rw [decide_eq_true rfl]
    exact WideAt.sameKey_self (a := Lit.string p.1.data.toList) True.intro
  · rw [decide_eq_false h]
    exact Maps.sameKey_ne fun e => h (bytes_inj (by injection e))
theorem MapRep.nil : MapRep [] (.map []) := ⟨[], rfl, List.Perm.refl _, List.Pairwise.nil⟩
theorem MapRep.has {L : ML} {D : DataW Unit} (h : MapRep L D) (s : ByteArray) : Maps.has D (.string s.data.toList) = hasM L s := by
  obtain ⟨es, rfl, hp, _⟩ := h
  rw [Maps.has_eq, hp.any_eq, List.any_map]
  unfold hasM
  congr 1
  funext p
  exact litM_key
theorem MapRep.at {L : ML} {D : DataW Unit} (h : MapRep L D) (s : ByteArray) : D.atKey (.string s.data.toList) (.lit (.int .i64 0)) = .lit (.int .i64 (getM L s)) := by
  obtain ⟨es, rfl, hp, hn⟩ := h
  unfold DataW.atKey
  dsimp only
  cases hf : es.find? (fun p => p.1.sameKey (.string s.data.toList)) with
  | none =>
    have hg : getM L s = 0 := by
      unfold getM
      have : L.find? (fun p => decide (p.1 = s)) = none := List.find?_eq_none.2 fun p hp' hq => by
        have h1 := List.find?_eq_none.1 hf (litM p) (hp.mem_iff.2 (List.mem_map.2 ⟨p, hp', rfl⟩))
        rw [litM_key] at h1
        exact h1 hq
      rw [this]
    rw [hg]
  | some q =>
    have hq1 := List.find?_some hf
    obtain ⟨p, hpm, rfl⟩ := List.mem_map.1 (hp.mem_iff.1 (List.mem_of_find?_eq_some hf))
    rw [litM_key] at hq1
    have hps : p.1 = s := of_decide_eq_true hq1
    have hg : getM L s = p.2 := by
      unfold getM
      cases hf2 : L.find? (fun p => decide (p.1 = s)) with
      | none => exact absurd hq1 (by simpa using List.find?_eq_none.1 hf2 p hpm)
      | some p' =>
        have h1 : p'.1 = s := by
          have := List.find?_some hf2
          simpa using this
        have h2 := List.mem_of_find?_eq_some hf2
        obtain ⟨i, hi, e1⟩ := List.getElem_of_mem hpm
        obtain ⟨j, hj, e2⟩ := List.getElem_of_mem h2
        have hpw := List.pairwise_iff_getElem.1 hn
        have hne : ∀ a b (ha : a < L.length) (hb : b < L.length), a < b → L[a].1 ≠ L[b].1 := fun a b ha hb hab => by
          have := hpw a b (by simpa using ha) (by simpa using hb) hab
          simpa using this
        rcases Nat.lt_trichotomy i j with hij | hij | hij
        · exact absurd (by rw [e1, e2, hps, h1]) (hne i j hi hj hij)
        · subst hij
          rw [e1] at e2
          rw [e2]
        · exact absurd (by rw [e1, e2, hps, h1]) (hne j i hj hi hij)
    show (litM p).2 = _
    rw [hg]
    rfl
theorem MapRep.size {L : ML} {D : DataW Unit} (h : MapRep L D) : Maps.size D = L.length := by
  obtain ⟨es, rfl, hp, _⟩ := h
  rw [Maps.size_eq, hp.length_eq, List.length_map]
theorem MapRep.put {L : ML} {D : DataW Unit} (h : MapRep L D) (s : ByteArray) (v : Int) : MapRep (putM L s v) (D.put (.string s.data.toList) (.lit (.int .i64 v))) := by
  obtain ⟨es, rfl, hp, hn⟩ := h
  have hi : ∀ (x : Lit × DataW Unit) (l : List (Lit × DataW Unit)), (DataW.insert x l).Perm (x :: l) := by
    intro x l
    induction l with
    | nil => exact List.Perm.refl _
    | cons y l ih =>
      unfold DataW.insert
      split
      · exact List.Perm.refl _
      · exact (ih.cons y).trans (List.Perm.swap x y l)
  refine ⟨_, rfl, (hi _ _).trans ?_, ?_⟩
  · show ((Lit.string s.data.toList, DataW.lit (.int .i64 v)) :: es.filter fun p => !p.1.sameKey (.string s.data.toList)).Perm ((putM L s v).map litM)
    unfold putM
    rw [List.map_cons]
    refine List.Perm.cons _ ((hp.filter _).trans (List.Perm.of_eq ?_))
    rw [List.filter_map]
    congr 1
    refine List.filter_congr fun p _ => ?_
    show (!(litM p).1.sameKey (.string s.data.toList)) = _
    rw [litM_key]
  · unfold putM
    rw [List.map_cons, List.nodup_cons]
    refine ⟨fun hm => ?_, (List.Sublist.map _ List.filter_sublist).nodup hn⟩
    obtain ⟨p, hp', e⟩ := List.mem_map.1 hm
    have := (List.mem_filter.1 hp').2
    simp [e] at this
def kvE (e : MapEntry) : Value × Value := (e.key, e.val)
def kvM (p : ByteArray × Int) : Value × Value := (.string p.1, .int .i64 p.2)
structure FitM (P : Program) (k e : TypeId) (L : ML) (es : Array MapEntry) (clock : Nat) : Prop where
  fit : WideElems.Fit P k (plainElem (H := Unit) P e) es clock
  size : es.size ≤ L.length
  rep : MapRep L (.map ((es.toList.map (WideElems.rg P k (plainElem (H := Unit) P e))).foldr DataW.insert []))
def unLit (x : Lit × DataW Unit) : Value × Value := match x with
  | (.string l, .lit (.int .i64 a)) => (.string ⟨⟨l⟩⟩, .int .i64 a)
  | _ => (.bool true, .bool true)
theorem unLit_litM (p : ByteArray × Int) : unLit (litM p) = kvM p := rfl
theorem FitM.rg {P : Program} {k e : TypeId} {L : ML} {es : Array MapEntry} {clock : Nat} (h : FitM P k e L es clock) (hk : P.underlying k = some .string) (he : P.underlying e = some (.int .i64)) (x : MapEntry) (hx : x ∈ es.toList) : unLit (WideElems.rg P k (plainElem (H := Unit) P e) x) = kvE x := by
  obtain ⟨y, hy⟩ := h.fit.reads x hx
  rw [WideElems.rg_of hy]
  obtain ⟨q, h1, h2, _⟩ := WideMaps.string_of_keyOf hk (WideElems.rd_key hy)
  obtain ⟨z, h3, h4⟩ := WideElems.rd_val hy
  obtain ⟨a, h5, h6, _⟩ := plainElem_int_inv he h3
  obtain ⟨y1, y2⟩ := y
  dsimp only at h2 h4
  subst h2 h4 h6
  show (Value.string _, Value.int _ _) = (x.key, x.val)
  rw [h1, h5]
theorem FitM.perm {P : Program} {k e : TypeId} {L : ML} {es : Array MapEntry} {clock : Nat} (h : FitM P k e L es clock) (hk : P.underlying k = some .string) (he : P.underlying e = some (.int .i64)) : (es.toList.map kvE).Perm (L.map kvM) := by
  obtain ⟨l, h1, h2, _⟩ := h.rep
  injection h1 with h1
  subst h1
  have h3 := ((WideShapes.sorted_perm _).symm.trans h2).map unLit
  rw [List.map_map, List.map_map] at h3
  refine (List.Perm.of_eq (List.map_congr_left fun x hx => ?_)).trans (h3.trans (List.Perm.of_eq (List.map_congr_left fun p _ => unLit_litM p)))
  exact (h.rg hk he x hx).symm
theorem filter_one (p : MapEntry → Bool) (e : MapEntry) (hp : p e = true) : ∀ l : List MapEntry, (l.map (·.born)).Nodup → e ∈ l → (l.filter p).Perm (e :: l.filter fun x => p x && !(x.born == e.born))
  | [], _, h => by cases h
  | x :: l, hn, h => by
    have hn' : x.born ∉ l.map (·.born) ∧ (l.map (·.born)).Nodup := List.nodup_cons.1 hn
    rcases List.mem_cons.1 h with rfl | h1
    · have hf : ∀ y ∈ l, (p y && !(y.born == e.born)) = p y := fun y hy => by
        have : (y.born == e.born) = false := by
          cases hc : y.born == e.born with
          | false => rfl
          | true => exact absurd (by rw [← beq_iff_eq.1 hc]; exact List.mem_map.2 ⟨y, hy, rfl⟩) hn'.1
        rw [this]
        simp
      simp only [List.filter_cons, hp, if_true, beq_self_eq_true, Bool.not_true, Bool.and_false, Bool.false_eq_true, if_false]
      rw [List.filter_congr hf]
    · have hx : (x.born == e.born) = false := by
        cases hc : x.born == e.born with
        | false => rfl
        | true => exact absurd (by rw [beq_iff_eq.1 hc]; exact List.mem_map.2 ⟨e, h1, rfl⟩) hn'.1
      have ih := filter_one p e hp l hn'.2 h1
      simp only [List.filter_cons, hx, Bool.not_false, Bool.and_true]
      by_cases hpx : p x = true
      · simp only [hpx, if_true]
        exact (ih.cons x).trans (List.Perm.swap _ _ _)
      · simp only [hpx, if_false, Bool.false_eq_true]
        exact ih
theorem left_perm {es : Array MapEntry} {seen : Array Nat} {e : MapEntry} (hn : (es.toList.map (·.born)).Nodup) (he : e ∈ (leftOf es seen).toList) : (leftOf es seen).toList.Perm (e :: (leftOf es (seen.push e.born)).toList) := by
  obtain ⟨h1, h2⟩ := mem_left he
  have := filter_one (fun x : MapEntry => !seen.contains x.born) e (by rw [h2]; rfl) es.toList hn h1
  unfold leftOf
  rw [Array.toList_filter, Array.toList_filter]
  refine this.trans (List.Perm.cons e (List.Perm.of_eq (List.filter_congr fun x _ => ?_)))
  rw [contains_push]
  cases seen.contains x.born <;> cases (x.born == e.born) <;> rfl
theorem own_exact {w : World} {P : Program} {k : TypeId} {R : Value → Option (DataW Unit × List MemPlace)} {b n : Nat} {D : DataW Unit} (h : w.ownsMap P k R b n D) : w.ownsMap P k R b (Maps.size D) D := by
  obtain ⟨es, clock, hb, F, hs, rfl⟩ := h
  refine ⟨es, clock, hb, F, ?_, rfl⟩
  simp [Maps.size, Go.length_sorted]

abbrev Env := Nat → Option Nat × Nat
def addrOf (b : Option Nat) : Option Addr := b.map fun g => ⟨g, 0, none⟩
def partOf (b : Option Nat) (cap size lo : Nat) : Option Addr := if cap = lo then addrOf b else (addrOf b).map (·.add (lo * size))

inductive AV where
  | junk
  | tt
  | ff
  | dat (d : D)
  | ptr (r off : Nat)
  | ro (n : Nat) (c : Nat → D)
  | own (r size lo n : Nat)
  | rptr (r size k j : Nat)
  | agg (cs : List AV)
  | tup (vs : List AV)
  | clo (g : FuncId) (cs : List AV)
  | mp (r : Nat)

inductive DenA (ρ : Env) (M : Mem) : AV → Value → Prop where
  | junk (v : Value) : DenA ρ M .junk v
  | tt : DenA ρ M .tt (.bool true)
  | ff : DenA ρ M .ff (.bool false)
  | dat {d : D} {v : Value} (h : DenD M d v) : DenA ρ M (.dat d) v
  | ptr (r off g : Nat) (h : (ρ r).1 = some g) : DenA ρ M (.ptr r off) (.pointer (some ⟨g, off, none⟩))
  | ro (n : Nat) (c : Nat → D) (ad : Addr) (u : Nat → Value) (hm : ∀ j, j < n → M (ad.add j) = some (u j)) (hd : ∀ j, j < n → DenD M (c j) (u j)) : DenA ρ M (.ro n c) (.pointer (some ad))
  | own (r size lo n : Nat) : DenA ρ M (.own r size lo n) (.slice (partOf (ρ r).1 (ρ r).2 size lo) n ((ρ r).2 - lo))
  | rptr (r size k j g : Nat) (h : (ρ r).1 = some g) : DenA ρ M (.rptr r size k j) (.pointer (some ⟨g, k * size + j, none⟩))
  | agg (cs : List AV) (vs : List Value) (hl : cs.length = vs.length) (h : ∀ (i : Nat) (c : AV) (v : Value), cs[i]? = some c → vs[i]? = some v → DenA ρ M c v) : DenA ρ M (.agg cs) (.agg vs.toArray)
  | tup (cs : List AV) (vs : List Value) (hl : cs.length = vs.length) (h : ∀ (i : Nat) (c : AV) (v : Value), cs[i]? = some c → vs[i]? = some v → DenA ρ M c v) : DenA ρ M (.tup cs) (.tuple vs.toArray)
  | clo (f : FuncId) (cs : List AV) (vs : List Value) (hl : cs.length = vs.length) (h : ∀ (i : Nat) (c : AV) (v : Value), cs[i]? = some c → vs[i]? = some v → DenA ρ M c v) : DenA ρ M (.clo f cs) (.func (.func f) #[] vs.toArray)
  | mp (r g : Nat) (h : (ρ r).1 = some g) : DenA ρ M (.mp r) (.map (some g))

def AV.uses (r : Nat) : AV → Bool
  | .ptr r' _ => Nat.beq r r'
  | .own r' _ _ _ => Nat.beq r r'
  | .rptr r' _ _ _ => Nat.beq r r'
  | .mp r' => Nat.beq r r'
  | .agg cs => usesL r cs
  | .tup cs => usesL r cs
  | .clo _ cs => usesL r cs
  | _ => false
where usesL (r : Nat) : List AV → Bool
  | [] => false
  | c :: l => AV.uses r c || usesL r l

theorem AV.usesL_false {r : Nat} : ∀ {cs : List AV}, AV.uses.usesL r cs = false → ∀ (i : Nat) (c : AV), cs[i]? = some c → AV.uses r c = false
  | [], _, i, c, hi => by simp at hi
  | x :: l, h, i, c, hi => by
    simp only [AV.uses.usesL, Bool.or_eq_false_iff] at h
    cases i with
    | zero => simp at hi; subst hi; exact h.1
    | succ i => exact AV.usesL_false h.2 i c (by simpa using hi)

theorem DenA.keep {ρ ρ' : Env} {M M' : Mem} (hM : Mem.le M M') {c : AV} {v : Value} (h : DenA ρ M c v) (hρ : ∀ r, AV.uses r c = true → ρ' r = ρ r) : DenA ρ' M' c v := by
  induction h with
  | junk v => exact .junk v
  | tt => exact .tt
  | ff => exact .ff
  | dat h => exact .dat (h.mono hM)
  | ptr r off g h => exact .ptr r off g (by rw [hρ r (by simp [AV.uses])]; exact h)
  | ro n c ad u hm hd => exact .ro n c ad u (fun j hj => hM _ _ (hm j hj)) (fun j hj => (hd j hj).mono hM)
  | own r size lo n =>
    have := hρ r (by simp [AV.uses])
    rw [← this]
    exact .own r size lo n
  | rptr r size k j g h => exact .rptr r size k j g (by rw [hρ r (by simp [AV.uses])]; exact h)
  | mp r g h => exact .mp r g (by rw [hρ r (by simp [AV.uses])]; exact h)
  | agg cs vs hl h ih =>
    refine .agg cs vs hl fun i c v hc hv => ih i c v hc hv fun r hr => hρ r ?_
    cases hu : AV.uses r (.agg cs)
    · have := AV.usesL_false (r := r) (cs := cs) (by simpa [AV.uses] using hu) i c hc
      rw [this] at hr; cases hr
    · rfl
  | tup cs vs hl h ih =>
    refine .tup cs vs hl fun i c v hc hv => ih i c v hc hv fun r hr => hρ r ?_
    cases hu : AV.uses r (.tup cs)
    · have := AV.usesL_false (r := r) (cs := cs) (by simpa [AV.uses] using hu) i c hc
      rw [this] at hr; cases hr
    · rfl
  | clo f cs vs hl h ih =>
    refine DenA.clo f cs vs hl fun i c v hc hv => ih i c v hc hv fun r hr => hρ r ?_
    cases hu : AV.uses r (.clo f cs)
    · have := AV.usesL_false (r := r) (cs := cs) (by simpa [AV.uses] using hu) i c hc
      rw [this] at hr; cases hr
    · rfl

inductive Ent where
  | blk (t : TypeId) (cs : List AV)
  | row (E : TypeId) (size n : Nat) (f : Nat → Nat → D)
  | pub (size n : Nat) (f : Nat → Nat → D)
  | dead
  | mp (P : Program) (k e : TypeId) (L : ML)
  | mpx (P : Program) (k e : TypeId) (L : ML) (es : Array MapEntry) (clock gm : Nat)
  | it (rm gm : Nat) (es : Array MapEntry) (clock : Nat) (left : ML) (cur : Option (ByteArray × Int))

def Ent.owned : Ent → Bool
  | .blk .. => true
  | .row .. => true
  | .mp .. => true
  | .mpx .. => true
  | .it .. => true
  | _ => false
def Ent.uses (r : Nat) : Ent → Bool
  | .blk _ cs => AV.uses.usesL r cs
  | _ => false

structure St where
  fr : List (Nat × AV)
  hp : List (Nat × Ent)

def lk {α : Type} (k : Nat) : List (Nat × α) → Option α
  | [] => none
  | (i, x) :: r => match Nat.beq i k with
    | true => some x
    | false => lk k r
theorem lk_cons {α : Type} (k i : Nat) (x : α) (r : List (Nat × α)) : lk k ((i, x) :: r) = if i = k then some x else lk k r := by
  simp only [lk]
  by_cases h : i = k
  · subst h
    rw [if_pos rfl, Nat.beq_refl]
  · rw [if_neg h]
    cases hb : Nat.beq i k
    · rfl
    · exact absurd (Nat.eq_of_beq_eq_true hb) h
theorem lk_mem {α : Type} {k : Nat} {x : α} : ∀ {l : List (Nat × α)}, lk k l = some x → (k, x) ∈ l
  | [], h => by cases h
  | (i, y) :: r, h => by
    rw [lk_cons] at h
    split at h
    · rename_i hi; subst hi; cases h; exact List.mem_cons_self ..
    · exact List.mem_cons_of_mem _ (lk_mem h)

def St.get (s : St) (t : Nat) : AV := match lk t s.fr with
  | some a => a
  | none => .junk
def St.ent (s : St) (r : Nat) : Option Ent := lk r s.hp
def St.put (s : St) (d : Option Nat) (c : AV) : St := match d with
  | some t => ⟨(t, c) :: s.fr, s.hp⟩
  | none => s
def St.lay (s : St) (r : Nat) (e : Ent) : St := ⟨s.fr, (r, e) :: s.hp⟩

inductive TK where
  | cell
  | struct (fs : List (Nat × Nat))
  | slice (E esize ebytes : Nat) (ez : Value)
  | arr (n E esize : Nat)
  | str
  | int (k : IntKind)
  | bool
  | map (k e : TypeId)
structure TI where
  k : TK
  size : Nat
  zero : Value

structure Cx where
  P : Program
  T : List (Nat × TI)
  G : List (Nat × (Nat × (Nat → D)))
  dr : Bool := false
  pb : List Nat := []
  kb : List (Nat × (Option Nat × Nat)) := []
  lo : Nat := 5000

def Cx.glob (X : Cx) (M : Mem) : Prop := ∀ g n c, lk g X.G = some (n, c) → ∃ u : Nat → Value, (∀ j, j < n → M ((⟨g, 0, none⟩ : Addr).add j) = some (u j)) ∧ ∀ j, j < n → DenD M (c j) (u j)
theorem Cx.glob_mono {X : Cx} {M M' : Mem} (h : Mem.le M M') (hg : X.glob M) : X.glob M' := fun g n c hl => by
  obtain ⟨u, h1, h2⟩ := hg g n c hl
  exact ⟨u, fun j hj => h _ _ (h1 j hj), fun j hj => (h2 j hj).mono h⟩

def PubOk (M : Mem) (w : World) : Prop := ∀ p v, M p = some v → w.cell? p = some v ∧ v.oneCell' = true

def EntOk (ρ : Env) (M : Mem) (w : World) (r : Nat) : Ent → Prop
  | .blk t cs => ∃ g vs, (ρ r).1 = some g ∧ w.heap[g]? = some (.cells vs t (0, 0)) ∧ cs.length = vs.size ∧ ∀ (i : Nat) (c : AV) (v : Value), cs[i]? = some c → vs[i]? = some v → DenA ρ M c v
  | .row E size n f => ∃ xs, w.ownsRow 0 E size (.slice (addrOf (ρ r).1) n (ρ r).2) n xs ∧ ∀ i, i < n → ∀ j, j < size → ∃ u, xs[i * size + j]? = some u ∧ DenD M (f i j) u ∧ u.oneCell' = true
  | .pub size n f => DenD M (.lst size n f) (.slice (addrOf (ρ r).1) n (ρ r).2)
  | .dead => True
  | .mp P k e L => ∃ g D, (ρ r).1 = some g ∧ w.ownsMap P k (plainElem P e) g L.length D ∧ MapRep L D
  | .mpx P k e L es clock gm => (ρ r).1 = some gm ∧ w.heap[gm]? = some (.map es clock) ∧ FitM P k e L es clock
  | .it rm gm es clock left cur => ∃ g since seen c0, (ρ r).1 = some g ∧ w.heap[g]? = some (.mapIter (some gm) since seen c0) ∧ (∀ x ∈ es.toList, x.born < since) ∧ since ≤ c0 ∧ since ≤ clock
      ∧ ((leftOf es seen).toList.map kvE).Perm (left.map kvM) ∧ ∀ p, cur = some p → ∃ (seen0 : Array Nat) (e : MapEntry), seen = seen0.push e.born ∧ c0 = clock ∧ e ∈ es.toList ∧ kvE e = kvM p

structure Chg (bs : List Nat) (w w' : World) : Prop where
  os : w'.os = w.os
  tape : w'.tape = w.tape
  output : w'.output = w.output
  size : w.heap.size ≤ w'.heap.size
  block : ∀ k, k < w.heap.size → k ∉ bs → w'.heap[k]? = w.heap[k]?
theorem Chg.refl (bs : List Nat) (w : World) : Chg bs w w := ⟨rfl, rfl, rfl, Nat.le_refl _, fun _ _ _ => rfl⟩
theorem Chg.of_below {bs : List Nat} {w w' : World} (h : Below w.heap.size w w') : Chg bs w w' := ⟨h.os, h.tape, h.output, h.size, fun k hk _ => h.block k hk⟩
theorem Chg.below {w w' : World} (h : Chg [] w w') : Below w.heap.size w w' := ⟨h.os, h.tape, h.output, h.size, fun k hk => h.block k hk (by simp)⟩
theorem Chg.trans {bs cs : List Nat} {a b c : World} (h : Chg bs a b) (k : Chg cs b c) (hc : ∀ g, g ∈ cs → g < a.heap.size → g ∈ bs) : Chg bs a c :=
  ⟨k.os.trans h.os, k.tape.trans h.tape, k.output.trans h.output, Nat.le_trans h.size k.size, fun i hi hn => (k.block i (Nat.lt_of_lt_of_le hi h.size) (fun hm => hn (hc i hm hi))).trans (h.block i hi hn)⟩

def kp (k : Nat) : Bool := match Nat.ble 5000 k with
  | true => Nat.ble (k + 1) 1000000
  | false => false
theorem kp_small {k : Nat} (h : k < 5000) : kp k = false := by
  unfold kp
  cases hb : Nat.ble 5000 k with
  | true => have := Nat.le_of_ble_eq_true hb; omega
  | false => rfl
structure Run where
  n : Nat
  n5 : n ≤ 5000
  w0 : World
  M0 : Mem
  bs : List Nat
  ρ0 : Env
  hb : Nat → Nat → Prop
  hsub : ∀ r g, hb r g → g ∈ bs

structure Sim (X : Cx) (R : Run) (ρ : Env) (M : Mem) (st : St) (a : Act) (w : World) : Prop where
  size : a.tmps.size = R.n
  defers : a.defers = []
  chg : Chg R.bs R.w0 w
  m0 : Mem.le R.M0 M
  g0 : X.glob R.M0
  fresh : ∀ p v, M p = some v → R.M0 p = some v ∨ R.w0.heap.size ≤ p.block
  pub : PubOk M w
  slots : ∀ t, DenA ρ M (st.get t) (a.tmps.getD t undef)
  ents : ∀ r e, st.ent r = some e → EntOk ρ M w r e
  own : ∀ r e g, st.ent r = some e → e.owned = true → (ρ r).1 = some g → R.w0.heap.size ≤ g ∨ (X.lo ≤ r ∧ R.hb r g)
  apart : ∀ r r' e e', st.ent r = some e → st.ent r' = some e' → e.owned = true → e'.owned = true → r ≠ r' → ∀ g, (ρ r).1 = some g → (ρ r').1 ≠ some g
  sep : ∀ r e g p v, st.ent r = some e → e.owned = true → (ρ r).1 = some g → M p = some v → p.block ≠ g
  fix : ∀ k, kp k = true → ρ k = R.ρ0 k
  drn : X.dr = true → R.w0.drawn ≤ w.drawn
  kn : ∀ q b, lk q X.kb = some b → R.ρ0 q = b ∧ kp q = true

structure St.le (s s' : St) : Prop where
  slots : ∀ t, s'.get t = .junk ∨ s.get t = s'.get t
  ents : ∀ r e, s'.ent r = some e → s.ent r = some e

theorem Sim.weak {X : Cx} {R : Run} {ρ : Env} {M : Mem} {s s' : St} {a : Act} {w : World} (h : Sim X R ρ M s a w) (hle : St.le s s') : Sim X R ρ M s' a w where
  size := h.size
  defers := h.defers
  chg := h.chg
  m0 := h.m0
  g0 := h.g0
  fresh := h.fresh
  pub := h.pub
  slots t := by
    rcases hle.slots t with e | e
    · rw [e]; exact .junk _
    · rw [← e]; exact h.slots t
  ents r e he := h.ents r e (hle.ents r e he)
  own r e g he := h.own r e g (hle.ents r e he)
  apart r r' e e' he he' := h.apart r r' e e' (hle.ents r e he) (hle.ents r' e' he')
  sep r e g p v he := h.sep r e g p v (hle.ents r e he)
  fix := h.fix
  drn := h.drn
  kn := h.kn

theorem addrOf_inj {a b : Option Nat} (h : addrOf a = addrOf b) : a = b := by
  cases a <;> cases b <;> simp [addrOf] at h <;> simp [h]

theorem EntOk.lt {ρ : Env} {M : Mem} {w : World} {r : Nat} {e : Ent} (h : EntOk ρ M w r e) (ho : e.owned = true) : ∀ g, (ρ r).1 = some g → g < w.heap.size := by
  intro g hg
  cases e with
  | blk t cs =>
    obtain ⟨g', vs, h1, h3, _⟩ := h
    rw [hg] at h1
    cases h1
    exact (Array.getElem?_eq_some_iff.1 h3).1
  | row E size n f =>
    obtain ⟨xs, h1, _⟩ := h
    rw [hg] at h1
    exact (h1.lt g rfl).2
  | pub => cases ho
  | dead => cases ho
  | mp P k e L =>
    obtain ⟨g', D, h1, h2, _⟩ := h
    rw [hg] at h1
    cases h1
    exact h2.lt
  | mpx P k e L es clock gm =>
    obtain ⟨h1, h2, _⟩ := h
    rw [hg] at h1
    cases h1
    exact (Array.getElem?_eq_some_iff.1 h2).1
  | it rm gm es clock left cur =>
    obtain ⟨g', since, seen, c0, h1, h2, _⟩ := h
    rw [hg] at h1
    cases h1
    exact (Array.getElem?_eq_some_iff.1 h2).1

theorem EntOk.keep {ρ ρ' : Env} {M M' : Mem} {w w' : World} {r : Nat} {e : Ent} (h : EntOk ρ M w r e) (hM : Mem.le M M') (hr : ρ' r = ρ r) (hu : ∀ k, e.uses k = true → ρ' k = ρ k)
    (hb : ∀ g, e.owned = true → (ρ r).1 = some g → g < w.heap.size → w'.heap[g]? = w.heap[g]?) : EntOk ρ' M' w' r e := by
  cases e with
  | blk t cs =>
    obtain ⟨g, vs, h1, h3, h4, h5⟩ := h
    refine ⟨g, vs, by rw [hr]; exact h1, by rw [hb g rfl h1 (Array.getElem?_eq_some_iff.1 h3).1]; exact h3, h4, fun i c v hc hv => (h5 i c v hc hv).keep hM fun k hk => hu k ?_⟩
    cases hq : Ent.uses k (.blk t cs)
    · have := AV.usesL_false (r := k) (cs := cs) (by simpa [Ent.uses] using hq) i c hc
      rw [this] at hk; cases hk
    · rfl
  | row E size n f =>
    obtain ⟨xs, ⟨h1, h2⟩, h3⟩ := h
    refine ⟨xs, ⟨h1, ?_⟩, fun i hi j hj => ?_⟩
    · rw [hr]
      rcases h2 with h2 | ⟨g, cap, cur, hv, hB, hh, hrest⟩
      · exact .inl h2
      · refine .inr ⟨g, cap, cur, hv, hB, ?_, hrest⟩
        have hg : (ρ r).1 = some g := by
          cases hq : (ρ r).1 with
          | none => rw [hq] at hv; simp [addrOf] at hv
          | some g' => rw [hq] at hv; simp [addrOf] at hv; rw [hv.1]
        rw [hb g rfl hg (Array.getElem?_eq_some_iff.1 hh).1]
        exact hh
    · obtain ⟨u, hu1, hu2, hu3⟩ := h3 i hi j hj
      exact ⟨u, hu1, hu2.mono hM, hu3⟩
  | pub size n f =>
    have h' : DenD M (.lst size n f) (.slice (addrOf (ρ r).1) n (ρ r).2) := h
    show DenD M' (.lst size n f) (.slice (addrOf (ρ' r).1) n (ρ' r).2)
    rw [hr]
    exact h'.mono hM
  | dead => trivial
  | mp P k e L =>
    obtain ⟨g, D, h1, h2, h3⟩ := h
    have hlt := h2.lt
    obtain ⟨es, clock, hh, hrest⟩ := h2
    exact ⟨g, D, by rw [hr]; exact h1, ⟨es, clock, (hb g rfl h1 hlt).trans hh, hrest⟩, h3⟩
  | mpx P k e L es clock gm =>
    obtain ⟨h1, h2, h3⟩ := h
    exact ⟨by rw [hr]; exact h1, (hb gm rfl h1 (Array.getElem?_eq_some_iff.1 h2).1).trans h2, h3⟩
  | it rm gm es clock left cur =>
    obtain ⟨g, since, seen, c0, h1, h3, h4⟩ := h
    exact ⟨g, since, seen, c0, by rw [hr]; exact h1, (hb g rfl h1 (Array.getElem?_eq_some_iff.1 h3).1).trans h3, h4⟩

end Go.Proofs.Ytoeghejbgibioaa

namespace Go.Proofs.Ytoeghejbgibioaa
open Go Go.RowKit
set_option linter.unusedVariables false
set_option linter.unusedSimpArgs false

theorem cell_lt {w : World} {p : Addr} {v : Value} (h : w.cell? p = some v) : p.block < w.heap.size := World.block_lt_of_cell? w p h
theorem below_cell {B : Nat} {w w' : World} (h : Below B w w') {p : Addr} (hp : p.block < B) : w'.cell? p = w.cell? p := h.cell hp

def St.ev (X : Cx) (st : St) : Operand → AV
  | .tmp t => st.get t
  | .const v => match v with
    | .bool true => .tt
    | .bool false => .ff
    | v => .dat (.val v)
  | .global g => match lk g X.G with
    | some (n, c) => .ro n c
    | none => .junk
  | .func f => .dat (.val (.func (.func f) #[] #[]))

theorem Sim.ev {X : Cx} {R : Run} {ρ : Env} {M : Mem} {st : St} {a : Act} {w : World} (h : Sim X R ρ M st a w) (x : Operand) : DenA ρ M (st.ev X x) (a.eval x) := by
  cases x with
  | tmp t => exact h.slots t
  | const v =>
    show DenA ρ M (match v with | .bool true => .tt | .bool false => .ff | v => .dat (.val v)) v
    split
    · exact .tt
    · exact .ff
    · exact .dat (.val _)
  | global g =>
    show DenA ρ M (match lk g X.G with | some (n, c) => .ro n c | none => .junk) _
    cases hg : lk g X.G with
    | none => exact .junk _
    | some q =>
      obtain ⟨n, c⟩ := q
      obtain ⟨u, h1, h2⟩ := h.g0 g n c hg
      exact .ro n c _ u (fun j hj => h.m0 _ _ (h1 j hj)) (fun j hj => (h2 j hj).mono h.m0)
  | func f => exact .dat (.val _)

structure ExtQ (dr : Bool) (ρ : Env) (M : Mem) (w : World) (ρ' : Env) (M' : Mem) (w' : World) (d : Option Nat) (c : AV) (ne : Option Ent) (v : Value) : Prop where
  env : ∀ r, (∀ e, ne = some e → d ≠ some r) → ρ' r = ρ r
  mem : Mem.le M M'
  fresh : ∀ p u, M' p = some u → M p = some u ∨ w.heap.size ≤ p.block
  pub : PubOk M' w'
  bel : Below w.heap.size w w'
  den : DenA ρ' M' c v
  new : ∀ e, ne = some e → ∃ t, d = some t ∧ EntOk ρ' M' w' t e ∧ ∀ g, (ρ' t).1 = some g → w.heap.size ≤ g ∧ ∀ p u, M' p = some u → p.block ≠ g
  drn : dr = true → w.drawn ≤ w'.drawn

def QStep (X : Cx) (o : Oper) (a : Act) (w : World) (ρ : Env) (M : Mem) (c : AV) (ne : Option Ent) : Prop :=
  ∀ (K : Act → World → Prop) (Q : Exit → Act → World → Prop), (∀ v ρ' M' w', ExtQ X.dr ρ M w ρ' M' w' o.dst c ne v → K (a.put o.dst v) w') → o.wp X.P a w K Q

def Astep (X : Cx) (st : St) (o : Oper) (c : AV) (ne : Option Ent) : Prop :=
  ∀ R ρ M a w, Sim X R ρ M st a w → QStep X o a w ρ M c ne

theorem wp_val {P : Program} {o : Oper} {a : Act} {w w' : World} {K : Act → World → Prop} {Q : Exit → Act → World → Prop} {v : Value} (h : (execOp a.eval o).run P w = .ok (.value v) w') (hk : K (a.put o.dst v) w') : o.wp P a w K Q := by
  unfold Oper.wp
  rw [h]
  exact hk

theorem ExtQ.same {dr : Bool} {ρ : Env} {M : Mem} {w : World} {d : Option Nat} {c : AV} {v : Value} (hp : PubOk M w) (h : DenA ρ M c v) : ExtQ dr ρ M w ρ M w d c none v :=
  ⟨fun _ _ => rfl, Mem.le_refl _, fun _ _ h => .inl h, hp, Below.refl _ _, h, fun e he => (by cases he), fun _ => Nat.le_refl _⟩

theorem qval {X : Cx} {o : Oper} {a : Act} {w : World} {ρ : Env} {M : Mem} {c : AV} {v : Value} (hp : PubOk M w) (hr : (execOp a.eval o).run X.P w = .ok (.value v) w) (h : DenA ρ M c v) : QStep X o a w ρ M c none :=
  fun K Q hk => wp_val hr (hk v ρ M w (.same hp h))

inductive Res where
  | no
  | ok (c : AV)
  | new (c : AV) (e : Ent)
  | num (k : IntKind) (e : Int)
  | cnd (p : Prop) (c : AV)
  | cnum (p : Prop) (k : IntKind) (e : Int)
  | cnew (p : Prop) (c : AV) (e : Ent)

structure NumK (k : IntKind) (e : Int) (K : Int → Prop) : Prop where
  ex : ∃ z, z = k.wrap e ∧ K z
structure CndK (p : Prop) (K : Prop) : Prop where
  cnd : p
  nxt : K
structure BrK (e : Bool) (A B : Prop) : Prop where
  yes : e = true → A
  no : e = false → B
theorem NumK.as {k : IntKind} {e : Int} {K : Int → Prop} (z : Int) (h : z = k.wrap e) (hk : K z) : NumK k e K := ⟨z, h, hk⟩
def Res.to (r : Res) (K : AV → Option Ent → Prop) : Prop := match r with
  | .no => False
  | .ok c => K c none
  | .new c e => K c (some e)
  | .num k e => NumK k e fun z => K (.dat (.val (.int k z))) none
  | .cnd p c => CndK p (K c none)
  | .cnum p k e => CndK p (NumK k e fun z => K (.dat (.val (.int k z))) none)
  | .cnew p c e => CndK p (K c (some e))

def Res.sound (X : Cx) (st : St) (o : Oper) (r : Res) : Prop := match r with
  | .no => True
  | .ok c => Astep X st o c none
  | .new c e => Astep X st o c (some e)
  | .num k e => Astep X st o (.dat (.val (.int k (k.wrap e)))) none
  | .cnd p c => p → Astep X st o c none
  | .cnum p k e => p → Astep X st o (.dat (.val (.int k (k.wrap e)))) none
  | .cnew p c e => p → Astep X st o c (some e)

theorem Res.to_sound {X : Cx} {st : St} {o : Oper} {r : Res} (h : r.sound X st o) {K : AV → Option Ent → Prop} (ht : r.to K) : ∃ c ne, K c ne ∧ Astep X st o c ne := by
  cases r with
  | no => exact ht.elim
  | ok c => exact ⟨_, _, ht, h⟩
  | new c e => exact ⟨_, _, ht, h⟩
  | num k e =>
    obtain ⟨z, rfl, hk⟩ := ht.ex
    exact ⟨_, _, hk, h⟩
  | cnd p c => exact ⟨_, _, ht.nxt, h ht.cnd⟩
  | cnum p k e =>
    obtain ⟨z, rfl, hk⟩ := ht.nxt.ex
    exact ⟨_, _, hk, h ht.cnd⟩
  | cnew p c e => exact ⟨_, _, ht.nxt, h ht.cnd⟩

def aggOf (d : TypeDesc) : Bool := match d with
  | .struct _ | .array _ _ => true
  | _ => false
def TK.agg : TK → Bool
  | .struct _ => true
  | .arr .. => true
  | _ => false

def TIok (P : Program) (t : TypeId) (ti : TI) : Prop :=
  (∃ d, P.underlying t = some d ∧ aggOf d = ti.k.agg ∧ (∀ ms, d ≠ .interface ms)) ∧ (∃ i, P.info? t = some i ∧ i.size = ti.size ∧ i.zero = some ti.zero) ∧ match ti.k with
  | .cell => True
  | .struct fs => ∃ fields, P.underlying t = some (.struct fields) ∧ fields.size = fs.length ∧ ∀ (i : Nat) (off sz : Nat), fs[i]? = some (off, sz) → ∃ f, fields[i]? = some f ∧ f.offset = off ∧ ∃ fi, P.info? f.type = some fi ∧ fi.size = sz ∧ sz ≠ 0
  | .slice E es eb ez => P.underlying t = some (.slice E) ∧ ∃ i, P.info? E = some i ∧ i.size = es ∧ i.bytes = eb ∧ i.zero = some ez
  | .arr n E es => P.underlying t = some (.array n E) ∧ ∃ i, P.info? E = some i ∧ i.size = es
  | .str => P.underlying t = some .string
  | .int k => P.underlying t = some (.int k)
  | .bool => P.underlying t = some .bool
  | .map k e => P.underlying t = some (.map k e) ∧ P.underlying k = some .string ∧ P.underlying e = some (.int .i64) ∧ ∃ i, P.info? e = some i ∧ i.zero = some (.int .i64 0)

def Cx.ok (X : Cx) : Prop := ∀ t ti, lk t X.T = some ti → TIok X.P t ti

theorem run_isAgg {P : Program} {t : TypeId} {d : TypeDesc} (h : P.underlying t = some d) (w : World) : (isAgg t).run P w = .ok (aggOf d) w := by
  unfold isAgg
  rw [Sem.run_bind, run_underlying h w]
  cases d <;> rfl
theorem run_sizeOf {P : Program} {t : TypeId} {i : TypeInfo} (h : P.info? t = some i) (w : World) : (sizeOf t).run P w = .ok i.size w := by
  simp [sizeOf, typeInfo, h]

theorem run_loadVar_cells {P : Program} {t : TypeId} {ti : TI} (ht : TIok P t ti) (hk : ti.k.agg = true) (w : World) (ad : Addr) (cs : List Value) (hn : cs.length = ti.size)
    (hc : ∀ (j : Nat) (v : Value), cs[j]? = some v → w.cell? (ad.add j) = some v) : (loadVar t ad).run P w = .ok (.agg cs.toArray) w := by
  obtain ⟨⟨d, hd, hag, _⟩, ⟨i, hi, hs, _⟩, _⟩ := ht
  unfold loadVar
  rw [Sem.run_bind, run_isAgg hd w]
  simp only [Result.andThen_ok, hag, hk, if_true, Sem.run_bind, run_sizeOf hi w, hs, ← hn, run_loadCells_list (P := P) w ad cs hc, Sem.run_pure]
theorem run_loadVar_cell {P : Program} {t : TypeId} {ti : TI} (ht : TIok P t ti) (hk : ti.k.agg = false) (w : World) (ad : Addr) (v : Value) (hc : w.cell? ad = some v) : (loadVar t ad).run P w = .ok v w := by
  obtain ⟨⟨d, hd, hag, _⟩, ⟨i, hi, hs, _⟩, _⟩ := ht
  unfold loadVar
  rw [Sem.run_bind, run_isAgg hd w]
  simp [hag, hk, hc]

theorem add_off (g o j : Nat) : (⟨g, o, none⟩ : Addr).add j = ⟨g, o + j, none⟩ := by
  unfold Addr.add
  split
  · rename_i h; subst h; rfl
  · rfl
theorem add_add (a : Addr) (i j : Nat) : (a.add i).add j = a.add (i + j) := by
  unfold Addr.add
  by_cases hi : i = 0 <;> by_cases hj : j = 0 <;> simp [hi, hj, Nat.add_assoc]
theorem add_block (a : Addr) (n : Nat) : (a.add n).block = a.block := by unfold Addr.add; split <;> rfl
theorem add_zero (a : Addr) : a.add 0 = a := rfl

section
variable {X : Cx} {st : St} {o : Oper}

theorem s_move {x : Operand} (ho : o.op = .move x ∨ o.op = .assign x) : Astep X st o (st.ev X x) none := by
  intro R ρ M a w h
  refine qval h.pub (v := a.eval x) ?_ (h.ev x)
  unfold execOp
  rcases ho with ho | ho <;> simp [ho]

def evPick (X : Cx) (st : St) (c x y : Operand) : Res := match st.ev X c with
  | .tt => .ok (st.ev X x)
  | .ff => .ok (st.ev X y)
  | _ => .no
theorem s_pick {c x y : Operand} (ho : o.op = .pick c x y) : (evPick X st c x y).sound X st o := by
  unfold evPick
  split
  · rename_i hc
    intro R ρ M a w h
    have h1 := h.ev c
    rw [hc] at h1
    generalize hv : a.eval c = v at h1
    cases h1
    refine qval h.pub (v := a.eval x) ?_ (h.ev x)
    unfold execOp
    simp [ho, hv, asBool]
  · rename_i hc
    intro R ρ M a w h
    have h1 := h.ev c
    rw [hc] at h1
    generalize hv : a.eval c = v at h1
    cases h1
    refine qval h.pub (v := a.eval y) ?_ (h.ev y)
    unfold execOp
    simp [ho, hv, asBool]
  · trivial

def upd (ρ : Env) (t : Nat) (q : Option Nat × Nat) : Env := fun r => if r = t then q else ρ r
theorem upd_same (ρ : Env) (t : Nat) (q : Option Nat × Nat) : upd ρ t q t = q := if_pos rfl
theorem upd_ne (ρ : Env) {t r : Nat} (h : r ≠ t) (q : Option Nat × Nat) : upd ρ t q r = ρ r := if_neg h

theorem PubOk.alloc {M : Mem} {w : World} (h : PubOk M w) (ob : Obj) : PubOk M (w.alloc ob) := fun p v hp => by
  obtain ⟨h1, h2⟩ := h p v hp
  exact ⟨(World.cell?_alloc_lt w ob p (cell_lt h1)).trans h1, h2⟩
theorem PubOk.off {M : Mem} {w : World} (h : PubOk M w) {p : Addr} {v : Value} (hp : M p = some v) : p.block ≠ w.heap.size := by
  have := cell_lt (h p v hp).1
  omega

def oneV : Value → Bool
  | .agg _ | .tuple _ => false
  | _ => true
theorem oneV_cells {v : Value} (h : oneV v = true) : v.cells = #[v] := by cases v <;> first | rfl | cases h
theorem oneV_one {v : Value} (h : oneV v = true) : v.oneCell' = true := by cases v <;> first | rfl | cases h
def AV.cells : AV → Option (List AV)
  | .agg cs => some cs
  | .tt => some [.tt]
  | .ff => some [.ff]
  | .dat (.val v) => match oneV v with
    | true => some [.dat (.val v)]
    | false => none
  | .dat (.lst s n f) => some [.dat (.lst s n f)]
  | .ptr r off => some [.ptr r off]
  | .ro n c => some [.ro n c]
  | .own r s l n => some [.own r s l n]
  | .rptr r s k j => some [.rptr r s k j]
  | .clo f cs => some [.clo f cs]
  | .mp r => some [.mp r]
  | _ => none
theorem AV.cells_den {ρ : Env} {M : Mem} {c : AV} {v : Value} {cs : List AV} (h : DenA ρ M c v) (hc : c.cells = some cs) : cs.length = v.cells.size ∧ ∀ (i : Nat) (c : AV) (u : Value), cs[i]? = some c → v.cells[i]? = some u → DenA ρ M c u := by
  have one : ∀ {c : AV} {v : Value}, DenA ρ M c v → v.cells = #[v] → ([c].length = v.cells.size ∧ ∀ (i : Nat) (c' : AV) (u : Value), [c][i]? = some c' → v.cells[i]? = some u → DenA ρ M c' u) := by
    intro c v h hv
    rw [hv]
    refine ⟨rfl, fun i c' u h1 h2 => ?_⟩
    cases i with
    | zero => simp at h1 h2; subst h1 h2; exact h
    | succ i => simp at h1
  cases c with
  | agg l =>
    cases hc
    cases h with
    | agg _ vs hl hh => exact ⟨by simpa [Value.cells] using hl, fun i c u h1 h2 => hh i c u h1 (by simpa [Value.cells] using h2)⟩
  | tt => cases hc; cases h; exact one .tt rfl
  | ff => cases hc; cases h; exact one .ff rfl
  | dat d =>
    cases d with
    | val x =>
      simp only [AV.cells] at hc
      cases hq : oneV x with
      | false => rw [hq] at hc; cases hc
      | true =>
        rw [hq] at hc
        cases hc
        cases h with
        | dat h => cases h; exact one (.dat (.val _)) (oneV_cells hq)
    | lst s n f =>
      cases hc
      cases h with
      | dat h => cases h with
        | lst _ _ _ A cap u hn hcp hA hm hd => exact one (.dat (.lst s n f A cap u hn hcp hA hm hd)) rfl
  | ptr r off => cases hc; cases h with | ptr _ _ g h => exact one (.ptr r off g h) rfl
  | ro n c => cases hc; cases h with | ro _ _ ad u hm hd => exact one (.ro n c ad u hm hd) rfl
  | own r s l n => cases hc; cases h with | own => exact one (.own r s l n) rfl
  | rptr r s k j => cases hc; cases h with | rptr _ _ _ _ g h => exact one (.rptr r s k j g h) rfl
  | junk => cases hc
  | tup l => cases hc
  | clo f l => cases hc; cases h with | clo _ _ vs hl hh => exact one (.clo f l vs hl hh) rfl
  | mp r => cases hc; cases h with | mp _ g h => exact one (.mp r g h) rfl

theorem extq_blk {dr : Bool} {ρ : Env} {M : Mem} {w : World} {t : Nat} {E : TypeId} {cs : List AV} {vs : Array Value} (hp : PubOk M w) (hl : cs.length = vs.size) (hc : ∀ (i : Nat) (c : AV) (u : Value), cs[i]? = some c → vs[i]? = some u → DenA ρ M c u) (hu : AV.uses.usesL t cs = false) :
    ExtQ dr ρ M w (upd ρ t (some w.heap.size, 0)) M (w.alloc (.cells vs E)) (some t) (.ptr t 0) (some (.blk E cs)) (.pointer (some ⟨w.heap.size, 0, none⟩)) where
  env r hr := upd_ne ρ (fun e => hr _ rfl (by rw [e])) _
  mem := Mem.le_refl _
  fresh p u h := .inl h
  pub := hp.alloc _
  bel := (Below.refl _ _).alloc (Nat.le_refl _) _
  den := .ptr t 0 _ (by rw [upd_same])
  drn _ := Nat.le_refl _
  new e he := by
    cases he
    refine ⟨t, rfl, ⟨w.heap.size, vs, by rw [upd_same], heap_alloc_new w _, hl, fun i c v h1 h2 => (hc i c v h1 h2).keep (Mem.le_refl _) fun r hr => upd_ne ρ (fun e => ?_) _⟩, fun g hg => ?_⟩
    · subst e
      rw [AV.usesL_false hu i c h1] at hr
      cases hr
    · rw [upd_same] at hg
      cases hg
      exact ⟨Nat.le_refl _, fun p u hpu => hp.off hpu⟩

theorem run_newVar (P : Program) (w : World) (t : TypeId) (v : Value) : (newVar t v).run P w = .ok ⟨w.heap.size, 0, none⟩ (w.alloc (.cells v.cells t)) := rfl

def evBox (X : Cx) (st : St) (d : Option Nat) (E : TypeId) (x : Operand) : Res := match d with
  | none => .no
  | some t => match (st.ev X x).cells with
    | none => .no
    | some cs => match AV.uses.usesL t cs with
      | true => .no
      | false => .new (.ptr t 0) (.blk E cs)
theorem s_box {E : TypeId} {x : Operand} (ho : o.op = .box E x) : (evBox X st o.dst E x).sound X st o := by
  unfold evBox
  split
  · trivial
  rename_i t hd
  split
  · trivial
  rename_i cs hcs
  split
  · trivial
  rename_i hu
  intro R ρ M a w h K Q hk
  obtain ⟨h1, h2⟩ := AV.cells_den (h.ev x) hcs
  refine wp_val (v := .pointer (some ⟨w.heap.size, 0, none⟩)) (w' := w.alloc (.cells (a.eval x).cells E)) ?_ (hk _ _ _ _ (by rw [hd]; exact extq_blk h.pub h1 h2 hu))
  unfold execOp
  simp [ho, Instr.box, run_newVar]

def valAV (v : Value) : AV := match v with
  | .bool true => .tt
  | .bool false => .ff
  | v => .dat (.val v)
theorem valAV_den (ρ : Env) (M : Mem) (v : Value) : DenA ρ M (valAV v) v := by
  unfold valAV
  split
  · exact .tt
  · exact .ff
  · exact .dat (.val _)
theorem valAV_uses (t : Nat) (v : Value) : AV.uses t (valAV v) = false := by
  unfold valAV
  split <;> rfl
def cellsV (v : Value) : List AV := v.cells.toList.map valAV
theorem cellsV_den (ρ : Env) (M : Mem) (v : Value) : (cellsV v).length = v.cells.size ∧ ∀ (i : Nat) (c : AV) (u : Value), (cellsV v)[i]? = some c → v.cells[i]? = some u → DenA ρ M c u := by
  refine ⟨by simp [cellsV], fun i c u h1 h2 => ?_⟩
  unfold cellsV at h1
  rw [List.getElem?_map] at h1
  have h3 : v.cells.toList[i]? = some u := by simpa using h2
  rw [h3] at h1
  cases h1
  exact valAV_den ρ M u
theorem cellsV_uses (t : Nat) (v : Value) : AV.uses.usesL t (cellsV v) = false := by
  unfold cellsV
  generalize v.cells.toList = l
  induction l with
  | nil => rfl
  | cons u l ih => simp only [List.map_cons, AV.uses.usesL, ih, Bool.or_false, valAV_uses]

def evAlloc (X : Cx) (d : Option Nat) (E : TypeId) : Res := match d with
  | none => .no
  | some t => match lk E X.T with
    | none => .no
    | some ti => .new (.ptr t 0) (.blk E (cellsV ti.zero))
theorem s_alloc (hX : X.ok) {E : TypeId} (ho : o.op = .alloc E) : (evAlloc X o.dst E).sound X st o := by
  unfold evAlloc
  split
  · trivial
  rename_i t hd
  split
  · trivial
  rename_i ti hti
  obtain ⟨_, ⟨i, hi, _, hz⟩, _⟩ := hX E ti hti
  intro R ρ M a w h K Q hk
  obtain ⟨h1, h2⟩ := cellsV_den ρ M ti.zero
  refine wp_val (v := .pointer (some ⟨w.heap.size, 0, none⟩)) (w' := w.alloc (.cells ti.zero.cells E)) ?_ (hk _ _ _ _ (by rw [hd]; exact extq_blk h.pub h1 h2 (cellsV_uses t _)))
  unfold execOp
  simp [ho, Instr.alloc, run_newVar, zeroValue, typeInfo, hi, hz]

end
end Go.Proofs.Ytoeghejbgibioaa

namespace Go.Proofs.Ytoeghejbgibioaa
open Go Go.RowKit
set_option linter.unusedVariables false
set_option linter.unusedSimpArgs false

theorem take_drop_at {α : Type} {l : List α} {off n j : Nat} {v : α} (h : ((l.drop off).take n)[j]? = some v) : j < n ∧ l[off + j]? = some v := by
  rw [List.getElem?_take] at h
  split at h
  · rename_i hj
    rw [List.getElem?_drop] at h
    exact ⟨hj, h⟩
  · cases h
theorem range_map_at {α : Type} {f : Nat → α} {n j : Nat} {v : α} (h : ((List.range n).map f)[j]? = some v) : j < n ∧ v = f j := by
  rcases Nat.lt_or_ge j n with hj | hj
  · rw [List.getElem?_map, List.getElem?_range hj] at h
    exact ⟨hj, (Option.some.inj h).symm⟩
  · rw [List.getElem?_eq_none (by simpa using hj)] at h
    cases h

section
variable {X : Cx} {st : St} {o : Oper}

theorem ptr_of {ρ : Env} {M : Mem} {r off : Nat} {v : Value} (h : DenA ρ M (.ptr r off) v) : ∃ g, (ρ r).1 = some g ∧ v = .pointer (some ⟨g, off, none⟩) := by
  cases h with
  | ptr _ _ g h => exact ⟨g, h, rfl⟩
theorem ro_of {ρ : Env} {M : Mem} {n : Nat} {c : Nat → D} {v : Value} (h : DenA ρ M (.ro n c) v) : ∃ (ad : Addr) (u : Nat → Value), v = .pointer (some ad) ∧ (∀ j, j < n → M (ad.add j) = some (u j)) ∧ ∀ j, j < n → DenD M (c j) (u j) := by
  cases h with
  | ro _ _ ad u hm hd => exact ⟨ad, u, rfl, hm, hd⟩
theorem rptr_of {ρ : Env} {M : Mem} {r s k j : Nat} {v : Value} (h : DenA ρ M (.rptr r s k j) v) : ∃ g, (ρ r).1 = some g ∧ v = .pointer (some ⟨g, k * s + j, none⟩) := by
  cases h with
  | rptr _ _ _ _ g h => exact ⟨g, h, rfl⟩
theorem own_of {ρ : Env} {M : Mem} {r s lo n : Nat} {v : Value} (h : DenA ρ M (.own r s lo n) v) : v = .slice (partOf (ρ r).1 (ρ r).2 s lo) n ((ρ r).2 - lo) := by cases h; rfl
theorem val_of {ρ : Env} {M : Mem} {x v : Value} (h : DenA ρ M (.dat (.val x)) v) : v = x := by
  cases h with
  | dat h => cases h; rfl
theorem lst_of {ρ : Env} {M : Mem} {s n : Nat} {f : Nat → Nat → D} {v : Value} (h : DenA ρ M (.dat (.lst s n f)) v) :
    ∃ (A : Option Addr) (cap : Nat) (u : Nat → Nat → Value), v = .slice A n cap ∧ n ≤ cap ∧ cap ≤ maxLen ∧ (A = none → cap = 0) ∧ (∀ ad, A = some ad → ∀ i, i < n → ∀ j, j < s → M (ad.add (i * s + j)) = some (u i j)) ∧ ∀ i, i < n → ∀ j, j < s → DenD M (f i j) (u i j) := by
  cases h with
  | dat h => cases h with
    | lst _ _ _ A cap u hn hc hA hm hd => exact ⟨A, cap, u, rfl, hn, hc, hA, hm, hd⟩
theorem agg_of {ρ : Env} {M : Mem} {cs : List AV} {v : Value} (h : DenA ρ M (.agg cs) v) : ∃ vs : List Value, v = .agg vs.toArray ∧ cs.length = vs.length ∧ ∀ (i : Nat) (c : AV) (u : Value), cs[i]? = some c → vs[i]? = some u → DenA ρ M c u := by
  cases h with
  | agg _ vs hl h => exact ⟨vs, rfl, hl, h⟩
theorem tup_of {ρ : Env} {M : Mem} {cs : List AV} {v : Value} (h : DenA ρ M (.tup cs) v) : ∃ vs : List Value, v = .tuple vs.toArray ∧ cs.length = vs.length ∧ ∀ (i : Nat) (c : AV) (u : Value), cs[i]? = some c → vs[i]? = some u → DenA ρ M c u := by
  cases h with
  | tup _ vs hl h => exact ⟨vs, rfl, hl, h⟩

theorem row_cell {ρ : Env} {M : Mem} {w : World} {r : Nat} {E : TypeId} {s n : Nat} {f : Nat → Nat → D} (h : EntOk ρ M w r (.row E s n f)) {g : Nat} (hg : (ρ r).1 = some g) {k : Nat} (hk : k < n) {j : Nat} (hj : j < s) :
    ∃ u, w.cell? ⟨g, k * s + j, none⟩ = some u ∧ DenD M (f k j) u ∧ u.oneCell' = true := by
  obtain ⟨xs, h1, h2⟩ := h
  obtain ⟨u, hu, hd, ho⟩ := h2 k hk j hj
  have hc := h1.cells (g := g) (by rw [hg]; rfl) _ u hu
  rw [add_off, Nat.zero_add] at hc
  exact ⟨u, hc, hd, ho⟩
theorem pub_cell {ρ : Env} {M : Mem} {w : World} {r : Nat} {s n : Nat} {f : Nat → Nat → D} (hp : PubOk M w) (h : EntOk ρ M w r (.pub s n f)) {g : Nat} (hg : (ρ r).1 = some g) {k : Nat} (hk : k < n) {j : Nat} (hj : j < s) :
    ∃ u, w.cell? ⟨g, k * s + j, none⟩ = some u ∧ DenD M (f k j) u ∧ u.oneCell' = true := by
  have h' : DenD M (.lst s n f) (.slice (addrOf (ρ r).1) n (ρ r).2) := h
  rw [hg] at h'
  cases h' with
  | lst _ _ _ A cap u hn hc hA hm hd =>
    have := hm ⟨g, 0, none⟩ rfl k hk j hj
    rw [add_off, Nat.zero_add] at this
    exact ⟨_, (hp _ _ this).1, hd k hk j hj, (hp _ _ this).2⟩

def rowOf (e : Option Ent) (s : Nat) : Option (Nat × (Nat → Nat → D)) := match e with
  | some (.row _ s' n f) => match Nat.beq s s' with
    | true => some (n, f)
    | false => none
  | some (.pub s' n f) => match Nat.beq s s' with
    | true => some (n, f)
    | false => none
  | _ => none
theorem rowOf_cell {R : Run} {ρ : Env} {M : Mem} {a : Act} {w : World} (h : Sim X R ρ M st a w) {r s n : Nat} {f : Nat → Nat → D} (hr : rowOf (st.ent r) s = some (n, f)) {g : Nat} (hg : (ρ r).1 = some g) {k : Nat} (hk : k < n) {j : Nat} (hj : j < s) :
    ∃ u, w.cell? ⟨g, k * s + j, none⟩ = some u ∧ DenD M (f k j) u ∧ u.oneCell' = true := by
  unfold rowOf at hr
  split at hr
  · rename_i E s' n' f' he
    split at hr
    · rename_i hb
      cases hr
      obtain rfl := Nat.eq_of_beq_eq_true hb
      exact row_cell (h.ents r _ he) hg hk hj
    · cases hr
  · rename_i s' n' f' he
    split at hr
    · rename_i hb
      cases hr
      obtain rfl := Nat.eq_of_beq_eq_true hb
      exact pub_cell h.pub (h.ents r _ he) hg hk hj
    · cases hr
  · cases hr
theorem rowOf_cap {R : Run} {ρ : Env} {M : Mem} {a : Act} {w : World} (h : Sim X R ρ M st a w) {r s n : Nat} {f : Nat → Nat → D} (hr : rowOf (st.ent r) s = some (n, f)) : n ≤ (ρ r).2 ∧ (ρ r).2 ≤ maxLen ∧ ((ρ r).1 = none → (ρ r).2 = 0) := by
  unfold rowOf at hr
  split at hr
  · rename_i E s' n' f' he
    split at hr
    · cases hr
      obtain ⟨xs, ⟨_, h1⟩, _⟩ := h.ents r _ he
      rcases h1 with ⟨h1, h2⟩ | ⟨g, cap, cur, hv, _, _, h3, h4, _⟩
      · have e1 : addrOf (ρ r).1 = none := by injection h1
        have e2 : (ρ r).2 = 0 := by injection h1
        subst h2
        exact ⟨Nat.zero_le _, by rw [e2]; exact Nat.zero_le _, fun _ => e2⟩
      · have e2 : (ρ r).2 = cap := by injection hv
        have e1 : addrOf (ρ r).1 = some ⟨g, 0, none⟩ := by injection hv
        rw [e2]
        exact ⟨h3, h4, fun hn => by rw [hn] at e1; cases e1⟩
    · cases hr
  · rename_i s' n' f' he
    split at hr
    · cases hr
      have h' : DenD M (.lst s' n f) (.slice (addrOf (ρ r).1) n (ρ r).2) := h.ents r _ he
      generalize hA' : addrOf (ρ r).1 = A' at h'
      generalize (ρ r).2 = cp at h'
      cases h' with
      | lst _ _ _ A cap u hn hc hA hm hd => exact ⟨hn, hc, fun hn0 => hA (by rw [← hA', hn0]; rfl)⟩
    · cases hr
  · cases hr

def evLoad (X : Cx) (st : St) (t : TypeId) (p : Operand) : Res := match lk t X.T with
  | none => .no
  | some ti => match st.ev X p with
    | .ptr r off => match st.ent r with
      | some (.blk _ cs) => match ti.k.agg with
        | true => match Nat.ble (off + ti.size) cs.length with
          | true => .ok (.agg ((cs.drop off).take ti.size))
          | false => .no
        | false => match cs[off]? with
          | some c => .ok c
          | none => .no
      | _ => .no
    | .ro n c => match ti.k.agg with
      | true => match Nat.ble ti.size n with
        | true => .ok (.agg ((List.range ti.size).map fun j => .dat (c j)))
        | false => .no
      | false => match Nat.ble 1 n with
        | true => .ok (.dat (c 0))
        | false => .no
    | .rptr r s k j => match rowOf (st.ent r) s with
      | none => .no
      | some (n, f) => match ti.k.agg with
        | true => match Nat.ble (j + ti.size) s with
          | true => .cnd (k < n) (.agg ((List.range ti.size).map fun i => .dat (f k (j + i))))
          | false => .no
        | false => match Nat.ble (j + 1) s with
          | true => .cnd (k < n) (.dat (f k j))
          | false => .no
    | _ => .no

theorem run_load_op {P : Program} {a : Act} {t : TypeId} {p : Operand} (ho : o.op = .load t p) {ad : Addr} (hp : a.eval p = .pointer (some ad)) {w : World} {v : Value} (h : (loadVar t ad).run P w = .ok v w) : (execOp a.eval o).run P w = .ok (.value v) w := by
  unfold execOp
  simp [ho, Instr.loadAt, Instr.sureAddr, hp, h]

theorem s_load (hX : X.ok) {t : TypeId} {p : Operand} (ho : o.op = .load t p) : (evLoad X st t p).sound X st o := by
  unfold evLoad
  split
  · trivial
  rename_i ti hti
  have hT := hX t ti hti
  split
  · rename_i r off hp
    split
    · rename_i E cs he
      split
      · rename_i hag
        split
        · rename_i hle
          have hle := Nat.le_of_ble_eq_true hle
          intro R ρ M a w h
          obtain ⟨g, hg, hv⟩ := ptr_of (hp ▸ h.ev p)
          obtain ⟨g', vs, hg', hh, hl, hc⟩ := h.ents r _ he
          rw [hg] at hg'; cases hg'
          have hlen : ((vs.toList.drop off).take ti.size).length = ti.size := by simp; omega
          refine qval h.pub (run_load_op ho hv (run_loadVar_cells hT hag w _ ((vs.toList.drop off).take ti.size) hlen fun j v hj => ?_)) (.agg _ _ (by rw [hlen]; simp; omega) fun i c v hi hv => ?_)
          · obtain ⟨_, h2⟩ := take_drop_at hj
            rw [add_off, cell_of_row w g (off + j) vs E (0, 0) hh]
            simpa using h2
          · obtain ⟨_, h1⟩ := take_drop_at hi
            obtain ⟨_, h2⟩ := take_drop_at hv
            exact hc _ _ _ h1 (by simpa using h2)
        · trivial
      · rename_i hag
        split
        · rename_i c hcs
          intro R ρ M a w h
          obtain ⟨g, hg, hv⟩ := ptr_of (hp ▸ h.ev p)
          obtain ⟨g', vs, hg', hh, hl, hc⟩ := h.ents r _ he
          rw [hg] at hg'; cases hg'
          have hlt : off < vs.size := by
            have := (List.getElem?_eq_some_iff.1 hcs).1
            omega
          refine qval h.pub (run_load_op ho hv (run_loadVar_cell hT hag w _ vs[off] ?_)) (hc off c _ hcs (by simp [hlt]))
          rw [cell_of_row w g off vs E (0, 0) hh]
          simp [hlt]
        · trivial
    · trivial
  · rename_i n c hp
    split
    · rename_i hag
      split
      · rename_i hle
        have hle := Nat.le_of_ble_eq_true hle
        intro R ρ M a w h
        obtain ⟨ad, u, hv, hm, hd⟩ := ro_of (hp ▸ h.ev p)
        refine qval h.pub (run_load_op ho hv (run_loadVar_cells hT hag w _ ((List.range ti.size).map u) (by simp) fun j v hj => ?_)) (.agg _ _ (by simp) fun i c' v hi hv => ?_)
        · obtain ⟨hj1, rfl⟩ := range_map_at hj
          exact (h.pub _ _ (hm j (by omega))).1
        · obtain ⟨hi1, rfl⟩ := range_map_at hi
          obtain ⟨_, rfl⟩ := range_map_at hv
          exact .dat (hd i (by omega))
      · trivial
    · rename_i hag
      split
      · rename_i hle
        have hle := Nat.le_of_ble_eq_true hle
        intro R ρ M a w h
        obtain ⟨ad, u, hv, hm, hd⟩ := ro_of (hp ▸ h.ev p)
        exact qval h.pub (run_load_op ho hv (run_loadVar_cell hT hag w _ (u 0) (h.pub _ _ (hm 0 (by omega))).1)) (.dat (hd 0 (by omega)))
      · trivial
  · rename_i r s k j hp
    split
    · trivial
    rename_i n f hr
    split
    · rename_i hag
      split
      · rename_i hle
        have hle := Nat.le_of_ble_eq_true hle
        intro hk R ρ M a w h
        obtain ⟨g, hg, hv⟩ := rptr_of (hp ▸ h.ev p)
        have hcell := fun i (hi : i < ti.size) => rowOf_cell h hr hg hk (j := j + i) (by omega)
        have hch : ∃ u : Nat → Value, ∀ i, i < ti.size → w.cell? ⟨g, k * s + (j + i), none⟩ = some (u i) ∧ DenD M (f k (j + i)) (u i) := by
          refine ⟨fun i => if hi : i < ti.size then (hcell i hi).choose else undef, fun i hi => ?_⟩
          have := (hcell i hi).choose_spec
          simp only [dif_pos hi]
          exact ⟨this.1, this.2.1⟩
        obtain ⟨u, hu⟩ := hch
        refine qval h.pub (run_load_op ho hv (run_loadVar_cells hT hag w _ ((List.range ti.size).map u) (by simp) fun i v hi => ?_)) (.agg _ _ (by simp) fun i c' v hi hv => ?_)
        · obtain ⟨hi1, rfl⟩ := range_map_at hi
          rw [add_off, Nat.add_assoc]
          exact (hu i hi1).1
        · obtain ⟨hi1, rfl⟩ := range_map_at hi
          obtain ⟨_, rfl⟩ := range_map_at hv
          exact .dat (hu i hi1).2
      · trivial
    · rename_i hag
      split
      · rename_i hle
        have hle := Nat.le_of_ble_eq_true hle
        intro hk R ρ M a w h
        obtain ⟨g, hg, hv⟩ := rptr_of (hp ▸ h.ev p)
        obtain ⟨u, hu, hd, _⟩ := rowOf_cell h hr hg hk (j := j) (by omega)
        exact qval h.pub (run_load_op ho hv (run_loadVar_cell hT hag w _ u hu)) (.dat hd)
      · trivial
  · trivial

def evFieldAddr (X : Cx) (st : St) (t : TypeId) (p : Operand) (i : Nat) : Res := match lk t X.T with
  | some ⟨.struct fs, _, _⟩ => match fs[i]? with
    | none => .no
    | some (off, sz) => match st.ev X p with
      | .ptr r o => .ok (.ptr r (o + off))
      | .ro n c => match Nat.ble off n with
        | true => .ok (.ro (n - off) fun j => c (off + j))
        | false => .no
      | .rptr r s k j => .ok (.rptr r s k (j + off))
      | _ => .no
  | _ => .no

theorem s_fieldAddr (hX : X.ok) {t : TypeId} {p : Operand} {i : Nat} (ho : o.op = .fieldAddr t p i) : (evFieldAddr X st t p i).sound X st o := by
  unfold evFieldAddr
  split
  · rename_i fs sz0 z0 hti
    obtain ⟨_, _, fields, hf, _, hfs⟩ := hX t _ hti
    split
    · trivial
    rename_i off sz hi
    obtain ⟨f, hfi, hoff, fi, hinf, hfs1, hfs2⟩ := hfs i off sz hi
    have hrun : ∀ {a : Act} {w : World} {ad : Addr}, a.eval p = .pointer (some ad) → (execOp a.eval o).run X.P w = .ok (.value (.pointer (some (ad.add off)))) w := by
      intro a w ad hp
      have hsz : fi.size ≠ 0 := by rw [hfs1]; exact hfs2
      unfold execOp
      simp [ho, Instr.fieldAt, Instr.sureAddr, hp, run_underlying hf, hfi, fieldPlace, run_sizeOf hinf, hsz, hoff]
    split
    · rename_i r off0 hp
      intro R ρ M a w h
      obtain ⟨g, hg, hv⟩ := ptr_of (hp ▸ h.ev p)
      exact qval h.pub (hrun hv) (by rw [add_off]; exact .ptr r _ g hg)
    · rename_i n c hp
      split
      · rename_i hle
        have hle := Nat.le_of_ble_eq_true hle
        intro R ρ M a w h
        obtain ⟨ad, u, hv, hm, hd⟩ := ro_of (hp ▸ h.ev p)
        exact qval h.pub (hrun hv) (.ro _ _ _ (fun j => u (off + j)) (fun j hj => by rw [add_add]; exact hm _ (by omega)) (fun j hj => hd _ (by omega)))
      · trivial
    · rename_i r s k j hp
      intro R ρ M a w h
      obtain ⟨g, hg, hv⟩ := rptr_of (hp ▸ h.ev p)
      exact qval h.pub (hrun hv) (by rw [add_off, Nat.add_assoc]; exact .rptr r s k _ g hg)
    · trivial
  · trivial

def evField (X : Cx) (st : St) (t : TypeId) (x : Operand) (i : Nat) (ft : Option TI) : Res := match lk t X.T with
  | some ⟨.struct fs, _, _⟩ => match fs[i]? with
    | none => .no
    | some (off, sz) => match st.ev X x with
      | .agg cs => match Nat.beq sz 1 with
        | true => match cs[off]? with
          | some c => .ok c
          | none => .no
        | false => .no
      | _ => .no
  | _ => .no

def evIndexAddr (X : Cx) (st : St) (t : TypeId) (x i : Operand) : Res := match st.ev X i with
  | .dat (.val (.int _ z)) => match lk t X.T with
    | some ⟨.slice E es _ _, _, _⟩ => match st.ev X x with
      | .dat (.lst s n f) => match Nat.beq es s with
        | true => .cnd (0 ≤ z ∧ z < (n : Int)) (.ro s fun j => f z.toNat j)
        | false => .no
      | .own r s lo m => match Nat.beq es s with
        | true => match rowOf (st.ent r) s with
          | some (n, f) => .cnd (0 ≤ z ∧ z < (m : Int) ∧ lo + m ≤ n) (.rptr r s (lo + z.toNat) 0)
          | none => .no
        | false => .no
      | .dat (.val (.slice a m c)) => match X.kb with
        | (q, (b, c')) :: _ => match rowOf (st.ent q) es with
          | some (n, f) => .cnd (a = addrOf b ∧ c = c' ∧ 0 ≤ z ∧ z < (m : Int) ∧ m ≤ n) (.rptr q es z.toNat 0)
          | none => .no
        | [] => .no
      | _ => .no
    | some ⟨.arr n E es, _, _⟩ => match st.ev X x with
      | .ro m c => match Nat.ble (n * es) m with
        | true => .cnd (0 ≤ z ∧ z < (n : Int)) (.ro es fun j => c (z.toNat * es + j))
        | false => .no
      | .ptr r off => .cnd (0 ≤ z ∧ z < (n : Int)) (.ptr r (off + z.toNat * es))
      | _ => .no
    | _ => .no
  | _ => .no

theorem partOf_some {ρ : Env} {r s lo : Nat} {g : Nat} (hg : (ρ r).1 = some g) (hlo : lo < (ρ r).2) : partOf (ρ r).1 (ρ r).2 s lo = some ⟨g, lo * s, none⟩ := by
  unfold partOf
  rw [if_neg (by omega), hg]
  show some ((⟨g, 0, none⟩ : Addr).add (lo * s)) = _
  rw [add_off, Nat.zero_add]

theorem s_indexAddr (hX : X.ok) {t : TypeId} {x i : Operand} (ho : o.op = .indexAddr t x i) : (evIndexAddr X st t x i).sound X st o := by
  unfold evIndexAddr
  split
  · rename_i k z hi
    split
    · rename_i E es eb ez sz0 z0 hti
      obtain ⟨_, _, hu, ie, hie, hsz, _⟩ := hX t _ hti
      have hrun : ∀ {a : Act} {w : World} {ad : Addr} {n cap : Nat}, a.eval i = .int k z → a.eval x = .slice (some ad) n cap → 0 ≤ z → z < (n : Int) → (execOp a.eval o).run X.P w = .ok (.value (.pointer (some (ad.add (z.toNat * es))))) w := by
        intro a w ad n cap h1 h2 h3 h4
        have : 0 ≤ z ∧ z < (n : Int) := ⟨h3, h4⟩
        unfold execOp
        simp [ho, Instr.indexAt, asIntOf, h1, h2, run_underlying hu, this, run_sizeOf hie, hsz]
      split
      · rename_i s n f hx
        split
        · rename_i hb
          obtain rfl := Nat.eq_of_beq_eq_true hb
          intro hz R ρ M a w h
          obtain ⟨A, cap, u, hv, hn, hc, hA, hm, hd⟩ := lst_of (hx ▸ h.ev x)
          have hiv := val_of (hi ▸ h.ev i)
          cases A with
          | none => have := hA rfl; omega
          | some ad =>
            have hlt : z.toNat < n := by omega
            exact qval h.pub (hrun hiv hv hz.1 hz.2) (.ro _ _ _ (fun j => u z.toNat j) (fun j hj => by rw [add_add]; exact hm ad rfl _ hlt j hj) (fun j hj => hd _ hlt j hj))
        · trivial
      · rename_i r s lo m hx
        split
        · rename_i hb
          obtain rfl := Nat.eq_of_beq_eq_true hb
          split
          · rename_i n f hr
            intro hz R ρ M a w h
            obtain ⟨hz1, hz2, hz3⟩ := hz
            obtain ⟨hc1, hc2, hc3⟩ := rowOf_cap h hr
            have hv := own_of (hx ▸ h.ev x)
            have hiv := val_of (hi ▸ h.ev i)
            cases hg : (ρ r).1 with
            | none => have := hc3 hg; omega
            | some g =>
              rw [partOf_some hg (by omega)] at hv
              refine qval h.pub (hrun hiv hv hz1 hz2) ?_
              rw [add_off, ← Nat.add_mul]
              exact .rptr r es _ 0 g hg
          · trivial
        · trivial
      · rename_i a0 m c hx
        split
        · rename_i q b c' tl hkb
          split
          · rename_i n f hr
            intro hz R ρ M a w h
            obtain ⟨rfl, rfl, hz1, hz2, hz3⟩ := hz
            obtain ⟨hc1, hc2, hc3⟩ := rowOf_cap h hr
            have hv := val_of (hx ▸ h.ev x)
            have hiv := val_of (hi ▸ h.ev i)
            obtain ⟨k1, k2⟩ := h.kn q (b, c) (by rw [hkb, lk_cons, if_pos rfl])
            have hρ : ρ q = (b, c) := (h.fix q k2).trans k1
            cases hg : (ρ q).1 with
            | none => have := hc3 hg; omega
            | some g =>
              have hb : b = some g := by rw [hρ] at hg; exact hg
              subst hb
              refine qval h.pub (hrun hiv hv hz1 hz2) ?_
              rw [show (⟨g, 0, none⟩ : Addr).add (z.toNat * es) = ⟨g, z.toNat * es + 0, none⟩ by rw [add_off, Nat.zero_add, Nat.add_zero]]
              exact .rptr q es _ 0 g hg
          · trivial
        · trivial
      · trivial
    · rename_i n E es sz0 z0 hti
      obtain ⟨_, _, hu, ie, hie, hsz⟩ := hX t _ hti
      split
      · rename_i m c hx
        split
        · rename_i hle
          have hle := Nat.le_of_ble_eq_true hle
          intro hz R ρ M a w h
          obtain ⟨ad, u, hv, hm, hd⟩ := ro_of (hx ▸ h.ev x)
          have hiv := val_of (hi ▸ h.ev i)
          have hrun : (execOp a.eval o).run X.P w = .ok (.value (.pointer (some (ad.add (z.toNat * es))))) w := by
            unfold execOp
            simp [ho, Instr.indexAt, Instr.sureAddr, asIntOf, hiv, hv, run_underlying hu, hz, run_sizeOf hie, hsz]
          have hlt : z.toNat < n := by omega
          have hin : ∀ j, j < es → z.toNat * es + j < m := fun j hj => by
            have h1 : (z.toNat + 1) * es ≤ n * es := Nat.mul_le_mul_right es hlt
            rw [Nat.add_mul, Nat.one_mul] at h1
            omega
          exact qval h.pub hrun (.ro _ _ _ (fun j => u (z.toNat * es + j)) (fun j hj => by rw [add_add]; exact hm _ (hin j hj)) (fun j hj => hd _ (hin j hj)))
        · trivial
      · rename_i r off hx
        intro hz R ρ M a w h
        obtain ⟨g, hg, hv⟩ := ptr_of (hx ▸ h.ev x)
        have hiv := val_of (hi ▸ h.ev i)
        have hrun : (execOp a.eval o).run X.P w = .ok (.value (.pointer (some ((⟨g, off, none⟩ : Addr).add (z.toNat * es))))) w := by
          unfold execOp
          simp [ho, Instr.indexAt, Instr.sureAddr, asIntOf, hiv, hv, run_underlying hu, hz, run_sizeOf hie, hsz]
        rw [add_off] at hrun
        exact qval h.pub hrun (.ptr r _ g hg)
      · trivial
    · trivial
  · trivial

def evExtract (X : Cx) (st : St) (x : Operand) (i : Nat) : Res := match st.ev X x with
  | .tup vs => match vs[i]? with
    | some c => .ok c
    | none => .no
  | _ => .no
theorem s_extract {x : Operand} {i : Nat} (ho : o.op = .extract x i) : (evExtract X st x i).sound X st o := by
  unfold evExtract
  split
  · rename_i vs hx
    split
    · rename_i c hc
      intro R ρ M a w h
      obtain ⟨us, hv, hl, hd⟩ := tup_of (hx ▸ h.ev x)
      have hlt : i < us.length := by
        have := (List.getElem?_eq_some_iff.1 hc).1
        omega
      refine qval h.pub (v := us[i]) ?_ (hd i c _ hc (by simp [hlt]))
      unfold execOp
      simp [ho, hv, Instr.extract, hlt]
    · trivial
  · trivial

def evNil (X : Cx) (st : St) (x : Operand) : Res := match st.ev X x with
  | .ptr r o => .ok (.ptr r o)
  | .ro n c => .ok (.ro n c)
  | .rptr r s k j => .ok (.rptr r s k j)
  | _ => .no
theorem s_nil {x : Operand} (ho : o.op = .nilCheck x) : (evNil X st x).sound X st o := by
  unfold evNil
  split
  · rename_i hx
    intro R ρ M a w h
    have hd := hx ▸ h.ev x
    obtain ⟨g, hg, hv⟩ := ptr_of hd
    refine qval h.pub (v := a.eval x) ?_ hd
    unfold execOp
    simp [ho, hv]
  · rename_i hx
    intro R ρ M a w h
    have hd := hx ▸ h.ev x
    obtain ⟨ad, u, hv, _⟩ := ro_of hd
    refine qval h.pub (v := a.eval x) ?_ hd
    unfold execOp
    simp [ho, hv]
  · rename_i hx
    intro R ρ M a w h
    have hd := hx ▸ h.ev x
    obtain ⟨g, hg, hv⟩ := rptr_of hd
    refine qval h.pub (v := a.eval x) ?_ hd
    unfold execOp
    simp [ho, hv]
  · trivial

end
end Go.Proofs.Ytoeghejbgibioaa

namespace Go.Proofs.Ytoeghejbgibioaa
open Go Go.RowKit
set_option linter.unusedVariables false
set_option linter.unusedSimpArgs false

def IntKind.same : IntKind → IntKind → Bool
  | .i64, .i64 => true
  | .u64, .u64 => true
  | .u8, .u8 => true
  | .i32, .i32 => true
  | .u32, .u32 => true
  | _, _ => false
theorem IntKind.same_eq {k k' : IntKind} (h : IntKind.same k k' = true) : k = k' := by cases k <;> cases k' <;> first | rfl | cases h

def strLt (a b : ByteArray) : Bool := Op.bytesLess a.toList b.toList
def strEq (a b : ByteArray) : Bool := a.toList == b.toList

def bv (b : Bool) : AV := .dat (.val (.bool b))
def boolOf : AV → Option Bool
  | .tt => some true
  | .ff => some false
  | .dat (.val (.bool b)) => some b
  | _ => none
theorem boolOf_den {ρ : Env} {M : Mem} {c : AV} {b : Bool} {v : Value} (hb : boolOf c = some b) (h : DenA ρ M c v) : v = .bool b := by
  unfold boolOf at hb
  split at hb
  · cases hb; cases h; rfl
  · cases hb; cases h; rfl
  · cases hb; exact val_of h
  · cases hb

section
variable {X : Cx} {st : St} {o : Oper}

theorem qint {R : Run} {ρ : Env} {M : Mem} {a : Act} {w : World} (h : Sim X R ρ M st a w) {v : Value} (hr : (execOp a.eval o).run X.P w = .ok (.value v) w) : QStep X o a w ρ M (.dat (.val v)) none := qval h.pub hr (.dat (.val v))

def andI (k : IntKind) (a b : Int) : Int := k.wrap (BitVec.ofInt k.bits a &&& BitVec.ofInt k.bits b).toNat
def intBin (op : BinOp) (k : IntKind) (a b : Int) : Res := match op with
  | .add => .num k (a + b)
  | .sub => .num k (a - b)
  | .mul => .num k (a * b)
  | .quo => .cnum (b ≠ 0) k (a.tdiv b)
  | .rem => .cnd (b ≠ 0) (.dat (.val (.int k (a.tmod b))))
  | .eql => .ok (bv (decide (a = b)))
  | .neq => .ok (bv (decide (a ≠ b)))
  | .lss => .ok (bv (decide (a < b)))
  | .leq => .ok (bv (decide (a ≤ b)))
  | .gtr => .ok (bv (decide (a > b)))
  | .geq => .ok (bv (decide (a ≥ b)))
  | .shr => .cnd (0 ≤ b) (.dat (.val (.int k (a.fdiv (2 ^ (min b.toNat k.bits))))))
  | .and => .ok (.dat (.val (.int k (andI k a b))))
  | _ => .no
def strBin (op : BinOp) (a b : ByteArray) : Res := match op with
  | .eql => .ok (bv (strEq a b))
  | .neq => .ok (bv (!strEq a b))
  | .lss => .ok (bv (strLt a b))
  | .leq => .ok (bv (strLt a b || strEq a b))
  | .gtr => .ok (bv (!(strLt a b || strEq a b)))
  | .geq => .ok (bv (!strLt a b))
  | _ => .no
def aggI (l : List Int) : Value := .agg (l.map (Value.int .i64)).toArray
def intsA : List AV → Option (List Int)
  | [] => some []
  | .dat (.val (.int .i64 z)) :: l => match intsA l with
    | some r => some (z :: r)
    | none => none
  | _ :: _ => none
theorem intsA_at : ∀ {cs : List AV} {l : List Int}, intsA cs = some l → ∀ {ρ : Env} {M : Mem} {vs : List Value}, cs.length = vs.length → (∀ (i : Nat) (c : AV) (v : Value), cs[i]? = some c → vs[i]? = some v → DenA ρ M c v) → vs = l.map (Value.int .i64)
  | [], l, h, ρ, M, vs, hl, hd => by
    cases h
    cases vs with
    | nil => rfl
    | cons v vs => simp at hl
  | c :: cs, l, h, ρ, M, vs, hl, hd => by
    unfold intsA at h
    split at h
    · rename_i heq; cases heq
    · rename_i z l' heq
      cases heq
      split at h
      · rename_i r hr
        cases h
        cases vs with
        | nil => simp at hl
        | cons v vs =>
          have h0 := val_of (hd 0 _ v rfl rfl)
          subst h0
          rw [intsA_at hr (vs := vs) (by simpa using hl) (fun i c v hc hv => hd (i + 1) c v (by simpa using hc) (by simpa using hv))]
          rfl
      · cases h
    · cases h
theorem intsA_den {ρ : Env} {M : Mem} {cs : List AV} {l : List Int} {v : Value} (h : intsA cs = some l) (hd : DenA ρ M (.agg cs) v) : v = aggI l := by
  obtain ⟨vs, rfl, hl, hv⟩ := agg_of hd
  rw [intsA_at h hl hv]
  rfl
def EqS (P : Program) (t n : Nat) : Prop := P.eqGuardType P.depth t = false ∧ ∀ as bs : List Int, as.length = n → bs.length = n → ∀ w, (Op.equalIn 10000 t (aggI as) (aggI bs)).run P w = .ok (decide (as = bs)) w
def fieldsI (P : Program) : List Field → Nat → Bool
  | [], _ => true
  | f :: l, k => f.name != "_" && (Nat.beq f.offset k && (P.plainKey f.type && ((match P.underlying f.type with
    | some (.int .i64) => true
    | _ => false) && fieldsI P l (k + 1))))
theorem run_eqFieldsI {P : Program} (w : World) (d : Nat) : ∀ (fs : List Field) (k : Nat) (xs ys : List Int), fieldsI P fs k = true → xs.length = k + fs.length → ys.length = k + fs.length →
    (Op.eqFields (d + 1) (xs.map (Value.int .i64)).toArray (ys.map (Value.int .i64)).toArray fs).run P w = .ok (decide (xs.drop k = ys.drop k)) w
  | [], k, xs, ys, _, h1, h2 => by
    have e1 : xs.drop k = [] := by simp at h1 ⊢; omega
    have e2 : ys.drop k = [] := by simp at h2 ⊢; omega
    simp [Op.eqFields, e1, e2]
  | f :: fs, k, xs, ys, hf, h1, h2 => by
    simp only [fieldsI, Bool.and_eq_true, bne_iff_ne, ne_eq] at hf
    obtain ⟨hn, ho, hp, hu, hr⟩ := hf
    have ho := Nat.eq_of_beq_eq_true ho
    have hu : P.underlying f.type = some (.int .i64) := by
      revert hu
      cases hq : P.underlying f.type with
      | none => intro hu; cases hu
      | some td =>
        cases td <;> (try (intro hu; cases hu; done))
        rename_i kk
        cases kk <;> (intro hu; first | rfl | cases hu)
    simp at h1 h2
    have l1 : k < xs.length := by omega
    have l2 : k < ys.length := by omega
    have p1 : (part f.type (xs.map (Value.int .i64)).toArray f.offset).run P w = .ok (.int .i64 xs[k]) w := run_part_plain w hp (by simp [ho, l1])
    have p2 : (part f.type (ys.map (Value.int .i64)).toArray f.offset).run P w = .ok (.int .i64 ys[k]) w := run_part_plain w hp (by simp [ho, l2])
    have ih := run_eqFieldsI w d fs (k + 1) xs ys hr (by omega) (by omega)
    have d1 : xs.drop k = xs[k] :: xs.drop (k + 1) := List.drop_eq_getElem_cons l1
    have d2 : ys.drop k = ys[k] :: ys.drop (k + 1) := List.drop_eq_getElem_cons l2
    simp only [Op.eqFields, hn, ne_eq, not_false_eq_true, if_true, Sem.run_bind, p1, p2, Result.andThen_ok, run_equalIn_int w d f.type .i64 .i64 _ _ hu]
    rw [d1, d2]
    clear d1 d2
    revert ih
    generalize xs.drop (k + 1) = A
    generalize ys.drop (k + 1) = B
    intro ih
    by_cases hx : xs[k] = ys[k]
    · simp [hx, ih]
    · simp [hx]
theorem eqS_mk {P : Program} {t n : Nat} {fields : Array Field} (hg : P.eqGuardType P.depth t = false) (hu : P.underlying t = some (.struct fields)) (hs : P.stoodInHeld t = false) (hf : fieldsI P fields.toList 0 = true) (hn : fields.size = n) : EqS P t n := by
  refine ⟨hg, fun as bs ha hb w => ?_⟩
  have hfo : P.fieldsOf t = fields := by unfold Program.fieldsOf; rw [hu]
  unfold aggI
  rw [run_equalIn_agg w 9999 t _ _ (by rw [hfo]; exact hu) hs, hfo]
  have := run_eqFieldsI w 9998 fields.toList 0 as bs hf (by simp; omega) (by simp; omega)
  simpa using this

def ndA2 : List AV → Option (ByteArray × Int)
  | [.dat (.val (.string s)), .dat (.val (.int .i64 z))] => some (s, z)
  | _ => none
theorem ndA2_den {ρ : Env} {M : Mem} {cs : List AV} {s : ByteArray} {z : Int} {v : Value} (h : ndA2 cs = some (s, z)) (hd : DenA ρ M (.agg cs) v) : v = .agg #[.string s, .int .i64 z] := by
  unfold ndA2 at h
  split at h
  · cases h
    obtain ⟨vs, rfl, hl, hv⟩ := agg_of hd
    match vs, hl, hv with
    | [a, b], _, hv =>
      obtain rfl := val_of (hv 0 _ a rfl rfl)
      obtain rfl := val_of (hv 1 _ b rfl rfl)
      rfl
  · cases h
def EqN (P : Program) (t : Nat) : Prop := P.eqGuardType P.depth t = false ∧ ∀ a b x y w, (Op.equalIn 10000 t (.agg #[.string a, .int .i64 x]) (.agg #[.string b, .int .i64 y])).run P w = .ok (strEq a b && decide (x = y)) w
theorem eqN_mk {P : Program} {t : Nat} {f g : Field} (hg : P.eqGuardType P.depth t = false) (hu : P.underlying t = some (.struct #[f, g])) (hs : P.stoodInHeld t = false) (n1 : f.name ≠ "_") (n2 : g.name ≠ "_") (o1 : f.offset = 0) (o2 : g.offset = 1) (p1 : P.plainKey f.type = true) (p2 : P.plainKey g.type = true)
    (u1 : P.underlying f.type = some .string) (u2 : P.underlying g.type = some (.int .i64)) : EqN P t := by
  refine ⟨hg, fun a b x y w => ?_⟩
  have hfo : P.fieldsOf t = #[f, g] := by unfold Program.fieldsOf; rw [hu]
  rw [run_equalIn_agg w 9999 t _ _ (by rw [hfo]; exact hu) hs, hfo]
  have q1 : (part f.type #[Value.string a, Value.int .i64 x] f.offset).run P w = .ok (.string a) w := run_part_plain w p1 (by simp [o1])
  have q2 : (part f.type #[Value.string b, Value.int .i64 y] f.offset).run P w = .ok (.string b) w := run_part_plain w p1 (by simp [o1])
  have q3 : (part g.type #[Value.string a, Value.int .i64 x] g.offset).run P w = .ok (.int .i64 x) w := run_part_plain w p2 (by simp [o2])
  have q4 : (part g.type #[Value.string b, Value.int .i64 y] g.offset).run P w = .ok (.int .i64 y) w := run_part_plain w p2 (by simp [o2])
  simp only [Op.eqFields, n1, n2, ne_eq, not_false_eq_true, if_true, Sem.run_bind, q1, q2, q3, q4, Result.andThen_ok, run_equalIn_string w 9998 f.type _ _ u1, run_equalIn_int w 9998 g.type .i64 .i64 _ _ u2]
  unfold strEq
  have q5 := run_equalIn_int (P := P) w 9998 g.type .i64 .i64 x y u2
  cases hab : (a.toList == b.toList)
  · simp [hab]
  · simp only [hab, if_true, Op.eqFields, n2, ne_eq, not_false_eq_true, Sem.run_bind, q3, q4, q5, Result.andThen_ok, Bool.true_and]
    by_cases hxy : x = y
    · subst hxy
      simp [q3, q4, q5]
    · simp [hxy, q3, q4, q5]

def evBin (X : Cx) (st : St) (op : BinOp) (t : TypeId) (x y : Operand) : Res := match st.ev X x with
  | .dat (.val (.int k a)) => match st.ev X y with
    | .dat (.val (.int k' b)) => match IntKind.same k k' with
      | true => intBin op k a b
      | false => .no
    | _ => .no
  | .dat (.val (.string a)) => match st.ev X y with
    | .dat (.val (.string b)) => strBin op a b
    | _ => .no
  | .agg cs => match intsA cs with
    | none => match ndA2 cs with
      | none => .no
      | some (a, p) => match st.ev X y with
        | .agg ds => match ndA2 ds with
          | none => .no
          | some (b, q) => match op with
            | .eql => .cnd (EqN X.P t ∧ 0 = 0) (bv (strEq a b && decide (p = q)))
            | .neq => .cnd (EqN X.P t ∧ 0 = 0) (bv (!(strEq a b && decide (p = q))))
            | _ => .no
        | _ => .no
    | some as => match st.ev X y with
      | .agg ds => match intsA ds with
        | none => .no
        | some bs => match op with
          | .eql => .cnd (EqS X.P t as.length ∧ bs.length = as.length) (bv (decide (as = bs)))
          | .neq => .cnd (EqS X.P t as.length ∧ bs.length = as.length) (bv (!decide (as = bs)))
          | _ => .no
      | _ => .no
  | c => match boolOf c with
    | none => .no
    | some a => match boolOf (st.ev X y) with
      | none => .no
      | some b => match lk t X.T with
        | some ⟨.bool, _, _⟩ => match op with
          | .eql => .ok (bv (decide (a = b)))
          | .neq => .ok (bv (!decide (a = b)))
          | _ => .no
        | _ => .no

theorem run_equal_bool {P : Program} {t : TypeId} (hu : P.underlying t = some .bool) (a b : Bool) (w : World) : (Op.equal t (.bool a) (.bool b)).run P w = .ok (a == b) w := by
  have h : ∀ d : Nat, (Op.equalIn (d + 1) t (.bool a) (.bool b)).run P w = .ok (a == b) w := fun d => by
    simp [Op.equalIn, run_underlying hu]
  exact h 9999
theorem s_bin (hX : X.ok) {op : BinOp} {t yt : TypeId} {x y : Operand} (ho : o.op = .binOp op t x y yt) : (evBin X st op t x y).sound X st o := by
  unfold evBin
  split
  · rename_i k a hx
    split
    · rename_i k' b hy
      split
      · rename_i hk
        obtain rfl := IntKind.same_eq hk
        have hev : ∀ {R : Run} {ρ : Env} {M : Mem} {ac : Act} {w : World}, Sim X R ρ M st ac w → ac.eval x = .int k a ∧ ac.eval y = .int k b := fun h => ⟨val_of (hx ▸ h.ev x), val_of (hy ▸ h.ev y)⟩
        cases op <;> first
          | trivial
          | (intro R ρ M ac w h
             obtain ⟨h1, h2⟩ := hev h
             refine qint h ?_
             unfold execOp
             simp [ho, h1, h2, eqGuard, binOp, Op.intArith, Op.intCmp, bne_eq_decide_ne]
             done)
          | (intro hb R ρ M ac w h
             obtain ⟨h1, h2⟩ := hev h
             refine qint h ?_
             unfold execOp
             simp [ho, h1, h2, eqGuard, binOp, Op.intDiv, hb]
             done)
          | (intro hb R ρ M ac w h
             obtain ⟨h1, h2⟩ := hev h
             refine qint h ?_
             unfold execOp
             simp only [ho, h1, h2]
             simp [eqGuard, binOp, Op.shift, Int.not_lt.mpr hb]
             done)
          | (intro R ρ M ac w h
             obtain ⟨h1, h2⟩ := hev h
             refine qint h ?_
             unfold execOp
             simp [ho, h1, h2, eqGuard, binOp, Op.intBits, andI]
             done)
          | (intro R ρ M ac w h
             obtain ⟨h1, h2⟩ := hev h
             refine qint h ?_
             unfold execOp
             simp [ho, h1, h2, eqGuard, binOp, Op.intArith, Op.intCmp]
             first | rfl | (congr; done) | (by_cases hab : a = b <;> simp [hab]) | skip)
      · trivial
    · trivial
  · rename_i a hx
    split
    · rename_i b hy
      have hev : ∀ {R : Run} {ρ : Env} {M : Mem} {ac : Act} {w : World}, Sim X R ρ M st ac w → ac.eval x = .string a ∧ ac.eval y = .string b := fun h => ⟨val_of (hx ▸ h.ev x), val_of (hy ▸ h.ev y)⟩
      cases op <;> first
        | trivial
        | (intro R ρ M ac w h
           obtain ⟨h1, h2⟩ := hev h
           refine qint h ?_
           unfold execOp
           simp [ho, h1, h2, eqGuard, binOp, Op.stringOp, strLt, strEq])
    · trivial
  · rename_i cs hx
    split
    · split
      · trivial
      rename_i a p hap
      split
      · rename_i ds hy
        split
        · trivial
        rename_i b q hbq
        have hev : ∀ {R : Run} {ρ : Env} {M : Mem} {ac : Act} {w : World}, Sim X R ρ M st ac w → ac.eval x = .agg #[.string a, .int .i64 p] ∧ ac.eval y = .agg #[.string b, .int .i64 q] := fun h => ⟨ndA2_den hap (hx ▸ h.ev x), ndA2_den hbq (hy ▸ h.ev y)⟩
        split
        · intro ⟨⟨hg, he⟩, _⟩ R ρ M ac w h
          obtain ⟨h1, h2⟩ := hev h
          have he := he a b p q w
          refine qint h ?_
          unfold execOp
          simp only [ho, h1, h2, Sem.run_bind, run_eqGuard_agg w .eql t x y _ _ hg, run_eql_struct, he, Result.andThen_ok]
          rfl
        · intro ⟨⟨hg, he⟩, _⟩ R ρ M ac w h
          obtain ⟨h1, h2⟩ := hev h
          have he := he a b p q w
          refine qint h ?_
          unfold execOp
          simp only [ho, h1, h2, Sem.run_bind, run_eqGuard_agg w .neq t x y _ _ hg, run_neq_struct, he, Result.andThen_ok]
          rfl
        · trivial
      · trivial
    rename_i as has
    split
    · rename_i ds hy
      split
      · trivial
      rename_i bs hbs
      have hev : ∀ {R : Run} {ρ : Env} {M : Mem} {ac : Act} {w : World}, Sim X R ρ M st ac w → ac.eval x = aggI as ∧ ac.eval y = aggI bs := fun h => ⟨intsA_den has (hx ▸ h.ev x), intsA_den hbs (hy ▸ h.ev y)⟩
      split
      · intro ⟨⟨hg, he⟩, hlen⟩ R ρ M ac w h
        obtain ⟨h1, h2⟩ := hev h
        have he := he as bs rfl hlen w
        unfold aggI at h1 h2 he
        refine qint h ?_
        unfold execOp
        simp only [ho, h1, h2, Sem.run_bind, run_eqGuard_agg w .eql t x y _ _ hg, run_eql_struct, he, Result.andThen_ok]
        rfl
      · intro ⟨⟨hg, he⟩, hlen⟩ R ρ M ac w h
        obtain ⟨h1, h2⟩ := hev h
        have he := he as bs rfl hlen w
        unfold aggI at h1 h2 he
        refine qint h ?_
        unfold execOp
        simp only [ho, h1, h2, Sem.run_bind, run_eqGuard_agg w .neq t x y _ _ hg, run_neq_struct, he, Result.andThen_ok]
        rfl
      · trivial
    · trivial
  · split
    · trivial
    rename_i c _ _ _ a ha
    split
    · trivial
    rename_i b hb
    split
    · rename_i sz z hti
      obtain ⟨_, _, hu⟩ := hX t _ hti
      have hev : ∀ {R : Run} {ρ : Env} {M : Mem} {ac : Act} {w : World}, Sim X R ρ M st ac w → ac.eval x = .bool a ∧ ac.eval y = .bool b := fun h => ⟨boolOf_den ha (h.ev x), boolOf_den hb (h.ev y)⟩
      split
      · intro R ρ M ac w h
        obtain ⟨h1, h2⟩ := hev h
        refine qint h ?_
        unfold execOp
        simp only [ho, h1, h2, eqGuard, binOp, Sem.run_bind, run_equal_bool hu]
        cases a <;> cases b <;> rfl
      · intro R ρ M ac w h
        obtain ⟨h1, h2⟩ := hev h
        refine qint h ?_
        unfold execOp
        simp only [ho, h1, h2, eqGuard, binOp, Sem.run_bind, run_equal_bool hu]
        cases a <;> cases b <;> rfl
      · trivial
    · trivial

def evUn (X : Cx) (st : St) (op : UnOp) (x : Operand) : Res := match op with
  | .not => match st.ev X x with
    | .tt => .ok .ff
    | .ff => .ok .tt
    | .dat (.val (.bool b)) => .ok (bv (!b))
    | _ => .no
  | .neg => match st.ev X x with
    | .dat (.val (.int k a)) => .num k (0 - a)
    | _ => .no
  | _ => .no
theorem s_un {op : UnOp} {t : TypeId} {x : Operand} (ho : o.op = .unOp op t x) : (evUn X st op x).sound X st o := by
  unfold evUn
  split
  · split
    · rename_i hx
      intro R ρ M a w h
      have h1 := hx ▸ h.ev x
      generalize hv : a.eval x = v at h1
      cases h1
      refine qval h.pub (v := .bool false) ?_ .ff
      unfold execOp
      simp [ho, hv, Op.unary]
    · rename_i hx
      intro R ρ M a w h
      have h1 := hx ▸ h.ev x
      generalize hv : a.eval x = v at h1
      cases h1
      refine qval h.pub (v := .bool true) ?_ .tt
      unfold execOp
      simp [ho, hv, Op.unary]
    · rename_i b hx
      intro R ρ M a w h
      have h1 := val_of (hx ▸ h.ev x)
      refine qint h ?_
      unfold execOp
      simp [ho, h1, Op.unary]
    · trivial
  · split
    · rename_i k b hx
      intro R ρ M a w h
      have h1 := val_of (hx ▸ h.ev x)
      refine qint h ?_
      unfold execOp
      simp [ho, h1, Op.unary, Op.intArith]
    · trivial
  · trivial

def evConv (X : Cx) (st : St) (s d : TypeId) (x : Operand) : Res := match lk s X.T with
  | none => .no
  | some si => match lk d X.T with
    | some ⟨.int k, _, _⟩ => match st.ev X x with
      | .dat (.val (.int _ n)) => .num k n
      | _ => .no
    | some ⟨.str, _, _⟩ => match st.ev X x with
      | .dat (.val (.string b)) => .ok (.dat (.val (.string b)))
      | _ => .no
    | _ => .no
theorem s_conv (hX : X.ok) {s d : TypeId} {x : Operand} (ho : o.op = .convert s d x) : (evConv X st s d x).sound X st o := by
  unfold evConv
  split
  · trivial
  rename_i si hsi
  obtain ⟨⟨ds, hds, _⟩, _, _⟩ := hX s si hsi
  split
  · rename_i k sz z hti
    obtain ⟨_, _, hu⟩ := hX d _ hti
    split
    · rename_i k0 n hx
      intro R ρ M a w h
      have h1 := val_of (hx ▸ h.ev x)
      refine qint h ?_
      unfold execOp
      cases ds <;> simp [ho, h1, convert, run_underlying hds, run_underlying hu, Conv.intToInt]
    · trivial
  · rename_i sz z hti
    obtain ⟨_, _, hu⟩ := hX d _ hti
    split
    · rename_i b hx
      intro R ρ M a w h
      have h1 := val_of (hx ▸ h.ev x)
      refine qint h ?_
      unfold execOp
      cases ds <;> simp [ho, h1, convert, run_underlying hds, run_underlying hu]
    · trivial
  · trivial

def evLen (X : Cx) (st : St) (t : TypeId) (x : Operand) : Res := match lk t X.T with
  | some ⟨.slice .., _, _⟩ => match st.ev X x with
    | .dat (.lst s n f) => .ok (.dat (.val (.int .i64 n)))
    | .own r s lo n => .ok (.dat (.val (.int .i64 n)))
    | .dat (.val (.slice none 0 0)) => .ok (.dat (.val (.int .i64 0)))
    | _ => .no
  | some ⟨.str, _, _⟩ => match st.ev X x with
    | .dat (.val (.string b)) => .ok (.dat (.val (.int .i64 b.size)))
    | _ => .no
  | some ⟨.map .., _, _⟩ => match st.ev X x with
    | .mp r => match st.ent r with
      | some (.mp P k e L) => .ok (.dat (.val (.int .i64 L.length)))
      | _ => .no
    | _ => .no
  | _ => .no
theorem s_len (hX : X.ok) {t : TypeId} {x : Operand} (ho : o.op = .call { callee := .builtin .len, args := #[x], argTypes := #[t] }) : (evLen X st t x).sound X st o := by
  unfold evLen
  split
  · rename_i E es eb ez sz z hti
    obtain ⟨_, _, hu, _⟩ := hX t _ hti
    split
    · rename_i s n f hx
      intro R ρ M a w h
      obtain ⟨A, cap, u, hv, _⟩ := lst_of (hx ▸ h.ev x)
      refine qint h ?_
      unfold execOp
      simp [ho, hv, resolve, invoke, builtin, Builtin.len_, run_underlying hu, goInt]
    · rename_i r s lo n hx
      intro R ρ M a w h
      have hv := own_of (hx ▸ h.ev x)
      refine qint h ?_
      unfold execOp
      simp [ho, hv, resolve, invoke, builtin, Builtin.len_, run_underlying hu, goInt]
    · rename_i hx
      intro R ρ M a w h
      have hv := val_of (hx ▸ h.ev x)
      refine qint h ?_
      unfold execOp
      simp [ho, hv, resolve, invoke, builtin, Builtin.len_, run_underlying hu, goInt]
    · trivial
  · rename_i sz z hti
    obtain ⟨_, _, hu⟩ := hX t _ hti
    split
    · rename_i b hx
      intro R ρ M a w h
      have hv := val_of (hx ▸ h.ev x)
      refine qint h ?_
      unfold execOp
      simp [ho, hv, resolve, invoke, builtin, Builtin.len_, run_underlying hu, goInt]
    · trivial
  · rename_i k0 e0 sz z hti
    obtain ⟨_, _, hu, _⟩ := hX t _ hti
    split
    · rename_i r hx
      split
      · rename_i P k e L hen
        intro R ρ M a w h
        cases hx' : st.ev X x with
        | mp r' =>
          rw [hx] at hx'
          cases hx'
          have hd := hx ▸ h.ev x
          cases hd' : a.eval x with
          | map gm =>
            rw [hd'] at hd
            cases hd with
            | mp _ g hg =>
              obtain ⟨g', D, h1, h2, h3⟩ := h.ents r _ hen
              rw [hg] at h1
              cases h1
              obtain ⟨es, clock, hh, _, _, hD⟩ := own_exact h2
              refine qint h ?_
              have hl : es.size = L.length := by rw [← h3.size, hD]; simp [Maps.size, Go.length_sorted]
              unfold execOp
              simp [ho, hd', resolve, invoke, builtin, Builtin.len_, run_underlying hu, goInt, MapKept.run_getObj_map hh, hl]
          | _ => rw [hd'] at hd; cases hd
        | _ => rw [hx] at hx'; cases hx'
      · trivial
    · trivial
  · trivial

def intAV (st : St) (X : Cx) (x : Operand) : Option (IntKind × Int) := match st.ev X x with
  | .dat (.val (.int k z)) => some (k, z)
  | _ => none
theorem intAV_den {R : Run} {ρ : Env} {M : Mem} {a : Act} {w : World} (h : Sim X R ρ M st a w) {x : Operand} {k : IntKind} {z : Int} (hx : intAV st X x = some (k, z)) : a.eval x = .int k z := by
  unfold intAV at hx
  split at hx
  · rename_i k' z' he
    cases hx
    exact val_of (he ▸ h.ev x)
  · cases hx
def evMin (X : Cx) (st : St) (x y : Operand) : Res := match intAV st X x with
  | none => .no
  | some (k, a) => match intAV st X y with
    | none => .no
    | some (_, b) => .ok (.dat (.val (.int k (if b < a then b else a))))
theorem s_min {x y : Operand} {ts : Array TypeId} (ho : o.op = .call { callee := .builtin .min, args := #[x, y], argTypes := ts }) : (evMin X st x y).sound X st o := by
  unfold evMin
  split
  · trivial
  rename_i k a hx
  split
  · trivial
  rename_i k' b hy
  intro R ρ M ac w h
  have h1 := intAV_den h hx
  have h2 := intAV_den h hy
  refine qint h ?_
  unfold execOp
  simp [ho, h1, h2, resolve, invoke, builtin, Builtin.min_, Builtin.min2]
def evMax (X : Cx) (st : St) (x y : Operand) : Res := match intAV st X x with
  | none => .no
  | some (k, a) => match intAV st X y with
    | none => .no
    | some (_, b) => .ok (.dat (.val (.int k (if b > a then b else a))))
theorem s_max {x y : Operand} {ts : Array TypeId} (ho : o.op = .call { callee := .builtin .max, args := #[x, y], argTypes := ts }) : (evMax X st x y).sound X st o := by
  unfold evMax
  split
  · trivial
  rename_i k a hx
  split
  · trivial
  rename_i k' b hy
  intro R ρ M ac w h
  have h1 := intAV_den h hx
  have h2 := intAV_den h hy
  refine qint h ?_
  unfold execOp
  simp [ho, h1, h2, resolve, invoke, builtin, Builtin.max_, Builtin.max2]

def byteAt (s : ByteArray) (i : Nat) : Int := ((s.data.toList.getD i 0).toNat : Int)
theorem run_partI {P : Program} {E : TypeId} {d : TypeDesc} {inf : TypeInfo} (hd : P.underlying E = some d) (hag : aggOf d = true) (hinf : P.info? E = some inf) (l : List Int) (off : Nat) (h : off + inf.size ≤ l.length) (w : World) :
    (part E (l.map (Value.int .i64)).toArray off).run P w = .ok (.agg ((List.range inf.size).map fun j => Value.int .i64 (l.getD (off + j) 0)).toArray) w := by
  unfold part
  rw [Sem.run_bind, run_isAgg hd]
  simp only [Result.andThen_ok, hag, if_true, Sem.run_bind, run_sizeOf hinf, Sem.run_pure]
  congr 2
  apply Array.ext
  · simp; omega
  · intro i h1 h2
    have hi : i < inf.size := by simpa using h2
    have hl : off + i < l.length := by omega
    simp [hl]
def evIndex (X : Cx) (st : St) (t : TypeId) (x i : Operand) : Res := match intAV st X i with
  | none => .no
  | some (k, z) => match lk t X.T with
    | some ⟨.str, _, _⟩ => match st.ev X x with
      | .dat (.val (.string s)) => .cnd (0 ≤ z ∧ z < (s.size : Int)) (.dat (.val (.int .u8 (byteAt s z.toNat))))
      | _ => .no
    | some ⟨.arr n E es, _, _⟩ => match st.ev X x with
      | .agg cs => match intsA cs with
        | none => .no
        | some l => match lk E X.T with
          | none => .no
          | some ti => match ti.k.agg with
            | false => .no
            | true => match Nat.beq ti.size es with
              | false => .no
              | true => match Nat.beq l.length (n * es) with
                | false => .no
                | true => .cnd (0 ≤ z ∧ z < (n : Int)) (.agg ((List.range es).map fun j => .dat (.val (.int .i64 (l.getD (z.toNat * es + j) 0)))))
      | _ => .no
    | _ => .no
theorem s_index (hX : X.ok) {t : TypeId} {x i : Operand} (ho : o.op = .index t x i) : (evIndex X st t x i).sound X st o := by
  unfold evIndex
  split
  · trivial
  rename_i k z hi
  split
  · rename_i sz z0 hti
    obtain ⟨_, _, hu⟩ := hX t _ hti
    split
    · rename_i s hx
      intro hz R ρ M a w h
      have hv := val_of (hx ▸ h.ev x)
      have hiv := intAV_den h hi
      refine qint h ?_
      have hlt : z.toNat < s.size := by omega
      have hb : s[z.toNat]? = some s[z.toNat] := by simp [hlt]
      have hb2 : byteAt s z.toNat = (s[z.toNat].toNat : Int) := by
        unfold byteAt
        rw [List.getD_eq_getElem?_getD, Array.getElem?_toList]
        have : s.data[z.toNat]? = some s[z.toNat] := by
          rw [Array.getElem?_eq_getElem (by exact hlt)]; rfl
        rw [this]; rfl
      unfold execOp
      simp [ho, hv, hiv, Instr.index, asIntOf, run_underlying hu, hz.1, hb, hb2]
    · trivial
  · rename_i n E es sz z0 hti
    obtain ⟨_, _, hu, ie, hie, hsz⟩ := hX t _ hti
    split
    · rename_i cs hx
      split
      · trivial
      rename_i l hl
      split
      · trivial
      rename_i ti hE
      obtain ⟨⟨d, hd, hag, _⟩, ⟨inf, hinf, his, _⟩, _⟩ := hX E ti hE
      split
      · trivial
      rename_i hk
      split
      · trivial
      rename_i hes
      have hes := Nat.eq_of_beq_eq_true hes
      split
      · trivial
      rename_i hlen
      have hlen := Nat.eq_of_beq_eq_true hlen
      intro hz R ρ M a w h
      have hv := intsA_den hl (hx ▸ h.ev x)
      have hiv := intAV_den h hi
      have hie2 : inf.size = es := by omega
      have hin : z.toNat * es + inf.size ≤ l.length := by
        have h1 : (z.toNat + 1) * es ≤ n * es := Nat.mul_le_mul_right es (by omega)
        rw [Nat.add_mul, Nat.one_mul] at h1
        omega
      refine qval h.pub (v := .agg ((List.range es).map fun j => Value.int .i64 (l.getD (z.toNat * es + j) 0)).toArray) ?_ (.agg _ ((List.range es).map fun j => Value.int .i64 (l.getD (z.toNat * es + j) 0)) (by simp) fun i c v h1 h2 => ?_)
      · have hp := run_partI hd (by rw [hag, hk]) hinf l (z.toNat * es) hin w
        rw [hie2] at hp
        unfold aggI at hv
        unfold execOp
        simp only [ho, hv, hiv, Instr.index, asIntOf, Sem.run_bind, Sem.run_pure, Result.andThen_ok, run_underlying hu]
        rw [if_pos hz]
        simp only [Sem.run_bind, run_sizeOf hie, hsz, Result.andThen_ok, hp]
      · obtain ⟨_, rfl⟩ := range_map_at h1
        obtain ⟨_, rfl⟩ := range_map_at h2
        exact .dat (.val _)
    · trivial
  · trivial

end
end Go.Proofs.Ytoeghejbgibioaa

namespace Go.Proofs.Ytoeghejbgibioaa
open Go Go.RowKit
set_option linter.unusedVariables false
set_option linter.unusedSimpArgs false

def DenL (ρ : Env) (M : Mem) (cs : List AV) (vs : Array Value) : Prop := cs.length = vs.size ∧ ∀ (i : Nat) (c : AV) (u : Value), cs[i]? = some c → vs[i]? = some u → DenA ρ M c u

def fillA (place : Nat → Option (Nat × Nat)) (cells : List AV) : List (Nat × AV) → Option (List AV)
  | [] => some cells
  | (i, c) :: rest => match place i with
    | none => none
    | some (off, size) => match c.cells with
      | none => none
      | some cs => match Nat.beq cs.length size with
        | false => none
        | true => match Nat.ble (off + cs.length) cells.length with
          | false => none
          | true => fillA place (cells.take off ++ cs ++ cells.drop (off + cs.length)) rest

theorem fold_set (off : Nat) : ∀ (l : List Value) (k : Nat) (cells : Array Value), (l.zipIdx k).foldl (fun cs (x : Value × Nat) => cs.setIfInBounds (off + x.2) x.1) cells = ((cells.toList.take (off + k) ++ l ++ cells.toList.drop (off + k + l.length)).take cells.size).toArray ∨ cells.size < off + k + l.length
  | [], k, cells => by
    left
    apply Array.ext'
    simp
    exact (List.take_of_length_le (by simp)).symm
  | v :: l, k, cells => by
    simp only [List.zipIdx_cons, List.foldl_cons]
    by_cases hk : cells.size < off + k + (v :: l).length
    · exact .inr hk
    · left
      have hk' : off + k + (l.length + 1) ≤ cells.size := by simp at hk; omega
      rcases fold_set off l (k + 1) (cells.setIfInBounds (off + k) v) with h | h
      · rw [h]
        apply Array.ext'
        simp only [Array.toList_setIfInBounds, Array.size_setIfInBounds]
        congr 1
        apply List.ext_getElem?
        intro i
        have hs : cells.toList.length = cells.size := by simp
        rcases Nat.lt_trichotomy i (off + k) with hi | hi | hi
        · rw [List.getElem?_append_left (by simp; omega), List.getElem?_append_left (by simp; omega), List.getElem?_append_left (by simp; omega), List.getElem?_append_left (by simp; omega), List.getElem?_take, List.getElem?_take, if_pos (by omega), if_pos (by omega), List.getElem?_set_ne (by omega)]
        · subst hi
          rw [List.getElem?_append_left (by simp; omega), List.getElem?_append_left (by simp; omega), List.getElem?_append_left (by simp; omega), List.getElem?_append_right (by simp; omega), List.getElem?_take, if_pos (by omega), List.getElem?_set_self (by omega)]
          simp
          rw [show off + k - min (off + k) cells.size = 0 by omega]
          rfl
        · rcases Nat.lt_or_ge i (off + k + (l.length + 1)) with h2 | h2
          · rw [List.getElem?_append_left (by simp; omega), List.getElem?_append_right (by simp; omega), List.getElem?_append_left (by simp; omega), List.getElem?_append_right (by simp; omega)]
            simp only [List.length_take, List.length_set, hs]
            rw [show i - min (off + k) cells.size = (i - min (off + (k + 1)) cells.size) + 1 by omega]
            rfl
          · rw [List.getElem?_append_right (by simp; omega), List.getElem?_append_right (by simp; omega), List.getElem?_drop, List.getElem?_drop]
            simp only [List.length_append, List.length_take, List.length_set, hs, List.length_cons]
            rw [List.getElem?_set_ne (by omega)]
            congr 1
            omega
      · simp at h
        omega

theorem fill_den {ρ : Env} {M : Mem} {placeA place : Nat → Option (Nat × Nat)} (hpl : ∀ i q, placeA i = some q → place i = some q) : ∀ (parts : List (Nat × AV)) (vparts : List (Nat × Value)) (cells cs' : List AV) (vs : Array Value), DenL ρ M cells vs → parts.length = vparts.length →
    (∀ (k i : Nat) (c : AV) (j : Nat) (v : Value), parts[k]? = some (i, c) → vparts[k]? = some (j, v) → i = j ∧ DenA ρ M c v) → fillA placeA cells parts = some cs' → ∃ vs', Instr.fill place vs vparts = some vs' ∧ DenL ρ M cs' vs'
  | [], [], cells, cs', vs, hd, _, _, hf => by
    cases hf
    exact ⟨vs, rfl, hd⟩
  | (i, c) :: parts, [], _, _, _, _, hl, _, _ => by simp at hl
  | [], _ :: _, _, _, _, _, hl, _, _ => by simp at hl
  | (i, c) :: parts, (j, v) :: vparts, cells, cs', vs, hd, hl, hp, hf => by
    obtain ⟨rfl, hcv⟩ := hp 0 i c j v rfl rfl
    simp only [fillA] at hf
    split at hf
    · cases hf
    rename_i off size hq
    split at hf
    · cases hf
    rename_i cs hcs
    split at hf
    · cases hf
    rename_i hb
    have hb := Nat.eq_of_beq_eq_true hb
    split at hf
    · cases hf
    rename_i hle
    have hle := Nat.le_of_ble_eq_true hle
    obtain ⟨h1, h2⟩ := AV.cells_den hcv hcs
    obtain ⟨hd1, hd2⟩ := hd
    simp only [Instr.fill, hpl i _ hq]
    rw [if_neg (by simp; omega)]
    have hfold := fold_set off v.cells.toList 0 vs
    rw [← Array.foldl_toList, Array.toList_zipIdx]
    rcases hfold with hfold | hfold
    · rw [hfold]
      refine fill_den hpl parts vparts _ cs' _ ⟨?_, fun i c u hc hu => ?_⟩ (by simpa using hl) (fun k i c j v h h' => hp (k + 1) i c j v (by simpa using h) (by simpa using h')) hf
      · simp; omega
      · simp only [Nat.add_zero, List.getElem?_toArray] at hu
        rw [List.getElem?_take] at hu
        split at hu
        · rename_i hi
          have hs : vs.toList.length = vs.size := by simp
          rcases Nat.lt_or_ge i off with ho | ho
          · rw [List.getElem?_append_left (by simp; omega), List.getElem?_append_left (by simp; omega), List.getElem?_take, if_pos ho] at hu hc
            exact hd2 i c u hc (by simpa using hu)
          · rcases Nat.lt_or_ge i (off + cs.length) with ho2 | ho2
            · rw [List.getElem?_append_left (by simp; omega), List.getElem?_append_right (by simp; omega)] at hu hc
              have e1 : i - (cells.take off).length = i - off := by simp; omega
              have e2 : i - (vs.toList.take off).length = i - off := by simp; omega
              rw [e1] at hc
              rw [e2] at hu
              exact h2 _ c u hc (by simpa using hu)
            · rw [List.getElem?_append_right (by simp; omega), List.getElem?_drop] at hu hc
              have e1 : off + cs.length + (i - (List.take off cells ++ cs).length) = i := by simp; omega
              have e2 : off + v.cells.toList.length + (i - (List.take off vs.toList ++ v.cells.toList).length) = i := by simp; omega
              rw [e1] at hc
              rw [e2] at hu
              exact hd2 i c u hc (by simpa using hu)
        · cases hu
    · simp at hfold
      omega

section
variable {X : Cx} {st : St} {o : Oper}

def partsA (X : Cx) (st : St) (ps : List (Nat × Operand)) : List (Nat × AV) := ps.map fun q => (q.1, st.ev X q.2)
theorem partsA_den {R : Run} {ρ : Env} {M : Mem} {a : Act} {w : World} (h : Sim X R ρ M st a w) (ps : Array (Nat × Operand)) :
    (partsA X st ps.toList).length = (ps.map fun q => (q.1, a.eval q.2)).toList.length ∧ ∀ (k i : Nat) (c : AV) (j : Nat) (v : Value), (partsA X st ps.toList)[k]? = some (i, c) → (ps.map fun q => (q.1, a.eval q.2)).toList[k]? = some (j, v) → i = j ∧ DenA ρ M c v := by
  refine ⟨by simp [partsA], fun k i c j v h1 h2 => ?_⟩
  unfold partsA at h1
  rw [List.getElem?_map] at h1
  simp only [Array.toList_map, List.getElem?_map] at h2
  cases hk : ps.toList[k]? with
  | none => rw [hk] at h1; cases h1
  | some q =>
    rw [hk] at h1 h2
    cases h1
    cases h2
    exact ⟨rfl, h.ev q.2⟩

def evBuild (X : Cx) (st : St) (t : TypeId) (ps : List (Nat × Operand)) : Res := match lk t X.T with
  | some ⟨.struct fs, _, z⟩ => match fillA (fun i => fs[i]?) (cellsV z) (partsA X st ps) with
    | some cs => .ok (.agg cs)
    | none => .no
  | _ => .no
theorem s_build (hX : X.ok) {t : TypeId} {ps : Array (Nat × Operand)} (ho : o.op = .build t ps) : (evBuild X st t ps.toList).sound X st o := by
  unfold evBuild
  split
  · rename_i fs sz z hti
    obtain ⟨_, ⟨inf, hinf, _, hz⟩, fields, hf, hfl, hfs⟩ := hX t _ hti
    split
    · rename_i cs hcs
      intro R ρ M a w h
      have hpl : ∀ (i : Nat) (q : Nat × Nat), (fun i => fs[i]?) i = some q → (fun (i : Nat) => (fields.toList.map fun f => (f.offset, (X.P.info? f.type).elim 0 (·.size))).toArray[i]?) i = some q := by
        intro i q hq
        obtain ⟨off, s⟩ := q
        obtain ⟨f, h1, h2, fi, h3, h4, _⟩ := hfs i off s hq
        have h1' : fields.toList[i]? = some f := by simpa using h1
        simp [h1', h2, h3, h4]
      obtain ⟨hp1, hp2⟩ := partsA_den h ps
      obtain ⟨vs', hfill, hden⟩ := fill_den (ρ := ρ) (M := M) hpl _ _ _ _ z.cells (cellsV_den ρ M z) hp1 hp2 hcs
      refine qval h.pub (v := .agg vs') ?_ (.agg cs vs'.toList (by simpa using hden.1) fun i c v h1 h2 => hden.2 i c v h1 (by simpa using h2))
      have hmap : ∀ (l : List Field) (w : World), (∀ f ∈ l, ∃ fi, X.P.info? f.type = some fi) → (l.mapM fun f => do pure (f.offset, ← sizeOf f.type) : Sem (List (Nat × Nat))).run X.P w = .ok (l.map fun f => (f.offset, (X.P.info? f.type).elim 0 (·.size))) w := by
        intro l w
        induction l with
        | nil => intro _; rfl
        | cons f l ih =>
          intro hall
          obtain ⟨fi, hfi⟩ := hall f (List.mem_cons_self ..)
          have := ih (fun g hg => hall g (List.mem_cons_of_mem _ hg))
          simp only [List.mapM_cons, Sem.run_bind, run_sizeOf hfi, Result.andThen_ok, Sem.run_pure, this, List.map_cons, hfi]
          rfl
      have hall : ∀ f ∈ fields.toList, ∃ fi, X.P.info? f.type = some fi := by
        intro f hfm
        obtain ⟨i, hi⟩ := List.getElem?_of_mem hfm
        have hlt : i < fs.length := by
          have := (List.getElem?_eq_some_iff.1 hi).1
          simp at this
          omega
        obtain ⟨f', h1, _, fi, h3, _⟩ := hfs i _ _ (List.getElem?_eq_getElem hlt)
        have : some f = some f' := by rw [← hi, ← h1]; simp
        cases this
        exact ⟨fi, h3⟩
      have hm := hmap fields.toList w hall
      unfold execOp
      simp only [ho, Instr.build, Sem.run_bind, zeroValue, typeInfo, run_program, hinf, Result.andThen_ok, Sem.run_pure, hz, run_underlying hf, Array.mapM_eq_mapM_toList, Sem.run_map, hm, hfill]
    · trivial
  · trivial

end
end Go.Proofs.Ytoeghejbgibioaa

namespace Go.Proofs.Ytoeghejbgibioaa
open Go Go.RowKit
set_option linter.unusedVariables false
set_option linter.unusedSimpArgs false

theorem partOf_zero (b : Option Nat) (cap s : Nat) : partOf b cap s 0 = addrOf b := by
  unfold partOf
  split
  · rfl
  · rw [Nat.zero_mul]
    cases b <;> rfl

def AV.toD : AV → Option D
  | .tt => some (.val (.bool true))
  | .ff => some (.val (.bool false))
  | .dat (.val v) => match oneV v with
    | true => some (.val v)
    | false => none
  | .dat (.lst s n f) => some (.lst s n f)
  | _ => none
theorem AV.toD_den {ρ : Env} {M : Mem} {c : AV} {d : D} {v : Value} (hc : c.toD = some d) (h : DenA ρ M c v) : DenD M d v ∧ v.oneCell' = true := by
  unfold AV.toD at hc
  split at hc
  · cases hc; cases h; exact ⟨.val _, rfl⟩
  · cases hc; cases h; exact ⟨.val _, rfl⟩
  · split at hc
    · rename_i hq
      cases hc
      obtain rfl := val_of h
      exact ⟨.val _, oneV_one hq⟩
    · cases hc
  · cases hc
    cases h with
    | dat h => exact ⟨h, by cases h; rfl⟩
  · cases hc
def mapD : List AV → Option (List D)
  | [] => some []
  | c :: l => match c.toD with
    | none => none
    | some d => match mapD l with
      | none => none
      | some r => some (d :: r)
theorem mapD_at : ∀ {l : List AV} {ds : List D}, mapD l = some ds → ds.length = l.length ∧ ∀ (i : Nat) (c : AV), l[i]? = some c → ∃ d, ds[i]? = some d ∧ c.toD = some d
  | [], ds, h => by cases h; exact ⟨rfl, fun i c hi => by simp at hi⟩
  | c :: l, ds, h => by
    simp only [mapD] at h
    split at h
    · cases h
    rename_i d hd
    split at h
    · cases h
    rename_i r hr
    cases h
    obtain ⟨h1, h2⟩ := mapD_at hr
    refine ⟨by simp [h1], fun i c' hi => ?_⟩
    cases i with
    | zero => simp at hi; subst hi; exact ⟨d, rfl, hd⟩
    | succ i => obtain ⟨d', e1, e2⟩ := h2 i c' (by simpa using hi); exact ⟨d', by simpa using e1, e2⟩

theorem extq_row {dr : Bool} {ρ : Env} {M : Mem} {w : World} {t : Nat} {E : TypeId} {s n cap : Nat} {f : Nat → Nat → D} {vs : Array Value} (hp : PubOk M w) (hn : n ≤ cap) (hcap : cap ≤ maxLen) (hs : vs.size = cap * s)
    (hc : ∀ i, i < n → ∀ j, j < s → ∃ u, vs[i * s + j]? = some u ∧ DenD M (f i j) u ∧ u.oneCell' = true) :
    ExtQ dr ρ M w (upd ρ t (some w.heap.size, cap)) M (w.alloc (.cells vs E)) (some t) (.own t s 0 n) (some (.row E s n f)) (.slice (some ⟨w.heap.size, 0, none⟩) n cap) where
  env r hr := upd_ne ρ (fun e => hr _ rfl (by rw [e])) _
  mem := Mem.le_refl _
  fresh p u h := .inl h
  pub := hp.alloc _
  bel := (Below.refl _ _).alloc (Nat.le_refl _) _
  drn _ := Nat.le_refl _
  den := by
    have := DenA.own (ρ := upd ρ t (some w.heap.size, cap)) (M := M) t s 0 n
    rw [upd_same, partOf_zero, Nat.sub_zero] at this
    exact this
  new e he := by
    cases he
    have hns : n * s ≤ cap * s := Nat.mul_le_mul_right s hn
    refine ⟨t, rfl, ⟨vs.toList.take (n * s), ?_, fun i hi j hj => ?_⟩, fun g hg => ?_⟩
    · rw [upd_same]
      exact ⟨by simp; omega, .inr ⟨w.heap.size, cap, vs, rfl, Nat.zero_le _, heap_alloc_new w _, hn, hcap, hs, rfl⟩⟩
    · obtain ⟨u, h1, h2, h3⟩ := hc i hi j hj
      refine ⟨u, ?_, h2, h3⟩
      have : (i + 1) * s ≤ n * s := Nat.mul_le_mul_right s hi
      rw [Nat.add_mul, Nat.one_mul] at this
      rw [List.getElem?_take, if_pos (by omega)]
      simpa using h1
    · rw [upd_same] at hg
      cases hg
      exact ⟨Nat.le_refl _, fun p u hpu => hp.off hpu⟩

section
variable {X : Cx} {st : St} {o : Oper}

def zerosA (ez : Value) (n : Nat) : List AV := (List.range n).map fun i => (cellsV ez).getD (i % ez.cells.size) .junk
theorem zerosA_den (ρ : Env) (M : Mem) (ez : Value) (n : Nat) : DenL ρ M (zerosA ez n) ((Array.range n).map (ez.cells[· % ez.cells.size]!)) := by
  refine ⟨by simp [zerosA], fun i c u h1 h2 => ?_⟩
  unfold zerosA at h1
  obtain ⟨hi, rfl⟩ := range_map_at h1
  rw [Array.getElem?_map] at h2
  simp [hi] at h2
  obtain ⟨e1, e2⟩ := cellsV_den ρ M ez
  rcases Nat.lt_or_ge (i % ez.cells.size) ez.cells.size with hlt | hge
  · have : (cellsV ez)[i % ez.cells.size]? = some ((cellsV ez).getD (i % ez.cells.size) .junk) := by
      rw [List.getD_eq_getElem?_getD, List.getElem?_eq_getElem (by omega)]; rfl
    refine e2 _ _ _ this ?_
    rw [Array.getElem?_eq_getElem hlt, ← h2]
    congr 1
    rw [getElem!_pos ez.cells _ hlt]
  · have : (cellsV ez).getD (i % ez.cells.size) .junk = .junk := by
      rw [List.getD_eq_getElem?_getD, List.getElem?_eq_none (by omega)]; rfl
    rw [this]; exact .junk _

def intsD : List D → Option (List Int)
  | [] => some []
  | .val (.int .i64 z) :: l => match intsD l with
    | some r => some (z :: r)
    | none => none
  | _ :: _ => none
def strsD : List D → Option (List ByteArray)
  | [] => some []
  | .val (.string z) :: l => match strsD l with
    | some r => some (z :: r)
    | none => none
  | _ :: _ => none
theorem intsD_at : ∀ {ds : List D} {zs : List Int}, intsD ds = some zs → ds = zs.map fun z => .val (.int .i64 z)
  | [], zs, h => by cases h; rfl
  | d :: l, zs, h => by
    unfold intsD at h
    split at h
    · rename_i heq; cases heq
    · rename_i z l' heq
      cases heq
      split at h
      · rename_i r hr; cases h; rw [intsD_at hr]; rfl
      · cases h
    · cases h
theorem strsD_at : ∀ {ds : List D} {zs : List ByteArray}, strsD ds = some zs → ds = zs.map fun z => .val (.string z)
  | [], zs, h => by cases h; rfl
  | d :: l, zs, h => by
    unfold strsD at h
    split at h
    · rename_i heq; cases heq
    · rename_i z l' heq
      cases heq
      split at h
      · rename_i r hr; cases h; rw [strsD_at hr]; rfl
      · cases h
    · cases h
def pickF (tab : Bool) (ds : List D) (k : Nat) : D := match tab with
  | false => ds.getD k (.val undef)
  | true => match intsD ds with
    | some zs => .val (.int .i64 (zs.getD k 0))
    | none => match strsD ds with
      | some ss => .val (.string (ss.getD k ByteArray.empty))
      | none => ds.getD k (.val undef)
theorem pickF_eq {tab : Bool} {ds : List D} {k : Nat} (h : k < ds.length) : pickF tab ds k = ds.getD k (.val undef) := by
  unfold pickF
  split
  · rfl
  · split
    · rename_i zs hz
      have := intsD_at hz
      subst this
      simp at h
      simp [h]
    · split
      · rename_i ss hs
        have := strsD_at hs
        subst this
        simp at h
        simp [h]
      · rfl
def tabB (len es : Nat) : Bool := match Nat.beq es 1 with
  | true => Nat.ble 3 len
  | false => false
def evBuildSlice (X : Cx) (st : St) (d : Option Nat) (t : TypeId) (len : Nat) (ps : List (Nat × Operand)) : Res := match d with
  | none => .no
  | some k => match lk t X.T with
    | some ⟨.slice E es eb ez, _, _⟩ => match Nat.beq len 0 with
      | true => match ps with
        | [] => .new (.own k es 0 0) (.row E es 0 fun _ _ => .val undef)
        | _ :: _ => .no
      | false => match fillA (fun i => some (i * es, es)) (zerosA ez (len * es)) (partsA X st ps) with
        | some cs => match mapD cs with
          | some ds => match Nat.ble (len * es) 16777216 with
            | true => match Nat.ble 1 es with
              | true => .new (.own k es 0 len) (.row E es len fun i j => pickF (tabB len es) ds (i * es + j))
              | false => .no
            | false => .no
          | none => .no
        | none => .no
    | _ => .no
theorem fillA_len {pl : Nat → Option (Nat × Nat)} : ∀ (parts : List (Nat × AV)) (c c' : List AV), fillA pl c parts = some c' → c'.length = c.length
  | [], c, c', hc => by cases hc; rfl
  | (i, x) :: parts, c, c', hc => by
    simp only [fillA] at hc
    split at hc
    · cases hc
    split at hc
    · cases hc
    split at hc
    · cases hc
    split at hc
    · cases hc
    rename_i hble
    have := Nat.le_of_ble_eq_true hble
    rw [fillA_len parts _ _ hc]
    simp; omega
theorem s_buildSlice (hX : X.ok) {t : TypeId} {len : Nat} {ps : Array (Nat × Operand)} (ho : o.op = .buildSlice t len ps) : (evBuildSlice X st o.dst t len ps.toList).sound X st o := by
  unfold evBuildSlice
  split
  · trivial
  rename_i k hd
  split
  · rename_i E es eb ez sz z hti
    obtain ⟨_, _, hu, ie, hie, hsz, hby, hz⟩ := hX t _ hti
    split
    · rename_i hl0
      obtain rfl := Nat.eq_of_beq_eq_true hl0
      split
      · rename_i hps
        intro R ρ M a w h K Q hk
        have hps' : ps = #[] := by apply Array.ext'; simpa using hps
        subst hps'
        refine wp_val (v := .slice (some ⟨w.heap.size, 0, none⟩) 0 0) (w' := w.alloc (.cells #[] E)) ?_ (hk _ _ _ _ (by
          rw [hd]
          exact extq_row h.pub (Nat.le_refl _) (Nat.zero_le _) (by simp) fun i hi => absurd hi (by omega)))
        unfold execOp
        simp [ho, Instr.buildSlice, run_underlying hu, sizeOf, typeInfo, hie, Instr.fill, newRow, Array.range_zero']
      · trivial
    · rename_i hl0
      have hlen : 1 ≤ len := by
        rcases Nat.eq_zero_or_pos len with h0 | h0
        · subst h0; cases hl0
        · exact h0
      split
      · rename_i cs hcs
        split
        · rename_i ds hds
          split
          · rename_i hle
            have hle := Nat.le_of_ble_eq_true hle
            split
            · rename_i hpos
              have hpos1 := Nat.le_of_ble_eq_true hpos
              have hpos : 1 ≤ len * es := Nat.mul_pos (by omega) hpos1
              intro R ρ M a w h K Q hk
              obtain ⟨hp1, hp2⟩ := partsA_den h ps
              obtain ⟨vs', hfill, hden⟩ := fill_den (ρ := ρ) (M := M) (place := fun i => some (i * ie.size, ie.size)) (by intro i q hq; rw [hsz]; exact hq) _ _ _ _ _ (zerosA_den ρ M ez (len * es)) hp1 hp2 hcs
              obtain ⟨hd1, hd2⟩ := mapD_at hds
              have hl : vs'.size = len * es := by
                rw [← hden.1, fillA_len _ _ _ hcs]
                simp [zerosA]
              have hrun := run_buildSlice w t E len (ps.map fun q => (q.1, a.eval q.2)) vs' ie ez hu hie hz (by rw [hsz]; omega) (by rw [hsz]; omega) (by rw [hsz]; rw [hsz] at hfill; exact hfill)
              have hcells : ∀ i, i < len → ∀ j, j < es → ∃ u, vs'[i * es + j]? = some u ∧ DenD M (pickF (tabB len es) ds (i * es + j)) u ∧ u.oneCell' = true := by
                intro i hi j hj
                have hij : i * es + j < len * es := by
                  have : (i + 1) * es ≤ len * es := Nat.mul_le_mul_right es hi
                  rw [Nat.add_mul, Nat.one_mul] at this
                  omega
                have hcl : i * es + j < cs.length := by rw [hden.1]; omega
                obtain ⟨d, e1, e2⟩ := hd2 _ _ (List.getElem?_eq_getElem hcl)
                have hv : vs'[i * es + j]? = some (vs'[i * es + j]'(by omega)) := Array.getElem?_eq_getElem (by omega)
                obtain ⟨e3, e4⟩ := AV.toD_den e2 (hden.2 _ _ _ (List.getElem?_eq_getElem hcl) hv)
                refine ⟨_, hv, ?_, e4⟩
                rw [pickF_eq (by omega), List.getD_eq_getElem?_getD, e1]
                exact e3
              have hlm : len ≤ maxLen := by
                have : len * 1 ≤ len * es := Nat.mul_le_mul_left _ hpos1
                unfold maxLen; omega
              refine wp_val (v := .slice (some ⟨w.heap.size, 0, none⟩) len len) (w' := w.alloc (.cells vs' E)) ?_ (hk _ _ _ _ (by
                rw [hd]
                exact extq_row h.pub (Nat.le_refl _) hlm hl hcells))
              unfold execOp
              simp only [ho, Sem.run_bind, hrun, Result.andThen_ok]
              rfl
            · trivial
          · trivial
        · trivial
      · trivial
  · trivial

def hasN (d : Option Nat) : List Nat → Bool
  | [] => false
  | k :: l => match d with
    | none => false
    | some t => match Nat.beq t k with
      | true => true
      | false => hasN d l
def pubR (d : Option Nat) (r : Res) : Res := match r with
  | .new (.own k s 0 n') (.row _ s' n f) => match d with
    | none => .no
    | some t => match Nat.beq t k with
      | false => .no
      | true => match Nat.beq s s' with
        | false => .no
        | true => match Nat.beq n' n with
          | false => .no
          | true => .ok (.dat (.lst s n f))
  | _ => .no
theorem pubR_sound {r : Res} (hr : r.sound X st o) : (pubR o.dst r).sound X st o := by
  unfold pubR
  split
  · rename_i k s n' E s' n f
    split
    · trivial
    rename_i t hd
    split
    · trivial
    rename_i ht
    obtain rfl := Nat.eq_of_beq_eq_true ht
    split
    · trivial
    rename_i hs
    obtain rfl := Nat.eq_of_beq_eq_true hs
    split
    · trivial
    rename_i hn
    obtain rfl := Nat.eq_of_beq_eq_true hn
    have hA : Astep X st o (.own t s 0 n') (some (.row E s n' f)) := hr
    intro R ρ M a w h K Q hk
    refine hA R ρ M a w h K Q fun v ρ' M' w' hx => ?_
    obtain ⟨t', ht', hent, hblk⟩ := hx.new _ rfl
    rw [hd] at ht'
    cases ht'
    have hv := own_of hx.den
    rw [partOf_zero, Nat.sub_zero] at hv
    obtain ⟨M2, hM2⟩ : ∃ M2 : Mem, M2 = fun p => match M' p with
      | some v => some v
      | none => if (ρ' t).1 = some p.block then (match w'.cell? p with
        | some v => match v.oneCell' with
          | true => some v
          | false => none
        | none => none) else none := ⟨_, rfl⟩
    have hle : Mem.le M' M2 := fun p v hp => by rw [hM2]; simp only [hp]
    have hnew : ∀ p v, M2 p = some v → M' p = some v ∨ ((ρ' t).1 = some p.block ∧ w'.cell? p = some v ∧ v.oneCell' = true) := fun p v hp => by
      rw [hM2] at hp
      cases hm : M' p with
      | some u => simp only [hm] at hp; cases hp; exact .inl rfl
      | none =>
        simp only [hm] at hp
        split at hp
        · rename_i hb
          refine .inr ⟨hb, ?_⟩
          cases hc : w'.cell? p with
          | none => rw [hc] at hp; cases hp
          | some u =>
            rw [hc] at hp
            simp only at hp
            cases ho : u.oneCell' with
            | false => rw [ho] at hp; cases hp
            | true => rw [ho] at hp; cases hp; exact ⟨rfl, ho⟩
        · cases hp
    have hof : ∀ p v, (ρ' t).1 = some p.block → w'.cell? p = some v → v.oneCell' = true → M2 p = some v := fun p v hb hc ho => by
      rw [hM2]
      cases hm : M' p with
      | some u =>
        have := (hx.pub p u hm).1
        rw [hc] at this; cases this
        simp only [hm]
      | none => simp only [hm, if_pos hb, hc, ho]
    refine hk v ρ M2 w' ⟨fun _ _ => rfl, Mem.le_trans hx.mem hle, fun p u hp => ?_, fun p u hp => ?_, hx.bel, .dat ?_, fun e he => (by cases he), hx.drn⟩
    · rcases hnew p u hp with h1 | ⟨h1, _, _⟩
      · exact hx.fresh p u h1
      · exact .inr (hblk _ h1).1
    · rcases hnew p u hp with h1 | ⟨_, h2, h3⟩
      · exact hx.pub p u h1
      · exact ⟨h2, h3⟩
    · have hcell := fun g hg i hi j hj => row_cell hent (g := g) hg (k := i) hi (j := j) hj
      obtain ⟨xs, ⟨hxl, how⟩, hf⟩ := hent
      have hcap : n' ≤ (ρ' t).2 ∧ (ρ' t).2 ≤ maxLen ∧ ((ρ' t).1 = none → (ρ' t).2 = 0 ∧ n' = 0) := by
        rcases how with ⟨e1, e2⟩ | ⟨g', cap, cur, e1, _, hh, hnc, hcm, _, _⟩
        · subst e2
          injection e1 with e3 e4 e5
          exact ⟨Nat.zero_le _, by rw [e5]; exact Nat.zero_le _, fun _ => ⟨e5, rfl⟩⟩
        · injection e1 with e3 e4 e5
          exact ⟨by omega, by omega, fun hn => by rw [hn] at e3; cases e3⟩
      obtain ⟨hc1, hc2, hc3⟩ := hcap
      have hch : ∃ u : Nat → Nat → Value, ∀ i, i < n' → ∀ j, j < s → ∀ gg, (ρ' t).1 = some gg → w'.cell? ⟨gg, i * s + j, none⟩ = some (u i j) ∧ DenD M' (f i j) (u i j) ∧ (u i j).oneCell' = true := by
        cases hg : (ρ' t).1 with
        | none => exact ⟨fun _ _ => undef, fun i hi => by have := hc3 hg; omega⟩
        | some gg =>
          refine ⟨fun i j => if hh : i < n' ∧ j < s then (hcell gg hg i hh.1 j hh.2).choose else undef, fun i hi j hj g' hg' => ?_⟩
          cases hg'
          have hh : i < n' ∧ j < s := ⟨hi, hj⟩
          simp only [dif_pos hh]
          exact (hcell gg hg i hh.1 j hh.2).choose_spec
      obtain ⟨u, hu⟩ := hch
      rw [hv]
      refine .lst s n' f _ _ u hc1 hc2 (fun e => ?_) (fun ad e i hi j hj => ?_) (fun i hi j hj => ?_)
      · cases hg : (ρ' t).1 with
        | none => exact (hc3 hg).1
        | some gg => rw [hg] at e; cases e
      · cases hg : (ρ' t).1 with
        | none => have := hc3 hg; omega
        | some gg =>
          rw [hg] at e
          cases e
          obtain ⟨k1, k2, k3⟩ := hu i hi j hj gg hg
          rw [add_off, Nat.zero_add]
          exact hof _ _ hg k1 k3
      · cases hg : (ρ' t).1 with
        | none => have := hc3 hg; omega
        | some gg => exact (hu i hi j hj gg hg).2.1.mono hle
  · trivial
def evBS (X : Cx) (st : St) (d : Option Nat) (t : TypeId) (len : Nat) (ps : List (Nat × Operand)) : Res := match hasN d X.pb with
  | true => pubR d (evBuildSlice X st d t len ps)
  | false => evBuildSlice X st d t len ps
theorem s_bs (hX : X.ok) {t : TypeId} {len : Nat} {ps : Array (Nat × Operand)} (ho : o.op = .buildSlice t len ps) : (evBS X st o.dst t len ps.toList).sound X st o := by
  unfold evBS
  split
  · exact pubR_sound (s_buildSlice hX ho)
  · exact s_buildSlice hX ho

def evMake (X : Cx) (st : St) (d : Option Nat) (t : TypeId) (l c : Operand) : Res := match d with
  | none => .no
  | some k => match lk t X.T with
    | some ⟨.slice E es eb ez, _, _⟩ => match intAV st X l with
      | none => .no
      | some (_, zl) => match intAV st X c with
        | none => .no
        | some (_, zc) => match Nat.beq ez.cells.size es with
          | false => .no
          | true => match ez.cells.toList.all oneV with
            | false => .no
            | true => .cnew (0 ≤ zl ∧ zl ≤ zc ∧ (eb : Int) * zc ≤ 140737488355328 ∧ zc ≤ 4611686018427387904) (.own k es 0 zl.toNat) (.row E es zl.toNat fun i j => .val (ez.cells.toList.getD j undef))
    | _ => .no
theorem s_make (hX : X.ok) {t : TypeId} {l c : Operand} (ho : o.op = .makeSlice t l c) : (evMake X st o.dst t l c).sound X st o := by
  unfold evMake
  split
  · trivial
  rename_i k hd
  split
  · rename_i E es eb ez sz z hti
    obtain ⟨_, _, hu, ie, hie, hsz, hby, hz⟩ := hX t _ hti
    split
    · trivial
    rename_i kl zl hl
    split
    · trivial
    rename_i kc zc hc
    split
    · trivial
    rename_i hes
    have hes := Nat.eq_of_beq_eq_true hes
    split
    · trivial
    rename_i hall
    intro hz0 R ρ M a w h K Q hk
    obtain ⟨z1, z2, z3, z4⟩ := hz0
    have h1 := intAV_den h hl
    have h2 := intAV_den h hc
    have hrun := run_make (P := X.P) w t E ie ez hu hie hz kl kc zl zc z1 z2 (by rw [hby]; omega) (by omega)
    have hcells : ∀ i, i < zl.toNat → ∀ j, j < es → ∃ u, (madeCells ez.cells (zc.toNat * ie.size))[i * es + j]? = some u ∧ DenD M (.val (ez.cells.toList.getD j undef)) u ∧ u.oneCell' = true := by
      intro i hi j hj
      have hij : i * es + j < zc.toNat * es := by
        have : (i + 1) * es ≤ zc.toNat * es := Nat.mul_le_mul_right es (by omega)
        rw [Nat.add_mul, Nat.one_mul] at this
        omega
      have hmod : (i * es + j) % es = j := by
        rw [Nat.mul_comm, Nat.mul_add_mod]
        exact Nat.mod_eq_of_lt hj
      have hjl : j < ez.cells.size := by omega
      refine ⟨ez.cells[j], ?_, ?_, ?_⟩
      · unfold madeCells
        rw [Array.getElem?_map, hsz]
        simp [hij, hes, hmod]
        rw [getElem!_pos ez.cells j hjl]
      · have : ez.cells.toList.getD j undef = ez.cells[j] := by simp [hjl]
        rw [this]; exact .val _
      · have := List.all_eq_true.1 hall ez.cells[j] (by simp)
        exact oneV_one this
    refine wp_val (v := .slice (some ⟨w.heap.size, 0, none⟩) zl.toNat zc.toNat) (w' := w.alloc (.cells (madeCells ez.cells (zc.toNat * ie.size)) E)) ?_ (hk _ _ _ _ (by
      rw [hd]
      exact extq_row h.pub (by omega) (by unfold maxLen; omega) (by rw [size_madeCells, hsz]) hcells))
    unfold execOp
    simp only [ho, h1, h2, Sem.run_bind, hrun, Result.andThen_ok]
    rfl
  · trivial

end
end Go.Proofs.Ytoeghejbgibioaa

namespace Go.Proofs.Ytoeghejbgibioaa
open Go Go.RowKit
set_option linter.unusedVariables false
set_option linter.unusedSimpArgs false

section
variable {X : Cx} {st : St} {o : Oper}

def bndAV (st : St) (X : Cx) (x : Option Operand) (d : Int) : Option Int := match x with
  | none => some d
  | some y => match intAV st X y with
    | some (_, z) => some z
    | none => none
theorem run_sliceBound {P : Program} {w : World} {k : IntKind} {z : Int} {y : Nat} {code : BoundsCode} (h0 : 0 ≤ z) (h1 : z ≤ (y : Int)) : (Instr.sliceBound (.int k z) y code).run P w = .ok z.toNat w := by
  simp [Instr.sliceBound, asIntOf, h0, h1]
theorem run_bounds {R : Run} {ρ : Env} {M : Mem} {a : Act} {w : World} (h : Sim X R ρ M st a w) {lo hi : Option Operand} {n cap : Nat} {l m : Int} (hl : bndAV st X lo 0 = some l) (hh : bndAV st X hi (n : Int) = some m) (b : Bool) (h0 : 0 ≤ l) (h1 : l ≤ m) (h2 : m ≤ (n : Int)) (h3 : n ≤ cap) :
    (Instr.sliceBounds b n cap (lo.map a.eval) (hi.map a.eval) none).run X.P w = .ok (l.toNat, m.toNat, cap) w := by
  have hm0 : 0 ≤ m := by omega
  cases lo with
  | none =>
    cases hl
    cases hi with
    | none => cases hh; simp [Instr.sliceBounds]
    | some y =>
      simp only [bndAV] at hh
      cases hq : intAV st X y with
      | none => rw [hq] at hh; cases hh
      | some q =>
        obtain ⟨k, z⟩ := q
        rw [hq] at hh; cases hh
        simp [Instr.sliceBounds, intAV_den h hq, run_sliceBound (P := X.P) (w := w) (k := k) (z := m) (y := cap) hm0 (by omega)]
  | some x =>
    simp only [bndAV] at hl
    cases hp : intAV st X x with
    | none => rw [hp] at hl; cases hl
    | some p =>
      obtain ⟨k', z'⟩ := p
      rw [hp] at hl; cases hl
      cases hi with
      | none =>
        cases hh
        simp [Instr.sliceBounds, intAV_den h hp, run_sliceBound (P := X.P) (w := w) (k := k') (z := l) (y := n) h0 (by omega)]
      | some y =>
        simp only [bndAV] at hh
        cases hq : intAV st X y with
        | none => rw [hq] at hh; cases hh
        | some q =>
          obtain ⟨k, z⟩ := q
          rw [hq] at hh; cases hh
          simp [Instr.sliceBounds, intAV_den h hp, intAV_den h hq, run_sliceBound (P := X.P) (w := w) (k := k) (z := m) (y := cap) hm0 (by omega), run_sliceBound (P := X.P) (w := w) (k := k') (z := l) (y := m.toNat) h0 (by omega)]

def evSlice (X : Cx) (st : St) (t : TypeId) (x : Operand) (lo hi : Option Operand) : Res := match lk t X.T with
  | some ⟨.slice E es eb ez, _, _⟩ => match st.ev X x with
    | .dat (.lst s n f) => match bndAV st X lo 0 with
      | none => .no
      | some l => match bndAV st X hi (n : Int) with
        | none => .no
        | some m => match Nat.beq es s with
          | true => .cnd (0 ≤ l ∧ l ≤ m ∧ m ≤ (n : Int)) (.dat (.lst s (m - l).toNat fun i j => f (l.toNat + i) j))
          | false => .no
    | .own r s 0 n => match bndAV st X lo 0 with
      | none => .no
      | some l => match bndAV st X hi (n : Int) with
        | none => .no
        | some m => match Nat.beq es s with
          | true => match rowOf (st.ent r) s with
            | some (N, f) => .cnd (0 ≤ l ∧ l ≤ m ∧ m ≤ (n : Int) ∧ n ≤ N) (.own r s l.toNat (m - l).toNat)
            | none => .no
          | false => .no
    | .own r s (q + 1) n => match bndAV st X lo 0 with
      | none => .no
      | some l => match bndAV st X hi (n : Int) with
        | none => .no
        | some m => match Nat.beq es s with
          | true => match rowOf (st.ent r) s with
            | some (N, f) => match n with
              | 1 => .cnd (l = 1 ∧ m = 1 ∧ q + 2 ≤ N) (.dat (.lst s 0 fun _ _ => .val undef))
              | n => .cnd (0 ≤ l ∧ l < m ∧ m ≤ (n : Int) ∧ q + 1 + n ≤ N) (.own r s (q + 1 + l.toNat) (m - l).toNat)
            | none => .no
          | false => .no
    | _ => .no
  | some ⟨.str, _, _⟩ => match st.ev X x with
    | .dat (.val (.string s)) => match bndAV st X lo 0 with
      | none => .no
      | some l => match bndAV st X hi (s.size : Int) with
        | none => .no
        | some m => .cnd (0 ≤ l ∧ l ≤ m ∧ m ≤ (s.size : Int)) (.dat (.val (.string (s.extract l.toNat m.toNat))))
    | _ => .no
  | _ => .no

theorem addrOf_map_add (b : Option Nat) (n : Nat) (h : n ≠ 0) : (addrOf b).map (·.add n) = b.map fun g => (⟨g, n, none⟩ : Addr) := by
  cases b with
  | none => rfl
  | some g => simp [addrOf, add_off]

theorem s_slice (hX : X.ok) {t : TypeId} {x : Operand} {lo hi : Option Operand} (ho : o.op = .slice t x lo hi none) : (evSlice X st t x lo hi).sound X st o := by
  unfold evSlice
  split
  · rename_i E es eb ez sz z hti
    obtain ⟨_, _, hu, ie, hie, hsz, _⟩ := hX t _ hti
    have hrun : ∀ {R : Run} {ρ : Env} {M : Mem} {a : Act} {w : World} (h : Sim X R ρ M st a w) {A : Option Addr} {n cap : Nat} {l m : Int}, a.eval x = .slice A n cap → bndAV st X lo 0 = some l → bndAV st X hi (n : Int) = some m → 0 ≤ l → l ≤ m → m ≤ (n : Int) → n ≤ cap →
        (execOp a.eval o).run X.P w = .ok (.value (.slice (if cap = l.toNat then A else A.map (·.add (l.toNat * es))) (m.toNat - l.toNat) (cap - l.toNat))) w := by
      intro R ρ M a w h A n cap l m hv hl hm h0 h1 h2 h3
      have hb := run_bounds h hl hm true h0 h1 h2 h3
      unfold execOp
      simp only [ho, Instr.sliceAt, Instr.slice, hv, Sem.run_bind, run_underlying hu, Result.andThen_ok, hb, run_sizeOf hie, hsz, Sem.run_pure, Option.map_none]
    split
    · rename_i s n f hx
      split
      · trivial
      rename_i l hl
      split
      · trivial
      rename_i m hm
      split
      · rename_i hb
        obtain rfl := Nat.eq_of_beq_eq_true hb
        intro hc R ρ M a w h
        obtain ⟨h0, h1, h2⟩ := hc
        obtain ⟨A, cap, u, hv, hn, hcap, hA, hmm, hd⟩ := lst_of (hx ▸ h.ev x)
        refine qval h.pub (hrun h hv hl hm h0 h1 h2 hn) (.dat ?_)
        have e : (m - l).toNat = m.toNat - l.toNat := by omega
        rw [e]
        refine .lst _ _ _ _ _ (fun i j => u (l.toNat + i) j) (by omega) (by omega) (fun hA2 => ?_) (fun ad had i hi j hj => ?_) (fun i hi j hj => hd _ (by omega) j hj)
        · by_cases hcl : cap = l.toNat
          · omega
          · rw [if_neg hcl] at hA2
            have : A = none := by cases A with
              | none => rfl
              | some _ => simp at hA2
            have := hA this
            omega
        · rw [if_neg (by omega)] at had
          cases A with
          | none => simp at had
          | some ad0 =>
            simp at had
            subst had
            rw [add_add, show l.toNat * es + (i * es + j) = (l.toNat + i) * es + j by rw [Nat.add_mul]; omega]
            exact hmm ad0 rfl _ (by omega) j hj
      · trivial
    · rename_i r s n hx
      split
      · trivial
      rename_i l hl
      split
      · trivial
      rename_i m hm
      split
      · rename_i hb
        obtain rfl := Nat.eq_of_beq_eq_true hb
        split
        · rename_i N f hr
          intro hc R ρ M a w h
          obtain ⟨h0, h1, h2, h3⟩ := hc
          obtain ⟨hc1, hc2, hc3⟩ := rowOf_cap h hr
          have hv := own_of (hx ▸ h.ev x)
          rw [partOf_zero, Nat.sub_zero] at hv
          have hr2 := hrun h hv hl hm h0 h1 h2 (by omega)
          have e : (m - l).toNat = m.toNat - l.toNat := by omega
          have hden := DenA.own (ρ := ρ) (M := M) r es l.toNat (m.toNat - l.toNat)
          rw [e]
          exact qval h.pub hr2 hden
        · trivial
      · trivial
    · rename_i r s q n hx
      split
      · trivial
      rename_i l hl
      split
      · trivial
      rename_i m hm
      split
      · rename_i hb
        obtain rfl := Nat.eq_of_beq_eq_true hb
        split
        · rename_i N f hr
          split
          · intro hc R ρ M a w h
            obtain ⟨rfl, rfl, h3⟩ := hc
            obtain ⟨hc1, hc2, hc3⟩ := rowOf_cap h hr
            have hv := own_of (hx ▸ h.ev x)
            have hr2 := hrun h hv hl hm (by decide) (by decide) (by decide) (by omega)
            cases hg : (ρ r).1 with
            | none => have := hc3 hg; omega
            | some g =>
              rw [partOf_some hg (by omega)] at hr2
              refine qval h.pub hr2 (.dat ?_)
              exact .lst _ _ _ _ _ (fun _ _ => undef) (Nat.zero_le _) (by omega) (fun hA => by split at hA <;> cases hA) (fun ad had i hi j hj => absurd hi (Nat.not_lt_zero _)) (fun i hi j hj => absurd hi (Nat.not_lt_zero _))
          · intro hc R ρ M a w h
            obtain ⟨h0, h1, h2, h3⟩ := hc
            obtain ⟨hc1, hc2, hc3⟩ := rowOf_cap h hr
            have hv := own_of (hx ▸ h.ev x)
            have hr2 := hrun h hv hl hm h0 (by omega) h2 (by omega)
            have e : (m - l).toNat = m.toNat - l.toNat := by omega
            have hden := DenA.own (ρ := ρ) (M := M) r es (q + 1 + l.toNat) (m.toNat - l.toNat)
            cases hg : (ρ r).1 with
            | none => have := hc3 hg; omega
            | some g =>
              rw [partOf_some hg (by omega), ← Nat.sub_sub] at hden
              rw [partOf_some hg (by omega), if_neg (by omega), Option.map_some, add_off, ← Nat.add_mul] at hr2
              rw [e]
              exact qval h.pub hr2 hden
        · trivial
      · trivial
    · trivial
  · rename_i sz z hti
    obtain ⟨_, _, hu⟩ := hX t _ hti
    split
    · rename_i s hx
      split
      · trivial
      rename_i l hl
      split
      · trivial
      rename_i m hm
      intro hc R ρ M a w h
      obtain ⟨h0, h1, h2⟩ := hc
      have hv := val_of (hx ▸ h.ev x)
      have hb := run_bounds h hl hm false h0 h1 h2 (Nat.le_refl _)
      refine qint h ?_
      unfold execOp
      simp [ho, Instr.sliceAt, Instr.slice, hv, run_underlying hu, hb]
    · trivial
  · trivial

end
end Go.Proofs.Ytoeghejbgibioaa

namespace Go.Proofs.Ytoeghejbgibioaa
open Go Go.RowKit
set_option linter.unusedVariables false
set_option linter.unusedSimpArgs false

def AV.toV1 : AV → Option Value
  | .tt => some (.bool true)
  | .ff => some (.bool false)
  | .dat (.val v) => some v
  | _ => none
def mapV : List AV → Option (List Value)
  | [] => some []
  | c :: l => match c.toV1 with
    | none => none
    | some v => match mapV l with
      | none => none
      | some r => some (v :: r)
def AV.toV : AV → Option Value
  | .agg cs => match mapV cs with
    | some vs => some (.agg vs.toArray)
    | none => none
  | c => c.toV1
theorem AV.toV1_den {ρ : Env} {M : Mem} {c : AV} {x v : Value} (hc : c.toV1 = some x) (h : DenA ρ M c v) : v = x := by
  unfold AV.toV1 at hc
  split at hc
  · cases hc; cases h; rfl
  · cases hc; cases h; rfl
  · cases hc; exact val_of h
  · cases hc
theorem mapV_den {ρ : Env} {M : Mem} : ∀ {cs : List AV} {vs us : List Value}, mapV cs = some vs → cs.length = us.length → (∀ (i : Nat) (c : AV) (v : Value), cs[i]? = some c → us[i]? = some v → DenA ρ M c v) → us = vs
  | [], vs, us, h, hl, _ => by cases h; cases us with
    | nil => rfl
    | cons => simp at hl
  | c :: l, vs, us, h, hl, hd => by
    simp only [mapV] at h
    split at h
    · cases h
    rename_i v hv
    split at h
    · cases h
    rename_i r hr
    cases h
    cases us with
    | nil => simp at hl
    | cons u us =>
      have e1 := AV.toV1_den hv (hd 0 c u rfl rfl)
      have e2 := mapV_den (us := us) hr (by simpa using hl) (fun i c' v' h1 h2 => hd (i + 1) c' v' (by simpa using h1) (by simpa using h2))
      rw [e1, e2]
theorem AV.toV_den {ρ : Env} {M : Mem} {c : AV} {x v : Value} (hc : c.toV = some x) (h : DenA ρ M c v) : v = x := by
  unfold AV.toV at hc
  split at hc
  · split at hc
    · rename_i vs hvs
      cases hc
      obtain ⟨us, rfl, hl, hd⟩ := agg_of h
      rw [mapV_den hvs hl hd]
    · cases hc
  · exact AV.toV1_den hc h

def avOf (v : Value) : AV := match v with
  | .agg cs => .agg (cs.toList.map valAV)
  | v => valAV v
theorem avOf_den (ρ : Env) (M : Mem) (v : Value) : DenA ρ M (avOf v) v := by
  unfold avOf
  split
  · rename_i cs
    have := DenA.agg (ρ := ρ) (M := M) (cs.toList.map valAV) cs.toList (by simp) (fun i c v h1 h2 => by
      rw [List.getElem?_map, h2] at h1
      cases h1
      exact valAV_den ρ M v)
    simpa using this
  · exact valAV_den ρ M v

section
variable {X : Cx} {st : St} {o : Oper}

def evIface (X : Cx) (st : St) (t : TypeId) (x : Operand) : Res := match lk t X.T with
  | none => .no
  | some _ => match (st.ev X x).toV with
    | none => .no
    | some v => .ok (.dat (.val (.iface t v)))
theorem s_iface (hX : X.ok) {t : TypeId} {x : Operand} (ho : o.op = .makeInterface t x) : (evIface X st t x).sound X st o := by
  unfold evIface
  split
  · trivial
  rename_i ti hti
  obtain ⟨⟨d, hd, _, hni⟩, _⟩ := hX t ti hti
  split
  · trivial
  rename_i v hv
  intro R ρ M a w h
  have h1 := AV.toV_den hv (h.ev x)
  refine qint h ?_
  unfold execOp
  cases d <;> first
    | exact absurd rfl (hni _)
    | simp [ho, h1, Instr.makeInterface, run_underlying hd]

def evAssert (X : Cx) (st : St) (x : Operand) (a : TypeId) (ok : Bool) : Res := match ok with
  | false => .no
  | true => match lk a X.T with
    | none => .no
    | some ti => match st.ev X x with
      | .dat (.val (.iface t v)) => match Nat.beq t a with
        | true => .ok (.tup [avOf v, .tt])
        | false => .ok (.tup [avOf ti.zero, .ff])
      | .dat (.val .nilIface) => .ok (.tup [avOf ti.zero, .ff])
      | _ => .no
theorem s_assert (hX : X.ok) {x : Operand} {xt a : TypeId} {ok : Bool} (ho : o.op = .typeAssert x xt a ok) : (evAssert X st x a ok).sound X st o := by
  have two : ∀ (ρ : Env) (M : Mem) (v : Value) (c : AV) (b : Bool), DenA ρ M c (.bool b) → DenA ρ M (.tup [avOf v, c]) (.tuple #[v, .bool b]) := by
    intro ρ M v c b hc
    refine .tup [avOf v, c] [v, .bool b] rfl fun i c' u h1 h2 => ?_
    match i with
    | 0 => simp at h1 h2; subst h1 h2; exact avOf_den ρ M v
    | 1 => simp at h1 h2; subst h1 h2; exact hc
    | i + 2 => simp at h1
  unfold evAssert
  split
  · trivial
  split
  · trivial
  rename_i ti hti
  obtain ⟨⟨d, hd, _, hni⟩, ⟨inf, hinf, _, hz⟩, _⟩ := hX a ti hti
  split
  · rename_i t v hx
    split
    · rename_i hb
      obtain rfl := Nat.eq_of_beq_eq_true hb
      intro R ρ M ac w h
      have h1 := val_of (hx ▸ h.ev x)
      refine qval h.pub (v := .tuple #[v, .bool true]) ?_ (two ρ M v .tt true .tt)
      unfold execOp
      cases d <;> first
        | exact absurd rfl (hni _)
        | simp [ho, h1, Instr.typeAssert, run_underlying hd]
    · rename_i hb
      have hne : t ≠ a := fun e => by subst e; rw [Nat.beq_refl] at hb; cases hb
      intro R ρ M ac w h
      have h1 := val_of (hx ▸ h.ev x)
      refine qval h.pub (v := .tuple #[ti.zero, .bool false]) ?_ (two ρ M ti.zero .ff false .ff)
      unfold execOp
      cases d <;> first
        | exact absurd rfl (hni _)
        | simp [ho, h1, Instr.typeAssert, run_underlying hd, hne, zeroValue, typeInfo, hinf, hz]
  · rename_i hx
    intro R ρ M ac w h
    have h1 := val_of (hx ▸ h.ev x)
    refine qval h.pub (v := .tuple #[ti.zero, .bool false]) ?_ (two ρ M ti.zero .ff false .ff)
    unfold execOp
    cases d <;> first
      | exact absurd rfl (hni _)
      | simp [ho, h1, Instr.typeAssert, run_underlying hd, zeroValue, typeInfo, hinf, hz]
  · trivial

theorem mp_of {ρ : Env} {M : Mem} {r : Nat} {v : Value} (h : DenA ρ M (.mp r) v) : ∃ g, (ρ r).1 = some g ∧ v = .map (some g) := by
  cases h with
  | mp _ g h => exact ⟨g, h, rfl⟩
def evMakeMap (X : Cx) (st : St) (d : Option Nat) (t : TypeId) (hint : Option Operand) : Res := match d with
  | none => .no
  | some r => match lk t X.T with
    | some ⟨.map k e, _, _⟩ => match hint with
      | none => .new (.mp r) (.mp X.P k e [])
      | some h => match st.ev X h with
        | .dat (.val (.int _ _)) => .new (.mp r) (.mp X.P k e [])
        | _ => .no
    | _ => .no
theorem extq_map {dr : Bool} {ρ : Env} {M : Mem} {w : World} {t : Nat} {P : Program} {k e : TypeId} (hp : PubOk M w) :
    ExtQ dr ρ M w (upd ρ t (some w.heap.size, 0)) M (w.alloc (.map #[] 0)) (some t) (.mp t) (some (.mp P k e [])) (.map (some w.heap.size)) where
  env r hr := upd_ne ρ (fun e => hr _ rfl (by rw [e])) _
  mem := Mem.le_refl _
  fresh p u h := .inl h
  pub := hp.alloc _
  bel := (Below.refl _ _).alloc (Nat.le_refl _) _
  den := .mp t _ (by rw [upd_same])
  drn _ := Nat.le_refl _
  new e' he := by
    cases he
    refine ⟨t, rfl, ⟨w.heap.size, .map [], by rw [upd_same], World.ownsMap_made w P k _, MapRep.nil⟩, fun g hg => ?_⟩
    rw [upd_same] at hg
    cases hg
    exact ⟨Nat.le_refl _, fun p u hpu => hp.off hpu⟩
theorem s_makeMap (hX : X.ok) {t : TypeId} {hint : Option Operand} (ho : o.op = .makeMap t hint) : (evMakeMap X st o.dst t hint).sound X st o := by
  unfold evMakeMap
  split
  · trivial
  rename_i r hd
  split
  · rename_i k e sz z hti
    obtain ⟨_, _, hu, _⟩ := hX t _ hti
    split
    · intro R ρ M a w h K Q hk
      refine wp_val (v := .map (some w.heap.size)) (w' := w.alloc (.map #[] 0)) ?_ (hk _ _ _ _ (by rw [hd]; exact extq_map h.pub))
      unfold execOp
      simp [ho, run_makeMap]
    · rename_i x
      split
      · rename_i kk n hx
        intro R ρ M a w h K Q hk
        have hv := val_of (hx ▸ h.ev x)
        refine wp_val (v := .map (some w.heap.size)) (w' := w.alloc (.map #[] 0)) ?_ (hk _ _ _ _ (by rw [hd]; exact extq_map h.pub))
        unfold execOp
        simp [ho, hv, Instr.makeMap, run_underlying hu, asInt]
        rfl
      · trivial
  · trivial
theorem run_zero_int {P : Program} {e : TypeId} {i : TypeInfo} (hi : P.info? e = some i) (hz : i.zero = some (.int .i64 0)) (w : World) : (zeroValue e).run P w = .ok (.int .i64 0) w := by simp [zeroValue, typeInfo, hi, hz]
theorem look_map {P : Program} {t k e : TypeId} {i : TypeInfo} {w : World} {g : Nat} {L : ML} {D : DataW Unit} {s : ByteArray} (hu : P.underlying t = some (.map k e)) (hk : P.underlying k = some .string) (he : P.underlying e = some (.int .i64)) (hi : P.info? e = some i) (hz : i.zero = some (.int .i64 0))
    (h : w.ownsMap P k (plainElem P e) g L.length D) (hr : MapRep L D) (hs : s.size ≤ maxLen) :
    (Instr.lookup t (.map (some g)) (.string s) false).run P w = .ok (.int .i64 (getM L s)) w ∧ (Instr.lookup t (.map (some g)) (.string s) true).run P w = .ok (.tuple #[.int .i64 (getM L s), .bool (hasM L s)]) w := by
  have K := Maps.string_keyed hk
  have hz' := run_zero_int hi hz w
  have hz0 := plainElem_int (H := Unit) he (a := 0) (by decide)
  have hkey := WideMaps.keyOf_string_mk hk hs
  obtain ⟨v, ps, r1, r2⟩ := h.lookup K hu hz' hz0 hkey
  obtain ⟨v', ps', q1, q2⟩ := h.look_ok K hu hz' hz0 hkey
  rw [hr.at] at r2 q2
  rw [hr.has] at q1
  obtain ⟨a, rfl, e1, _⟩ := plainElem_int_inv he r2
  obtain ⟨b, rfl, e2, _⟩ := plainElem_int_inv he q2
  injection e1 with e1 _
  injection e1 with e1
  injection e1 with _ e1
  injection e2 with e2 _
  injection e2 with e2
  injection e2 with _ e2
  subst e1 e2
  exact ⟨r1, q1⟩
def evRange (X : Cx) (st : St) (d : Option Nat) (t : TypeId) (x : Operand) : Res := match d with
  | none => .no
  | some q => match lk t X.T with
    | some ⟨.map k e, _, _⟩ => match st.ev X x with
      | .mp r => match st.ent r with
        | some (.mpx P k' e' L es clock gm) => .cnew (P = X.P ∧ k' = k ∧ e' = e) (.ptr q 0) (.it r gm es clock L none)
        | _ => .no
      | _ => .no
    | _ => .no
theorem extq_iter {dr : Bool} {ρ : Env} {M : Mem} {w : World} {t r gm : Nat} {es : Array MapEntry} {clock : Nat} {L : ML} (hp : PubOk M w) (hb : ∀ x ∈ es.toList, x.born < clock) (hL : (es.toList.map kvE).Perm (L.map kvM)) :
    ExtQ dr ρ M w (upd ρ t (some w.heap.size, 0)) M (w.alloc (.mapIter (some gm) clock #[] clock)) (some t) (.ptr t 0) (some (.it r gm es clock L none)) (.pointer (some ⟨w.heap.size, 0, none⟩)) where
  env r hr := upd_ne ρ (fun e => hr _ rfl (by rw [e])) _
  mem := Mem.le_refl _
  fresh p u h := .inl h
  pub := hp.alloc _
  bel := (Below.refl _ _).alloc (Nat.le_refl _) _
  den := .ptr t 0 _ (by rw [upd_same])
  drn _ := Nat.le_refl _
  new e' he := by
    cases he
    refine ⟨t, rfl, ⟨w.heap.size, clock, #[], clock, by rw [upd_same], (MapKept.heap_alloc w _).1, hb, Nat.le_refl _, Nat.le_refl _, ?_, fun p hp => by cases hp⟩, fun g hg => ?_⟩
    · have : leftOf es #[] = es := by
        unfold leftOf
        exact Array.filter_eq_self.2 fun x _ => by simp
      rw [this]
      exact hL
    rw [upd_same] at hg
    cases hg
    exact ⟨Nat.le_refl _, fun p u hpu => hp.off hpu⟩
theorem s_range (hX : X.ok) {t : TypeId} {x : Operand} (ho : o.op = .range t x) : (evRange X st o.dst t x).sound X st o := by
  unfold evRange
  split
  · trivial
  rename_i q hd
  split
  · rename_i k e sz z hti
    obtain ⟨_, _, hu, hk, he, ti, hi, hz⟩ := hX t _ hti
    split
    · rename_i r hx
      split
      · rename_i P k' e' L es clock gm hen
        rintro ⟨rfl, rfl, rfl⟩ R ρ M a w h K Q hK
        obtain ⟨g, hg, hv⟩ := mp_of (hx ▸ h.ev x)
        obtain ⟨h1, h2, h3⟩ := h.ents r _ hen
        rw [hg] at h1
        cases h1
        refine wp_val (v := .pointer (some ⟨w.heap.size, 0, none⟩)) (w' := w.alloc (.mapIter (some gm) clock #[] clock)) ?_ (hK _ _ _ _ (by rw [hd]; exact extq_iter h.pub h3.fit.stamped.1 (h3.perm hk he)))
        unfold execOp
        simp [ho, hv, run_range_map w t k' e' gm es clock hu h2]
      · trivial
    · trivial
  · trivial
def evEntry (X : Cx) (st : St) (x : Operand) : Res := match st.ev X x with
  | .ptr q 0 => match st.ent q with
    | some (.it r gm es clock left (some p)) => match st.ent r with
      | some (.mpx P k e L es' clock' gm') => .cnd (es' = es ∧ clock' = clock ∧ gm' = gm) (.tup [.dat (.val (.string p.1)), .dat (.val (.int .i64 p.2))])
      | _ => .no
    | _ => .no
  | _ => .no
theorem s_entry {x : Operand} (ho : o.op = .entry x) : (evEntry X st x).sound X st o := by
  unfold evEntry
  split
  · rename_i q hx
    split
    · rename_i r gm es clock left p hen
      split
      · rename_i P k e L es' clock' gm' hem
        rintro ⟨rfl, rfl, rfl⟩ R ρ M a w h
        obtain ⟨b, hb, hv⟩ := ptr_of (hx ▸ h.ev x)
        obtain ⟨g, since, seen, c0, e1, e2, e3, e4, e5, e6, e7⟩ := h.ents q _ hen
        rw [hb] at e1
        cases e1
        obtain ⟨h1, h2, h3⟩ := h.ents r _ hem
        obtain ⟨seen0, y, rfl, rfl, hy, hyp⟩ := e7 p rfl
        have hrun := run_entry_at (P := X.P) w b gm' since seen0 es' c0 y e2 h2 hy ((MapKept.stamped_iff es' c0).1 h3.fit.stamped).2.1
        have hk1 : y.key = .string p.1 := congrArg Prod.fst hyp
        have hk2 : y.val = .int .i64 p.2 := congrArg Prod.snd hyp
        rw [hk1, hk2] at hrun
        refine qval h.pub (v := .tuple #[.string p.1, .int .i64 p.2]) ?_ (.tup [.dat (.val (.string p.1)), .dat (.val (.int .i64 p.2))] [.string p.1, .int .i64 p.2] rfl fun j c v hc hv => ?_)
        · have hv' : a.eval x = .pointer (some ⟨b, 0, none⟩) := hv
          unfold execOp
          simp [ho, hv', hrun]
        · rcases j with _ | _ | j
          · simp at hc hv; subst hc hv; exact .dat (.val _)
          · simp at hc hv; subst hc hv; exact .dat (.val _)
          · simp at hc
      · trivial
    · trivial
  · trivial
def evLookup (X : Cx) (st : St) (t : TypeId) (x i : Operand) (ok : Bool) : Res := match lk t X.T with
  | some ⟨.map k e, _, _⟩ => match st.ev X x with
    | .mp r => match st.ent r with
      | some (.mp P k' e' L) => match st.ev X i with
        | .dat (.val (.string s)) => .cnd (P = X.P ∧ k' = k ∧ e' = e ∧ s.size ≤ maxLen) (match ok with
          | true => .tup [.dat (.val (.int .i64 (getM L s))), .dat (.val (.bool (hasM L s)))]
          | false => .dat (.val (.int .i64 (getM L s))))
        | _ => .no
      | _ => .no
    | _ => .no
  | _ => .no
theorem s_lookup (hX : X.ok) {t : TypeId} {x i : Operand} {ok : Bool} (ho : o.op = .lookup t x i ok) : (evLookup X st t x i ok).sound X st o := by
  unfold evLookup
  split
  · rename_i k e sz z hti
    obtain ⟨_, _, hu, hk, he, ti, hi, hz⟩ := hX t _ hti
    split
    · rename_i r hx
      split
      · rename_i P k' e' L hen
        split
        · rename_i s hs
          rintro ⟨rfl, rfl, rfl, hsz⟩ R ρ M a w h
          obtain ⟨g, hg, hv⟩ := mp_of (hx ▸ h.ev x)
          have hv2 := val_of (hs ▸ h.ev i)
          obtain ⟨g', D, h1, h2, h3⟩ := h.ents r _ hen
          rw [hg] at h1
          cases h1
          obtain ⟨q1, q2⟩ := look_map hu hk he hi hz h2 h3 hsz
          cases ok with
          | true =>
            refine qval h.pub (v := .tuple #[.int .i64 (getM L s), .bool (hasM L s)]) ?_ (.tup [.dat (.val (.int .i64 (getM L s))), .dat (.val (.bool (hasM L s)))] [.int .i64 (getM L s), .bool (hasM L s)] rfl fun j c v hc hv => ?_)
            · unfold execOp
              simp [ho, hv, hv2, q2]
            · rcases j with _ | _ | j
              · simp at hc hv; subst hc hv; exact .dat (.val _)
              · simp at hc hv; subst hc hv; exact .dat (.val _)
              · simp at hc
          | false =>
            refine qval h.pub (v := .int .i64 (getM L s)) ?_ (.dat (.val _))
            unfold execOp
            simp [ho, hv, hv2, q1]
        · trivial
      · trivial
    · trivial
  · trivial

def evFunc (st : St) (X : Cx) (fn : Fn) (first captured : List Operand) : Res := match mapV (first.map (st.ev X)) with
  | none => .no
  | some fs => match mapV (captured.map (st.ev X)) with
    | none => match fs with
      | [] => match fn with
        | .func g => .ok (.clo g (captured.map (st.ev X)))
        | _ => .no
      | _ :: _ => .no
    | some cs => .ok (.dat (.val (.func fn fs.toArray cs.toArray)))
theorem mapV_ops {R : Run} {ρ : Env} {M : Mem} {a : Act} {w : World} (h : Sim X R ρ M st a w) {xs : Array Operand} {vs : List Value} (hv : mapV (xs.toList.map (st.ev X)) = some vs) : xs.map a.eval = vs.toArray := by
  have := mapV_den (ρ := ρ) (M := M) (us := (xs.map a.eval).toList) hv (by simp) (fun i c v h1 h2 => by
    rw [List.getElem?_map] at h1
    simp only [Array.toList_map, List.getElem?_map] at h2
    cases hq : xs.toList[i]? with
    | none => rw [hq] at h1; cases h1
    | some x => rw [hq] at h1 h2; cases h1; cases h2; exact h.ev x)
  rw [← this]
theorem s_func {fn : Fn} {first captured : Array Operand} (ho : o.op = .makeFunc fn first captured) : (evFunc st X fn first.toList captured.toList).sound X st o := by
  unfold evFunc
  split
  · trivial
  rename_i fs hf
  split
  · split
    · split
      · rename_i g
        intro R ρ M a w h
        have h0 := mapV_ops h hf
        refine qval (v := .func (.func g) #[] (captured.map a.eval)) h.pub ?_ ?_
        · unfold execOp
          simp [ho, Instr.makeFunc, h0]
        · have := DenA.clo (ρ := ρ) (M := M) g (captured.toList.map (st.ev X)) (captured.map a.eval).toList (by simp) (fun i c v h1 h2 => by
            rw [List.getElem?_map] at h1
            simp only [Array.toList_map, List.getElem?_map] at h2
            cases hq : captured.toList[i]? with
            | none => rw [hq] at h1; cases h1
            | some x => rw [hq] at h1 h2; cases h1; cases h2; exact h.ev x)
          rw [Array.toArray_toList] at this
          exact this
      · trivial
    · trivial
  rename_i cs hc
  intro R ρ M a w h
  refine qint h ?_
  unfold execOp
  simp [ho, Instr.makeFunc, mapV_ops h hf, mapV_ops h hc]

def evq (X : Cx) (st : St) (o : Oper) : Res := match o.op with
  | .move x => .ok (st.ev X x)
  | .assign x => .ok (st.ev X x)
  | .pick c x y => evPick X st c x y
  | .alloc E => evAlloc X o.dst E
  | .box E x => evBox X st o.dst E x
  | .build t ps => evBuild X st t ps.toList
  | .buildSlice t len ps => evBS X st o.dst t len ps.toList
  | .load t p => evLoad X st t p
  | .nilCheck x => evNil X st x
  | .binOp op t x y _ => evBin X st op t x y
  | .unOp op _ x => evUn X st op x
  | .convert s d x => evConv X st s d x
  | .makeInterface t x => evIface X st t x
  | .makeFunc fn f c => evFunc st X fn f.toList c.toList
  | .makeSlice t l c => evMake X st o.dst t l c
  | .slice t x lo hi mx => match mx with
    | none => evSlice X st t x lo hi
    | some _ => .no
  | .fieldAddr t p i => evFieldAddr X st t p i
  | .indexAddr t x i => evIndexAddr X st t x i
  | .index t x i => evIndex X st t x i
  | .extract x i => evExtract X st x i
  | .makeMap t h => evMakeMap X st o.dst t h
  | .lookup t x i ok => evLookup X st t x i ok
  | .range t x => evRange X st o.dst t x
  | .entry x => evEntry X st x
  | .typeAssert x _ a ok => evAssert X st x a ok
  | .call c => match c with
    | ⟨.builtin b, args, ts⟩ => match b with
      | .len => match args, ts with
        | ⟨[x]⟩, ⟨[t]⟩ => evLen X st t x
        | _, _ => .no
      | .min => match args with
        | ⟨[x, y]⟩ => evMin X st x y
        | _ => .no
      | .max => match args with
        | ⟨[x, y]⟩ => evMax X st x y
        | _ => .no
      | _ => .no
    | _ => .no
  | _ => .no

theorem evq_sound (hX : X.ok) : (evq X st o).sound X st o := by
  unfold evq
  split
  · exact s_move (.inl ‹_›)
  · exact s_move (.inr ‹_›)
  · exact s_pick ‹_›
  · exact s_alloc hX ‹_›
  · exact s_box ‹_›
  · exact s_build hX ‹_›
  · exact s_bs hX ‹_›
  · exact s_load hX ‹_›
  · exact s_nil ‹_›
  · exact s_bin hX ‹_›
  · exact s_un ‹_›
  · exact s_conv hX ‹_›
  · exact s_iface hX ‹_›
  · exact s_func ‹_›
  · exact s_make hX ‹_›
  · split
    · exact s_slice hX ‹_›
    · trivial
  · exact s_fieldAddr hX ‹_›
  · exact s_indexAddr hX ‹_›
  · exact s_index hX ‹_›
  · exact s_extract ‹_›
  · exact s_makeMap hX ‹_›
  · exact s_lookup hX ‹_›
  · exact s_range hX ‹_›
  · exact s_entry ‹_›
  · exact s_assert hX ‹_›
  · split
    · split
      · split
        · exact s_len hX ‹_›
        · trivial
      · split
        · exact s_min ‹_›
        · trivial
      · split
        · exact s_max ‹_›
        · trivial
      · trivial
    · trivial
  · trivial

end
end Go.Proofs.Ytoeghejbgibioaa

namespace Go.Proofs.Ytoeghejbgibioaa
open Go Go.RowKit
set_option linter.unusedVariables false
set_option linter.unusedSimpArgs false

def St.un (st : St) (K : List (Nat × AV) → List (Nat × Ent) → Prop) : Prop := match st with
  | ⟨fr, hp⟩ => K fr hp
def cleanF (t : Nat) : List (Nat × AV) → Bool
  | [] => true
  | (s, c) :: r => match Nat.beq s t with
    | true => cleanF t r
    | false => match AV.uses t c with
      | true => false
      | false => cleanF t r
def cleanH (t : Nat) : List (Nat × Ent) → Bool
  | [] => true
  | (s, c) :: r => match Nat.beq s t with
    | true => cleanH t r
    | false => match Ent.uses t c with
      | true => false
      | false => cleanH t r
theorem cleanF_get {t s : Nat} : ∀ {l : List (Nat × AV)}, cleanF t l = true → s ≠ t → ∀ c, lk s l = some c → AV.uses t c = false
  | [], _, _, c, h => by cases h
  | (s', c') :: r, h, hne, c, hl => by
    simp only [cleanF] at h
    rw [lk_cons] at hl
    split at hl
    · rename_i he
      subst he
      cases hl
      have : Nat.beq s' t = false := by
        cases hb : Nat.beq s' t
        · rfl
        · exact absurd (Nat.eq_of_beq_eq_true hb) hne
      rw [this] at h
      simp only at h
      split at h
      · cases h
      · rename_i hu; exact hu
    · split at h
      · exact cleanF_get h hne c hl
      · split at h
        · cases h
        · exact cleanF_get h hne c hl
theorem cleanH_get {t s : Nat} : ∀ {l : List (Nat × Ent)}, cleanH t l = true → s ≠ t → ∀ c, lk s l = some c → Ent.uses t c = false
  | [], _, _, c, h => by cases h
  | (s', c') :: r, h, hne, c, hl => by
    simp only [cleanH] at h
    rw [lk_cons] at hl
    split at hl
    · rename_i he
      subst he
      cases hl
      have : Nat.beq s' t = false := by
        cases hb : Nat.beq s' t
        · rfl
        · exact absurd (Nat.eq_of_beq_eq_true hb) hne
      rw [this] at h
      simp only at h
      split at h
      · cases h
      · rename_i hu; exact hu
    · split at h
      · exact cleanH_get h hne c hl
      · split at h
        · cases h
        · exact cleanH_get h hne c hl
theorem get_uses {t s : Nat} {st : St} (h : cleanF t st.fr = true) (hne : s ≠ t) : AV.uses t (st.get s) = false := by
  unfold St.get
  cases hq : lk s st.fr with
  | none => rfl
  | some c => exact cleanF_get h hne c hq

def St.aft (st : St) (d : Option Nat) (c : AV) (ne : Option Ent) : St := match d with
  | none => st
  | some t => match ne with
    | none => ⟨(t, c) :: st.fr, st.hp⟩
    | some e => ⟨(t, c) :: st.fr, (t, e) :: st.hp⟩
theorem St.get_cons (st : St) (t : Nat) (c : AV) (hp : List (Nat × Ent)) (s : Nat) : (⟨(t, c) :: st.fr, hp⟩ : St).get s = if t = s then c else st.get s := by
  unfold St.get
  rw [lk_cons]
  by_cases h : t = s
  · rw [if_pos h, if_pos h]
  · rw [if_neg h, if_neg h]
theorem put_get (a : Act) (t : Nat) (v : Value) (ht : t < a.tmps.size) (s : Nat) : (a.put (some t) v).tmps.getD s undef = if t = s then v else a.tmps.getD s undef := by
  by_cases h : t = s
  · subst h
    simp [Act.put, ht]
  · rw [if_neg h]
    simp [Act.put, Array.getElem?_setIfInBounds_ne h]
theorem put_sz (a : Act) (d : Option Tmp) (v : Value) : (a.put d v).tmps.size = a.tmps.size := by cases d <;> simp [Act.put]
theorem put_df (a : Act) (d : Option Tmp) (v : Value) : (a.put d v).defers = a.defers := by cases d <;> rfl

def okDst (n : Nat) (st : St) (d : Option Nat) (ne : Option Ent) : Prop := ∀ t, d = some t → t < n ∧ (ne.isSome = true → cleanF t st.fr = true ∧ cleanH t st.hp = true)

theorem Sim.quiet {X : Cx} {R : Run} {ρ ρ' : Env} {M M' : Mem} {st : St} {a : Act} {w w' : World} {d : Option Nat} {c : AV} {ne : Option Ent} {v : Value} (h : Sim X R ρ M st a w) (hx : ExtQ X.dr ρ M w ρ' M' w' d c ne v) (hd : okDst R.n st d ne) :
    Sim X R ρ' M' (st.aft d c ne) (a.put d v) w' := by
  have hb := hx.bel
  have hsz := hb.size
  have hcsz := h.chg.size
  have henv : ∀ r, (∀ t, d = some t → ne.isSome = true → r ≠ t) → ρ' r = ρ r := fun r hr => hx.env r fun e he ht => by
    exact hr r ht (by rw [he]; rfl) rfl
  have hslot0 : ∀ s, (∀ t, d = some t → s ≠ t) → DenA ρ' M' (st.get s) (a.tmps.getD s undef) := fun s hs => by
    refine (h.slots s).keep hx.mem fun r hr => henv r fun t ht hne he => ?_
    subst he
    rw [get_uses ((hd r ht).2 hne).1 (hs r ht)] at hr
    cases hr
  have hent0 : ∀ r e, st.ent r = some e → (∀ t, d = some t → ne.isSome = true → r ≠ t) → EntOk ρ' M' w' r e := fun r e he hr => by
    refine (h.ents r e he).keep hx.mem (henv r hr) (fun k hk => henv k fun t ht hne hkt => ?_) (fun g ho hg hlt => hb.block g hlt)
    subst hkt
    rw [cleanH_get ((hd k ht).2 hne).2 (hr k ht hne) e he] at hk
    cases hk
  have hents : ∀ r e, (st.aft d c ne).ent r = some e → (∃ t, d = some t ∧ r = t ∧ ne = some e) ∨ (st.ent r = some e ∧ ∀ t, d = some t → ne.isSome = true → r ≠ t) := fun r e he => by
    cases d with
    | none => exact .inr ⟨he, fun t ht => by cases ht⟩
    | some t =>
      cases ne with
      | none => exact .inr ⟨he, fun t _ hn => by cases hn⟩
      | some e' =>
        have he' : lk r ((t, e') :: st.hp) = some e := he
        rw [lk_cons] at he'
        split at he'
        · rename_i htr
          cases he'
          exact .inl ⟨t, rfl, htr.symm, rfl⟩
        · rename_i htr
          exact .inr ⟨he', fun t' ht' _ hrt => by cases ht'; exact htr hrt.symm⟩
  refine ⟨by rw [put_sz]; exact h.size, by rw [put_df]; exact h.defers, h.chg.trans (.of_below (bs := []) hb) (fun g hg => by cases hg), Mem.le_trans h.m0 hx.mem, h.g0, fun p u hp => ?_, hx.pub, fun s => ?_, fun r e he => ?_, fun r e g he ho hg => ?_, fun r r' e e' he he' ho ho' hne g hg hg' => ?_, fun r e g p u he ho hg hp => ?_, fun k hk => (henv k fun t ht _ hkt => by
    subst hkt
    have h1 := (hd k ht).1
    have h2 := kp_small (k := k) (Nat.lt_of_lt_of_le h1 R.n5)
    rw [hk] at h2; cases h2).trans (h.fix k hk), fun hd => Nat.le_trans (h.drn hd) (hx.drn hd), h.kn⟩
  · rcases hx.fresh p u hp with h1 | h1
    · exact h.fresh p u h1
    · exact .inr (by omega)
  · cases d with
    | none => exact hslot0 s (fun t ht => by cases ht)
    | some t =>
      have ht := (hd t rfl).1
      have e1 : (st.aft (some t) c ne).get s = if t = s then c else st.get s := by
        cases ne <;> exact St.get_cons st t c _ s
      rw [e1, put_get a t v (by rw [h.size]; exact ht)]
      by_cases hts : t = s
      · rw [if_pos hts, if_pos hts]; exact hx.den
      · rw [if_neg hts, if_neg hts]
        exact hslot0 s (fun t' ht' => by cases ht'; exact fun e => hts e.symm)
  · rcases hents r e he with ⟨t, ht, rfl, hne⟩ | ⟨h1, h2⟩
    · obtain ⟨t', ht', hok, _⟩ := hx.new e hne
      rw [ht] at ht'; cases ht'
      exact hok
    · exact hent0 r e h1 h2
  · rcases hents r e he with ⟨t, ht, rfl, hne⟩ | ⟨h1, h2⟩
    · obtain ⟨t', ht', hok, hbk⟩ := hx.new e hne
      rw [ht] at ht'; cases ht'
      have := (hbk g hg).1
      exact .inl (by omega)
    · rw [henv r h2] at hg
      exact h.own r e g h1 ho hg
  · rcases hents r e he with ⟨t, ht, rfl, hn⟩ | ⟨h1, h2⟩
    · obtain ⟨t', ht', hok, hbk⟩ := hx.new e hn
      rw [ht] at ht'; cases ht'
      have hge := (hbk g hg).1
      rcases hents r' e' he' with ⟨t2, ht2, rfl, hn2⟩ | ⟨h3, h4⟩
      · rw [ht] at ht2; cases ht2; exact hne rfl
      · rw [henv r' h4] at hg'
        have := (h.ents r' e' h3).lt ho' g hg'
        omega
    · rw [henv r h2] at hg
      rcases hents r' e' he' with ⟨t2, ht2, rfl, hn2⟩ | ⟨h3, h4⟩
      · obtain ⟨t', ht', hok, hbk⟩ := hx.new e' hn2
        rw [ht2] at ht'; cases ht'
        have hge := (hbk g hg').1
        have := (h.ents r e h1).lt ho g hg
        omega
      · rw [henv r' h4] at hg'
        exact h.apart r r' e e' h1 h3 ho ho' hne g hg hg'
  · rcases hents r e he with ⟨t, ht, rfl, hne⟩ | ⟨h1, h2⟩
    · obtain ⟨t', ht', hok, hbk⟩ := hx.new e hne
      rw [ht] at ht'; cases ht'
      exact (hbk g hg).2 p u hp
    · rw [henv r h2] at hg
      rcases hx.fresh p u hp with h3 | h3
      · exact h.sep r e g p u h1 ho hg h3
      · have := (h.ents r e h1).lt ho g hg
        omega

theorem Sim.stored {X : Cx} {R : Run} {ρ : Env} {M : Mem} {st : St} {a : Act} {w w' : World} {r g : Nat} {e e' : Ent} (h : Sim X R ρ M st a w) (he : st.ent r = some e) (ho : e.owned = true) (ho' : e'.owned = true) (hg : (ρ r).1 = some g)
    (hok : EntOk ρ M w' r e') (hw : Chg [g] w w') (hs : w'.heap.size = w.heap.size) (hdr : w.drawn ≤ w'.drawn) : Sim X R ρ M ⟨st.fr, (r, e') :: st.hp⟩ a w' := by
  have hents : ∀ k q, (⟨st.fr, (r, e') :: st.hp⟩ : St).ent k = some q → (k = r ∧ q = e') ∨ (k ≠ r ∧ st.ent k = some q) := fun k q hq => by
    have hq' : lk k ((r, e') :: st.hp) = some q := hq
    rw [lk_cons] at hq'
    split at hq'
    · rename_i hrk; cases hq'; exact .inl ⟨hrk.symm, rfl⟩
    · rename_i hrk; exact .inr ⟨fun e => hrk e.symm, hq'⟩
  have hpub : PubOk M w' := fun p v hp => by
    obtain ⟨h1, h2⟩ := h.pub p v hp
    refine ⟨(World.cell?_of_block (hw.block _ (cell_lt h1) ?_)).trans h1, h2⟩
    simp
    exact h.sep r e g p v he ho hg hp
  refine ⟨h.size, h.defers, h.chg.trans hw (fun k hk hlt => ?_), h.m0, h.g0, h.fresh, hpub, h.slots, fun k q hq => ?_, fun k q b hq hoq hb => ?_, fun k k' q q' hq hq' hoq hoq' hne b hb hb' => ?_, fun k q b p v hq hoq hb hp => ?_, h.fix, fun hd => Nat.le_trans (h.drn hd) hdr, h.kn⟩
  · simp at hk
    subst hk
    rcases h.own r e k he ho hg with h1 | h1
    · omega
    · exact R.hsub _ _ h1.2
  · rcases hents k q hq with ⟨rfl, rfl⟩ | ⟨hne, h1⟩
    · exact hok
    · refine (h.ents k q h1).keep (Mem.le_refl _) rfl (fun _ _ => rfl) fun b hob hb hlt => hw.block b hlt ?_
      simp
      intro hbg
      subst hbg
      exact h.apart k r q e h1 he hob ho hne b hb hg
  · rcases hents k q hq with ⟨rfl, rfl⟩ | ⟨hne, h1⟩
    · exact h.own k e b he ho hb
    · exact h.own k q b h1 hoq hb
  · rcases hents k q hq with ⟨rfl, rfl⟩ | ⟨hn, h1⟩
    · rcases hents k' q' hq' with ⟨rfl, rfl⟩ | ⟨hn', h1'⟩
      · exact hne rfl
      · exact h.apart k k' e q' he h1' ho hoq' hne b hb hb'
    · rcases hents k' q' hq' with ⟨rfl, rfl⟩ | ⟨hn', h1'⟩
      · exact h.apart k k' q e h1 he hoq ho hne b hb hb'
      · exact h.apart k k' q q' h1 h1' hoq hoq' hne b hb hb'
  · rcases hents k q hq with ⟨rfl, rfl⟩ | ⟨hne, h1⟩
    · exact h.sep k e b p v he ho hb hp
    · exact h.sep k q b p v h1 hoq hb hp

end Go.Proofs.Ytoeghejbgibioaa

namespace Go.Proofs.Ytoeghejbgibioaa
open Go Go.RowKit
set_option linter.unusedVariables false
set_option linter.unusedSimpArgs false
set_option linter.unnecessarySimpa false

def OpOk (X : Cx) (n : Nat) (st : St) (o : Oper) (K : St → Prop) : Prop :=
  ∀ R : Run, R.n = n → ∀ ρ M a w, Sim X R ρ M st a w → ∀ (K' : Act → World → Prop) (Q : Exit → Act → World → Prop), (∀ st' ρ' M' a' w', K st' → Sim X R ρ' M' st' a' w' → K' a' w') → o.wp X.P a w K' Q

def AV.one : AV → Bool
  | .tt => true
  | .ff => true
  | .dat (.val v) => oneV v
  | .dat (.lst ..) => true
  | .ptr .. => true
  | .ro .. => true
  | .own .. => true
  | .rptr .. => true
  | .clo .. => true
  | .mp .. => true
  | _ => false
theorem AV.one_den {ρ : Env} {M : Mem} {c : AV} {v : Value} (hc : c.one = true) (h : DenA ρ M c v) : v.oneCell' = true := by
  cases h with
  | junk => cases hc
  | tt => rfl
  | ff => rfl
  | dat h => cases h with
    | val => exact oneV_one hc
    | lst => rfl
  | ptr => rfl
  | ro => rfl
  | own => rfl
  | rptr => rfl
  | agg => cases hc
  | tup => cases hc
  | clo => rfl
  | mp => rfl
def onesA : List AV → Bool
  | [] => true
  | c :: l => match c.one with
    | true => onesA l
    | false => false
theorem onesA_at : ∀ {l : List AV}, onesA l = true → ∀ (i : Nat) (c : AV), l[i]? = some c → c.one = true
  | [], _, i, c, h => by simp at h
  | x :: l, h, i, c, hi => by
    simp only [onesA] at h
    split at h
    · rename_i hx
      cases i with
      | zero => simp at hi; subst hi; exact hx
      | succ i => exact onesA_at h i c (by simpa using hi)
    · cases h

theorem setRow_other (w : World) (g : Nat) (cs : Array Value) (k : Nat) (hk : k ≠ g) : (w.setRow g cs).heap[k]? = w.heap[k]? := by
  simp only [World.setRow, Array.getElem?_modify]
  rw [if_neg (by omega)]
theorem setRow_size (w : World) (g : Nat) (cs : Array Value) : (w.setRow g cs).heap.size = w.heap.size := by simp [World.setRow]
theorem chg_setRow (w : World) (g : Nat) (cs : Array Value) : Chg [g] w (w.setRow g cs) :=
  ⟨rfl, rfl, rfl, by rw [setRow_size]; exact Nat.le_refl _, fun k _ hk => setRow_other w g cs k (by simpa using hk)⟩

def pickD (p : Prop) [Decidable p] (a b : D) : D := match a with
  | .val (.int ka x) => match b with
    | .val (.int kb y) => match IntKind.same ka kb with
      | true => .val (.int ka (if p then x else y))
      | false => if p then a else b
    | _ => if p then a else b
  | _ => if p then a else b
theorem pickD_eq (p : Prop) [Decidable p] (a b : D) : pickD p a b = if p then a else b := by
  unfold pickD
  split
  · split
    · split
      · rename_i hk
        obtain rfl := IntKind.same_eq hk
        split <;> rfl
      · rfl
    · rfl
  · rfl
def setF (f : Nat → Nat → D) (k j : Nat) (ds : List D) : Nat → Nat → D := fun i j' => pickD (i = k ∧ j ≤ j' ∧ j' < j + ds.length) (ds.getD (j' - j) (.val undef)) (f i j')
theorem setF_eq (f : Nat → Nat → D) (k j : Nat) (ds : List D) (i j' : Nat) : setF f k j ds i j' = if i = k ∧ j ≤ j' ∧ j' < j + ds.length then ds.getD (j' - j) (.val undef) else f i j' := pickD_eq _ _ _

def exStore (X : Cx) (st : St) (t : TypeId) (p x : Operand) (K : St → Prop) : Prop := match lk t X.T with
  | none => False
  | some ti => match (st.ev X x).cells with
    | none => False
    | some vs => match Nat.beq vs.length ti.size with
      | false => False
      | true => match onesA vs with
        | false => False
        | true => match st.ev X p with
          | .ptr r off => match st.ent r with
            | some (.blk E cs) => match Nat.ble (off + vs.length) cs.length with
              | true => st.un fun fr hp => K ⟨fr, (r, .blk E (cs.take off ++ vs ++ cs.drop (off + vs.length))) :: hp⟩
              | false => False
            | _ => False
          | .rptr r s k j => match st.ent r with
            | some (.row E s' n f) => match Nat.beq s s' with
              | false => False
              | true => match mapD vs with
                | none => False
                | some ds => match Nat.ble (j + vs.length) s with
                  | true => CndK (k < n) (st.un fun fr hp => K ⟨fr, (r, .row E s n (setF f k j ds)) :: hp⟩)
                  | false => False
            | _ => False
          | _ => False

theorem seg_at {α : Type} {l vs : List α} {off i : Nat} (hoff : off + vs.length ≤ l.length) : (l.take off ++ vs ++ l.drop (off + vs.length))[i]? = if off ≤ i ∧ i < off + vs.length then vs[i - off]? else l[i]? := by
  rcases Nat.lt_or_ge i off with h1 | h1
  · rw [if_neg (by omega), List.append_assoc, List.getElem?_append_left (by simp; omega), List.getElem?_take, if_pos h1]
  · rcases Nat.lt_or_ge i (off + vs.length) with h2 | h2
    · rw [if_pos ⟨h1, h2⟩, List.getElem?_append_left (by simp; omega), List.getElem?_append_right (by simp; omega)]
      simp only [List.length_take]
      rw [Nat.min_eq_left (by omega)]
    · rw [if_neg (by omega), List.getElem?_append_right (by simp; omega), List.getElem?_drop]
      simp only [List.length_append, List.length_take]
      rw [Nat.min_eq_left (by omega)]
      congr 1
      omega
theorem seg_len {α : Type} {l vs : List α} {off : Nat} (hoff : off + vs.length ≤ l.length) : (l.take off ++ vs ++ l.drop (off + vs.length)).length = l.length := by
  simp; omega

section
variable {X : Cx} {st : St} {o : Oper}

theorem s_store (hX : X.ok) {n : Nat} {t : TypeId} {p x : Operand} (ho : o.op = .store t p x) (hd : o.dst = none) {K : St → Prop} (hk : exStore X st t p x K) : OpOk X n st o K := by
  unfold exStore at hk
  split at hk
  · exact hk.elim
  rename_i ti hti
  obtain ⟨⟨d, hdd, _, _⟩, ⟨inf, hinf, hsz, _⟩, _⟩ := hX t ti hti
  split at hk
  · exact hk.elim
  rename_i vs hvs
  split at hk
  · exact hk.elim
  rename_i hlen
  have hlen := Nat.eq_of_beq_eq_true hlen
  split at hk
  · exact hk.elim
  rename_i hone
  have hrun : ∀ {R : Run} {ρ : Env} {M : Mem} {a : Act} {w : World} (h : Sim X R ρ M st a w) {g off : Nat} {cur : Array Value} {E : TypeId}, a.eval p = .pointer (some ⟨g, off, none⟩) → w.heap[g]? = some (.cells cur E (0, 0)) → off + vs.length ≤ cur.size →
      (execOp a.eval o).run X.P w = .ok .skip (w.setRow g (cur.toList.take off ++ (a.eval x).cells.toList ++ cur.toList.drop (off + vs.length)).toArray) := by
    intro R ρ M a w h g off cur E hp hg hoff
    obtain ⟨h1, h2⟩ := AV.cells_den (h.ev x) hvs
    have hst := run_storeCells_at X.P g off E (a.eval x).cells.toList 0 cur w hg (by simp; omega) (fun v hv => by
      obtain ⟨i, hi⟩ := List.getElem?_of_mem hv
      have hlt : i < vs.length := by
        have := (List.getElem?_eq_some_iff.1 hi).1
        simp at this; omega
      exact AV.one_den (onesA_at hone i _ (List.getElem?_eq_getElem hlt)) (h2 i _ v (List.getElem?_eq_getElem hlt) (by simpa using hi)))
    have hsz2 : (a.eval x).cells.size = inf.size := by omega
    unfold execOp
    simp only [ho, Instr.storeAt, Instr.sureAddr, hp, storeVar, Sem.run_bind, Sem.run_pure, Result.andThen_ok, run_sizeOf hinf, hsz2, ne_eq, not_true_eq_false, if_false, hst]
    simp [h1]
  split at hk
  · rename_i r off hp
    split at hk
    · rename_i E cs he
      split at hk
      · rename_i hle
        have hle := Nat.le_of_ble_eq_true hle
        intro R hn ρ M a w h K' Q hK'
        obtain ⟨g, hg, hv⟩ := ptr_of (hp ▸ h.ev p)
        obtain ⟨g', cur, hg', hh, hl, hc⟩ := h.ents r _ he
        rw [hg] at hg'; cases hg'
        obtain ⟨h1, h2⟩ := AV.cells_den (h.ev x) hvs
        have hr := hrun h hv hh (by omega)
        have hl2 : off + (a.eval x).cells.toList.length ≤ cur.toList.length := by simp; omega
        have hsim := h.stored (e' := .blk E (cs.take off ++ vs ++ cs.drop (off + vs.length))) he rfl rfl hg (w' := w.setRow g (cur.toList.take off ++ (a.eval x).cells.toList ++ cur.toList.drop (off + vs.length)).toArray)
          ⟨g, _, hg, setRow_heap w g cur _ E (0, 0) hh, by rw [seg_len hle]; simp; omega, fun i c v hi hv2 => by
            rw [seg_at hle] at hi
            have hv3 : (cur.toList.take off ++ (a.eval x).cells.toList ++ cur.toList.drop (off + (a.eval x).cells.toList.length))[i]? = some v := by
              have e : (a.eval x).cells.toList.length = vs.length := by simp; omega
              rw [e]; simpa using hv2
            rw [seg_at hl2] at hv3
            have e : (a.eval x).cells.toList.length = vs.length := by simp; omega
            rw [e] at hv3
            split at hi
            · rename_i hin
              rw [if_pos hin] at hv3
              exact h2 _ c v hi (by simpa using hv3)
            · rename_i hin
              rw [if_neg hin] at hv3
              exact hc _ c v hi (by simpa using hv3)⟩ (chg_setRow _ _ _) (setRow_size _ _ _)
        unfold Oper.wp
        rw [hr]
        show K' (a.put o.dst undef) _
        rw [hd]
        exact hK' _ _ _ _ _ hk (hsim (Nat.le_refl _))
      · exact hk.elim
    · exact hk.elim
  · rename_i r s k j hp
    split at hk
    · rename_i E s' N f he
      split at hk
      · exact hk.elim
      rename_i hs
      obtain rfl := Nat.eq_of_beq_eq_true hs
      split at hk
      · exact hk.elim
      rename_i ds hds
      split at hk
      · rename_i hle
        have hle := Nat.le_of_ble_eq_true hle
        obtain ⟨hkn, hk⟩ := hk
        intro R hn ρ M a w h K' Q hK'
        obtain ⟨g, hg, hv⟩ := rptr_of (hp ▸ h.ev p)
        obtain ⟨xs, ⟨hxl, how⟩, hf⟩ := h.ents r _ he
        obtain ⟨h1, h2⟩ := AV.cells_den (h.ev x) hvs
        obtain ⟨hd1, hd2⟩ := mapD_at hds
        rcases how with ⟨hn1, hn2⟩ | ⟨g', cap, cur, hsl, _, hh, hnc, hcm, hcs, htake⟩
        · rw [hg] at hn1; simp [addrOf] at hn1
        · rw [hg] at hsl
          simp [addrOf] at hsl
          obtain ⟨rfl, hcap⟩ := hsl
          have hin : k * s + j + vs.length ≤ N * s := by
            have : (k + 1) * s ≤ N * s := Nat.mul_le_mul_right s hkn
            rw [Nat.add_mul, Nat.one_mul] at this
            omega
          have hNc : N * s ≤ cap * s := Nat.mul_le_mul_right s hnc
          have hr := hrun h hv hh (by omega)
          have e : (a.eval x).cells.toList.length = vs.length := by simp; omega
          have hl2 : (k * s + j) + (a.eval x).cells.toList.length ≤ cur.toList.length := by simp; omega
          have hsim := h.stored (e' := .row E s N (setF f k j ds)) he rfl rfl hg (w' := w.setRow g (cur.toList.take (k * s + j) ++ (a.eval x).cells.toList ++ cur.toList.drop (k * s + j + vs.length)).toArray)
            ⟨_, ⟨?_, .inr ⟨g, cap, _, by rw [hg, hcap]; rfl, Nat.zero_le _, setRow_heap w g cur _ E (0, 0) hh, hnc, hcm, ?_, rfl⟩⟩, ?_⟩ (chg_setRow _ _ _) (setRow_size _ _ _)
          · unfold Oper.wp
            rw [hr]
            show K' (a.put o.dst undef) _
            rw [hd]
            exact hK' _ _ _ _ _ hk (hsim (Nat.le_refl _))
          · simp; omega
          · have := seg_len hl2
            rw [e] at this
            simp at this ⊢
            omega
          · intro i hi j' hj'
            have hij : i * s + j' < N * s := by
              have : (i + 1) * s ≤ N * s := Nat.mul_le_mul_right s hi
              rw [Nat.add_mul, Nat.one_mul] at this
              omega
            have hget : ((cur.toList.take (k * s + j) ++ (a.eval x).cells.toList ++ cur.toList.drop (k * s + j + vs.length)).toArray.toList.take (N * s))[i * s + j']? = if k * s + j ≤ i * s + j' ∧ i * s + j' < k * s + j + vs.length then (a.eval x).cells.toList[i * s + j' - (k * s + j)]? else cur.toList[i * s + j']? := by
              rw [List.getElem?_take, if_pos hij]
              have := seg_at (i := i * s + j') hl2
              rw [e] at this
              exact this
            have hwhere : (k * s + j ≤ i * s + j' ∧ i * s + j' < k * s + j + vs.length) ↔ (i = k ∧ j ≤ j' ∧ j' < j + vs.length) := by
              constructor
              · intro ⟨q1, q2⟩
                have : i = k := by
                  rcases Nat.lt_trichotomy i k with hlt | heq | hgt
                  · have : (i + 1) * s ≤ k * s := Nat.mul_le_mul_right s hlt
                    rw [Nat.add_mul, Nat.one_mul] at this
                    omega
                  · exact heq
                  · have : (k + 1) * s ≤ i * s := Nat.mul_le_mul_right s hgt
                    rw [Nat.add_mul, Nat.one_mul] at this
                    omega
                subst this
                exact ⟨rfl, by omega, by omega⟩
              · rintro ⟨rfl, q1, q2⟩
                exact ⟨by omega, by omega⟩
            rw [hget]
            rw [setF_eq]
            by_cases hc : i = k ∧ j ≤ j' ∧ j' < j + vs.length
            · rw [if_pos (hwhere.2 hc), if_pos (by rw [hd1]; exact hc)]
              obtain ⟨rfl, q1, q2⟩ := hc
              have hlt : j' - j < vs.length := by omega
              have e3 : i * s + j' - (i * s + j) = j' - j := by omega
              rw [e3]
              obtain ⟨d', e1, e2⟩ := hd2 _ _ (List.getElem?_eq_getElem hlt)
              have hlt2 : j' - j < (a.eval x).cells.size := by omega
              have hval : (a.eval x).cells[j' - j]? = some (a.eval x).cells[j' - j] := Array.getElem?_eq_getElem hlt2
              obtain ⟨e4, e5⟩ := AV.toD_den e2 (h2 _ _ _ (List.getElem?_eq_getElem hlt) hval)
              refine ⟨_, by simpa using hval, ?_, e5⟩
              rw [List.getD_eq_getElem?_getD, e1]
              exact e4
            · rw [if_neg (fun hq => hc (hwhere.1 hq)), if_neg (by rw [hd1]; exact hc)]
              obtain ⟨u, hu1, hu2, hu3⟩ := hf i hi j' hj'
              rw [← htake, List.getElem?_take, if_pos hij] at hu1
              exact ⟨u, hu1, hu2, hu3⟩
      · exact hk.elim
    · exact hk.elim
  · exact hk.elim

end
end Go.Proofs.Ytoeghejbgibioaa

namespace Go.Proofs.Ytoeghejbgibioaa
open Go Go.RowKit
set_option linter.unusedVariables false
set_option linter.unusedSimpArgs false
set_option linter.unnecessarySimpa false

def AV.junkR (r : Nat) (c : AV) : AV := match AV.uses r c with
  | true => .junk
  | false => c
theorem AV.junkR_den {ρ ρ' : Env} {M M' : Mem} {r : Nat} {c : AV} {v : Value} (hM : Mem.le M M') (hρ : ∀ k, k ≠ r → ρ' k = ρ k) (h : DenA ρ M c v) : DenA ρ' M' (c.junkR r) v := by
  unfold AV.junkR
  split
  · exact .junk v
  · rename_i hu
    refine h.keep hM fun k hk => hρ k fun e => ?_
    subst e
    rw [hu] at hk; cases hk
theorem usesL_map_junk (r k : Nat) : ∀ cs : List AV, AV.uses.usesL k (cs.map (AV.junkR r)) = true → AV.uses.usesL k cs = true
  | [], h => h
  | c :: l, h => by
    simp only [List.map_cons, AV.uses.usesL, Bool.or_eq_true] at h ⊢
    rcases h with h | h
    · left
      unfold AV.junkR at h
      split at h
      · cases h
      · exact h
    · exact .inr (usesL_map_junk r k l h)
def junkF (r : Nat) (fr : List (Nat × AV)) : List (Nat × AV) := fr.map fun q => (q.1, AV.junkR r q.2)
def Ent.junkR (r : Nat) : Ent → Ent
  | .blk t cs => .blk t (cs.map (AV.junkR r))
  | e => e
def junkH (r : Nat) (hp : List (Nat × Ent)) : List (Nat × Ent) := hp.map fun q => (q.1, Ent.junkR r q.2)
theorem lk_map {α β : Type} (f : α → β) (k : Nat) : ∀ l : List (Nat × α), lk k (l.map fun q => (q.1, f q.2)) = (lk k l).map f
  | [] => rfl
  | (i, x) :: r => by
    simp only [List.map_cons, lk_cons, lk_map f k r]
    split <;> rfl
theorem get_junk (r : Nat) (st : St) (hp : List (Nat × Ent)) (s : Nat) : (⟨junkF r st.fr, hp⟩ : St).get s = AV.junkR r (st.get s) := by
  unfold St.get junkF
  rw [lk_map]
  cases lk s st.fr <;> rfl
theorem Ent.junkR_owned (r : Nat) (e : Ent) : (Ent.junkR r e).owned = e.owned := by cases e <;> rfl

theorem Sim.regrow {X : Cx} {R : Run} {ρ : Env} {M : Mem} {st : St} {a : Act} {w w' : World} {r dt : Nat} {ob : Option Nat} {b' : Option Nat} {cap' : Nat} {E : TypeId} {s n : Nat} {f : Nat → Nat → D} {v : Value}
    (h : Sim X R ρ M st a w) (hob : ∀ g, ob = some g → ∃ e, st.ent r = some e ∧ e.owned = true ∧ (ρ r).1 = some g) (hgr : w.grownBy w' ob) (hb : b' = ob ∨ b' = some w.heap.size)
    (hok : EntOk (upd ρ r (b', cap')) M w' r (.row E s n f)) (hv : v = .slice (addrOf b') n cap') (hdt : dt < R.n) (hkr : kp r = false) (hdr : w.drawn ≤ w'.drawn) :
    Sim X R (upd ρ r (b', cap')) M ⟨(dt, .own r s 0 n) :: junkF r st.fr, (r, .row E s n f) :: junkH r st.hp⟩ (a.put (some dt) v) w' := by
  have hne : ∀ k, k ≠ r → upd ρ r (b', cap') k = ρ k := fun k hk => upd_ne ρ hk _
  have hcell : ∀ g, g < w.heap.size → ob ≠ some g → w'.heap[g]? = w.heap[g]? := fun g hg hn => hgr.block g hg (fun e => hn e.symm)
  have hpub : PubOk M w' := fun p u hp => by
    obtain ⟨h1, h2⟩ := h.pub p u hp
    refine ⟨(World.cell?_of_block (hcell _ (cell_lt h1) fun hpo => ?_)).trans h1, h2⟩
    obtain ⟨e, he, ho, hg⟩ := hob _ hpo
    exact h.sep r e p.block p u he ho hg hp rfl
  have hents : ∀ k q, (⟨(dt, .own r s 0 n) :: junkF r st.fr, (r, .row E s n f) :: junkH r st.hp⟩ : St).ent k = some q → (k = r ∧ q = .row E s n f) ∨ (k ≠ r ∧ ∃ q0, st.ent k = some q0 ∧ q = Ent.junkR r q0) := fun k q hq => by
    have hq' : lk k ((r, .row E s n f) :: junkH r st.hp) = some q := hq
    rw [lk_cons] at hq'
    split at hq'
    · rename_i hrk; cases hq'; exact .inl ⟨hrk.symm, rfl⟩
    · rename_i hrk
      unfold junkH at hq'
      rw [lk_map] at hq'
      cases hl : lk k st.hp with
      | none => rw [hl] at hq'; cases hq'
      | some q0 => rw [hl] at hq'; cases hq'; exact .inr ⟨fun e => hrk e.symm, q0, hl, rfl⟩
  have hbnew : ∀ g, b' = some g → (ob = some g ∨ w.heap.size ≤ g) := fun g hg => by
    rcases hb with hb | hb
    · exact .inl (hb ▸ hg)
    · rw [hb] at hg; cases hg; exact .inr (Nat.le_refl _)
  refine ⟨by rw [put_sz]; exact h.size, by rw [put_df]; exact h.defers, ?_, h.m0, h.g0, h.fresh, hpub, fun t => ?_, fun k q hq => ?_, fun k q g hq ho hg => ?_, fun k k' q q' hq hq' ho ho' hkk g hg hg' => ?_, fun k q g p u hq ho hg hp => ?_, fun k hk => (hne k fun e => by rw [e, hkr] at hk; cases hk).trans (h.fix k hk), fun hd => Nat.le_trans (h.drn hd) hdr, h.kn⟩
  · refine ⟨hgr.os.trans h.chg.os, hgr.tape.trans h.chg.tape, hgr.output.trans h.chg.output, Nat.le_trans h.chg.size hgr.size, fun k hk hn => (hcell k (Nat.lt_of_lt_of_le hk h.chg.size) fun hko => ?_).trans (h.chg.block k hk hn)⟩
    obtain ⟨e, he, ho, hg⟩ := hob k hko
    rcases h.own r e k he ho hg with h1 | h1
    · omega
    · exact hn (R.hsub _ _ h1.2)
  · rw [put_get a dt v (by rw [h.size]; exact hdt)]
    have e1 : (⟨(dt, .own r s 0 n) :: junkF r st.fr, (r, .row E s n f) :: junkH r st.hp⟩ : St).get t = if dt = t then .own r s 0 n else AV.junkR r (st.get t) := by
      have := St.get_cons ⟨junkF r st.fr, st.hp⟩ dt (.own r s 0 n) ((r, .row E s n f) :: junkH r st.hp) t
      rw [this, get_junk]
    rw [e1]
    by_cases htt : dt = t
    · rw [if_pos htt, if_pos htt, hv]
      have := DenA.own (ρ := upd ρ r (b', cap')) (M := M) r s 0 n
      rw [upd_same, partOf_zero, Nat.sub_zero] at this
      exact this
    · rw [if_neg htt, if_neg htt]
      exact AV.junkR_den (Mem.le_refl _) hne (h.slots t)
  · rcases hents k q hq with ⟨rfl, rfl⟩ | ⟨hkr, q0, h1, rfl⟩
    · exact hok
    · have h0 := h.ents k q0 h1
      have hblk : ∀ g, q0.owned = true → (ρ k).1 = some g → g < w.heap.size → w'.heap[g]? = w.heap[g]? := fun g ho hg hlt => hcell g hlt fun hgo => by
        obtain ⟨e, he, ho', hg'⟩ := hob g hgo
        exact h.apart k r q0 e h1 he ho ho' hkr g hg hg'
      cases q0 with
      | blk t cs =>
        obtain ⟨g, vs, e1, e3, e4, e5⟩ := h0
        refine ⟨g, vs, by rw [hne k hkr]; exact e1, by rw [hblk g rfl e1 (Array.getElem?_eq_some_iff.1 e3).1]; exact e3, by simpa using e4, fun i c u hi hu => ?_⟩
        rw [List.getElem?_map] at hi
        cases hci : cs[i]? with
        | none => rw [hci] at hi; cases hi
        | some c0 =>
          rw [hci] at hi; cases hi
          exact AV.junkR_den (Mem.le_refl _) hne (e5 i c0 u hci hu)
      | row E' s' n' f' => exact h0.keep (Mem.le_refl _) (hne k hkr) (fun _ hu => by cases hu) hblk
      | pub s' n' f' => exact h0.keep (Mem.le_refl _) (hne k hkr) (fun _ hu => by cases hu) hblk
      | dead => trivial
      | mp P' k' e' L' => exact h0.keep (Mem.le_refl _) (hne k hkr) (fun _ hu => by cases hu) hblk
      | mpx => exact h0.keep (Mem.le_refl _) (hne k hkr) (fun _ hu => by cases hu) hblk
      | it => exact h0.keep (Mem.le_refl _) (hne k hkr) (fun _ hu => by cases hu) hblk
  · rcases hents k q hq with ⟨rfl, rfl⟩ | ⟨hkr, q0, h1, rfl⟩
    · rw [upd_same] at hg
      rcases hbnew g hg with h2 | h2
      · obtain ⟨e, he, ho', hg'⟩ := hob g h2
        exact h.own k e g he ho' hg'
      · have := h.chg.size
        exact .inl (by omega)
    · rw [hne k hkr] at hg
      rw [Ent.junkR_owned] at ho
      exact h.own k q0 g h1 ho hg
  · rcases hents k q hq with ⟨rfl, rfl⟩ | ⟨hkr, q0, h1, rfl⟩
    · rcases hents k' q' hq' with ⟨rfl, rfl⟩ | ⟨hkr', q0', h1', rfl⟩
      · exact hkk rfl
      · rw [upd_same] at hg
        rw [hne k' hkr'] at hg'
        rw [Ent.junkR_owned] at ho'
        rcases hbnew g hg with h2 | h2
        · obtain ⟨e, he, hoe, hge⟩ := hob g h2
          exact h.apart k k' e q0' he h1' hoe ho' hkk g hge hg'
        · have := (h.ents k' q0' h1').lt ho' g hg'
          omega
    · rw [hne k hkr] at hg
      rw [Ent.junkR_owned] at ho
      rcases hents k' q' hq' with ⟨rfl, rfl⟩ | ⟨hkr', q0', h1', rfl⟩
      · rw [upd_same] at hg'
        rcases hbnew g hg' with h2 | h2
        · obtain ⟨e, he, hoe, hge⟩ := hob g h2
          exact h.apart k k' q0 e h1 he ho hoe hkk g hg hge
        · have := (h.ents k q0 h1).lt ho g hg
          omega
      · rw [hne k' hkr'] at hg'
        rw [Ent.junkR_owned] at ho'
        exact h.apart k k' q0 q0' h1 h1' ho ho' hkk g hg hg'
  · rcases hents k q hq with ⟨rfl, rfl⟩ | ⟨hkr, q0, h1, rfl⟩
    · rw [upd_same] at hg
      rcases hbnew g hg with h2 | h2
      · obtain ⟨e, he, hoe, hge⟩ := hob g h2
        exact h.sep k e g p u he hoe hge hp
      · have := cell_lt (h.pub p u hp).1
        omega
    · rw [hne k hkr] at hg
      rw [Ent.junkR_owned] at ho
      exact h.sep k q0 g p u h1 ho hg hp

def srcK (X : Cx) (st : St) (s : Nat) (y : Operand) (K : Nat → (Nat → Nat → D) → Prop) : Prop := match st.ev X y with
  | .dat (.lst s' m g) => match Nat.beq s s' with
    | true => K m g
    | false => False
  | .own r s' lo m => match Nat.beq s s' with
    | true => match rowOf (st.ent r) s with
      | some (N, f) => CndK (lo + m ≤ N) (K m (fun i j => f (lo + i) j))
      | none => False
    | false => False
  | .dat (.val (.slice none 0 0)) => K 0 (fun _ _ => .val undef)
  | _ => False

def Src (M : Mem) (w : World) (s : Nat) (v : Value) (m : Nat) (g : Nat → Nat → D) : Prop :=
  ∃ A c, v = .slice A m c ∧ (A = none → m = 0 ∧ c = 0) ∧ ∃ news : List Value, news.length = m * s ∧ (∀ ad, A = some ad → ∀ (j : Nat) (u : Value), news[j]? = some u → w.cell? (ad.add j) = some u) ∧ (∀ u ∈ news, u.oneCell' = true) ∧ ∀ i, i < m → ∀ j, j < s → ∃ u, news[i * s + j]? = some u ∧ DenD M (g i j) u

theorem src_list {M : Mem} {w : World} {s m : Nat} {g : Nat → Nat → D} {P : Nat → Value → Prop} (h : ∀ i, i < m → ∀ j, j < s → ∃ u, P (i * s + j) u ∧ DenD M (g i j) u ∧ u.oneCell' = true) :
    ∃ news : List Value, news.length = m * s ∧ (∀ (j : Nat) (u : Value), news[j]? = some u → P j u) ∧ (∀ u ∈ news, u.oneCell' = true) ∧ ∀ i, i < m → ∀ j, j < s → ∃ u, news[i * s + j]? = some u ∧ DenD M (g i j) u := by
  have hdm : ∀ k, k < m * s → k / s < m ∧ k % s < s ∧ k / s * s + k % s = k := fun k hk => by
    have hs : 0 < s := Nat.pos_of_ne_zero fun e => by subst e; simp at hk
    exact ⟨Nat.div_lt_of_lt_mul (by rw [Nat.mul_comm]; exact hk), Nat.mod_lt _ hs, Nat.div_add_mod' k s⟩
  have hall : ∀ k, k < m * s → ∃ u, P k u ∧ DenD M (g (k / s) (k % s)) u ∧ u.oneCell' = true := fun k hk => by
    obtain ⟨h1, h2, h3⟩ := hdm k hk
    obtain ⟨u, e1, e2, e3⟩ := h _ h1 _ h2
    exact ⟨u, by rw [h3] at e1; exact e1, e2, e3⟩
  refine ⟨(List.range (m * s)).map fun k => if hk : k < m * s then (hall k hk).choose else undef, by simp, fun j u hu => ?_, fun u hu => ?_, fun i hi j hj => ?_⟩
  · obtain ⟨hj, rfl⟩ := range_map_at hu
    simp only [dif_pos hj]
    exact (hall j hj).choose_spec.1
  · obtain ⟨k, hk, rfl⟩ := List.mem_map.1 hu
    have hk := List.mem_range.1 hk
    simp only [dif_pos hk]
    exact (hall k hk).choose_spec.2.2
  · have hij : i * s + j < m * s := by
      have : (i + 1) * s ≤ m * s := Nat.mul_le_mul_right s hi
      rw [Nat.add_mul, Nat.one_mul] at this
      omega
    refine ⟨(hall _ hij).choose, by simp [hij], ?_⟩
    have := (hall _ hij).choose_spec.2.1
    have hs : 0 < s := by omega
    generalize (hall _ hij).choose = q at this ⊢
    rwa [show (i * s + j) / s = i by rw [Nat.mul_comm, Nat.mul_add_div hs, Nat.div_eq_of_lt hj, Nat.add_zero], show (i * s + j) % s = j by rw [Nat.mul_comm, Nat.mul_add_mod]; exact Nat.mod_eq_of_lt hj] at this

theorem src_den {X : Cx} {R : Run} {ρ : Env} {M : Mem} {st : St} {a : Act} {w : World} (h : Sim X R ρ M st a w) {s : Nat} {y : Operand} {K : Nat → (Nat → Nat → D) → Prop} (hs : srcK X st s y K) : ∃ m g, K m g ∧ Src M w s (a.eval y) m g := by
  unfold srcK at hs
  split at hs
  · rename_i s' m g hy
    split at hs
    · rename_i hb
      obtain rfl := Nat.eq_of_beq_eq_true hb
      obtain ⟨A, cap, u, hv, hn, hc, hA, hm, hd⟩ := lst_of (hy ▸ h.ev y)
      refine ⟨m, g, hs, A, cap, hv, fun e => ⟨by have := hA e; omega, hA e⟩, ?_⟩
      cases A with
      | none =>
        have := hA rfl
        obtain rfl : m = 0 := by omega
        exact ⟨[], by simp, fun ad e => (by cases e), fun u hu => (by cases hu), fun i hi => absurd hi (by omega)⟩
      | some ad =>
        obtain ⟨news, h1, h2, h3, h4⟩ := src_list (w := w) (P := fun k u => w.cell? (ad.add k) = some u) (fun i hi j hj => ⟨u i j, (h.pub _ _ (hm ad rfl i hi j hj)).1, hd i hi j hj, (h.pub _ _ (hm ad rfl i hi j hj)).2⟩)
        exact ⟨news, h1, fun ad' e j u hu => by cases e; exact h2 j u hu, h3, h4⟩
    · exact hs.elim
  · rename_i r s' lo m hy
    split at hs
    · rename_i hb
      obtain rfl := Nat.eq_of_beq_eq_true hb
      split at hs
      · rename_i N f hr
        obtain ⟨hle, hk⟩ := hs
        obtain ⟨hc1, hc2, hc3⟩ := rowOf_cap h hr
        have hv := own_of (hy ▸ h.ev y)
        refine ⟨m, _, hk, partOf (ρ r).1 (ρ r).2 s lo, (ρ r).2 - lo, hv, fun e => ?_, ?_⟩
        · cases hg : (ρ r).1 with
          | none => have := hc3 hg; omega
          | some g =>
            rw [hg] at e
            unfold partOf at e
            split at e
            · cases e
            · simp [addrOf] at e
        · cases hg : (ρ r).1 with
          | none =>
            have := hc3 hg
            obtain rfl : m = 0 := by omega
            exact ⟨[], by simp, fun ad e j u hu => (by simp at hu), fun u hu => (by cases hu), fun i hi => absurd hi (by omega)⟩
          | some g =>
            obtain ⟨news, h1, h2, h3, h4⟩ := src_list (m := m) (w := w) (g := fun i j => f (lo + i) j) (P := fun k u => w.cell? ⟨g, lo * s + k, none⟩ = some u) (fun i hi j hj => by
              obtain ⟨u, e1, e2, e3⟩ := rowOf_cell h hr hg (k := lo + i) (by omega) hj
              refine ⟨u, ?_, e2, e3⟩
              rw [Nat.add_mul, Nat.add_assoc] at e1
              exact e1)
            refine ⟨news, h1, fun ad e j u hu => ?_, h3, h4⟩
            have hlt : j < m * s := by
              have := (List.getElem?_eq_some_iff.1 hu).1
              omega
            have hmpos : 0 < m := Nat.pos_of_ne_zero fun e => by subst e; simp at hlt
            have e2 := partOf_some (ρ := ρ) (s := s) (lo := lo) hg (by omega)
            rw [hg] at e2
            rw [e2] at e
            cases e
            rw [add_off]
            exact h2 j u hu
      · exact hs.elim
    · exact hs.elim
  · rename_i hy
    have hv := val_of (hy ▸ h.ev y)
    exact ⟨0, _, hs, none, 0, hv, fun _ => ⟨rfl, rfl⟩, [], by simp, fun ad e => (by cases e), fun u hu => (by cases hu), fun i hi => absurd hi (by omega)⟩
  · exact hs.elim

def catF (n : Nat) (f g : Nat → Nat → D) : Nat → Nat → D := fun i j => if i < n then f i j else g (i - n) j

def exAppend (X : Cx) (n : Nat) (st : St) (d : Option Nat) (t : TypeId) (x y : Operand) (K : St → Prop) : Prop := match d with
  | none => False
  | some dt => match Nat.ble (dt + 1) n with
    | false => False
    | true => match lk t X.T with
      | some ⟨.slice E es eb ez, _, _⟩ => match Nat.beq ez.cells.size es with
        | false => False
        | true => match Nat.ble 1 es with
          | false => False
          | true => match st.ev X x with
            | .own r s 0 k => match Nat.beq es s with
              | false => False
              | true => match st.ent r with
                | some (.row E' s' N f) => match Nat.beq E E' with
                  | false => False
                  | true => match Nat.beq es s' with
                    | false => False
                    | true => match kp r with
                      | true => False
                      | false => srcK X st es y fun m g => CndK (k = N ∧ (N + m) * eb ≤ 140737488355328 ∧ N + m ≤ 4611686018427387904) (st.un fun fr hp => K ⟨(dt, .own r s 0 (N + m)) :: junkF r fr, (r, .row E s (N + m) (catF N f g)) :: junkH r hp⟩)
                | _ => False
            | .dat (.val (.slice none 0 0)) => srcK X st es y fun m g => CndK (m * eb ≤ 140737488355328 ∧ m ≤ 4611686018427387904) (st.un fun fr hp => K ⟨(dt, .own dt es 0 m) :: junkF dt fr, (dt, .row E es m g) :: junkH dt hp⟩)
            | _ => False
      | _ => False

theorem ownsRow_form {w : World} {B : Nat} {E : TypeId} {s : Nat} {v : Value} {n : Nat} {xs : List Value} (h : w.ownsRow B E s v n xs) : ∃ b cap, v = .slice (addrOf b) n cap ∧ v.ownBlock = b := by
  rcases h.2 with ⟨rfl, rfl⟩ | ⟨g, cap, cur, rfl, _⟩
  · exact ⟨none, 0, rfl, rfl⟩
  · exact ⟨some g, cap, rfl, rfl⟩

theorem run_append {P : Program} {w : World} {E : TypeId} {t ty : TypeId} {es eb : Nat} {ez : Value} {M : Mem} (hu : P.underlying t = some (.slice E)) {ie : TypeInfo} (hie : P.info? E = some ie) (hsz : ie.size = es) (hby : ie.bytes = eb) (hz : ie.zero = some ez) (hzs : ez.cells.size = es) (hes : 1 ≤ es)
    {b : Option Nat} {cap N : Nat} {xs : List Value} (hown : w.ownsRow 0 E es (.slice (addrOf b) N cap) N xs) {f : Nat → Nat → D} (hf : ∀ i, i < N → ∀ j, j < es → ∃ u, xs[i * es + j]? = some u ∧ DenD M (f i j) u ∧ u.oneCell' = true)
    {y : Value} {m : Nat} {g : Nat → Nat → D} (hs : Src M w es y m g) (hb1 : (N + m) * eb ≤ 140737488355328) (hb2 : N + m ≤ 4611686018427387904) :
    ∃ b' cap' w' ys, (Builtin.append_ #[t, t] ty #[.slice (addrOf b) N cap, y]).run P w = .ok (.slice (addrOf b') (N + m) cap') w' ∧ w.grownBy w' b ∧ (b' = b ∨ b' = some w.heap.size) ∧
      w'.ownsRow 0 E es (.slice (addrOf b') (N + m) cap') (N + m) ys ∧ ∀ i, i < N + m → ∀ j, j < es → ∃ u, ys[i * es + j]? = some u ∧ DenD M (catF N f g i j) u ∧ u.oneCell' = true := by
  obtain ⟨A, c, rfl, hA, news, hl, hc, h1, hg⟩ := hs
  have hbo : (Value.slice (addrOf b) N cap).ownBlock = b := by cases b <;> rfl
  cases A with
  | none =>
    obtain ⟨rfl, rfl⟩ := hA rfl
    refine ⟨b, cap, w, xs, ?_, ⟨rfl, rfl, rfl, Nat.le_refl _, fun _ _ _ => rfl⟩, .inl rfl, hown, fun i hi j hj => ?_⟩
    · exact run_append_owned_none (P := P) w 0 t ty E ie es hu hie _ N xs hown
    · unfold catF
      rw [if_pos (by omega)]
      exact hf i (by omega) j hj
  | some ad =>
    obtain ⟨v', w', hr, ho, hgr, _, hbl⟩ := run_append_own_at (P := P) w 0 t ty E ie ez es eb hu hie hz hsz hby hzs hes _ N xs hown ad m c news hl (hc ad rfl) h1 (by unfold maxLen; omega) hb1 (Nat.zero_le _)
    obtain ⟨b', cap', rfl, hb'⟩ := ownsRow_form ho
    rw [hbo] at hgr hbl
    rw [hb'] at hbl
    refine ⟨b', cap', w', xs ++ news, hr, hgr, hbl, ho, fun i hi j hj => ?_⟩
    have hxl : xs.length = N * es := hown.1
    unfold catF
    by_cases hiN : i < N
    · rw [if_pos hiN]
      obtain ⟨u, e1, e2, e3⟩ := hf i hiN j hj
      refine ⟨u, ?_, e2, e3⟩
      rw [List.getElem?_append_left (by have := (List.getElem?_eq_some_iff.1 e1).1; exact this)]
      exact e1
    · rw [if_neg hiN]
      obtain ⟨u, e1, e2⟩ := hg (i - N) (by omega) j hj
      refine ⟨u, ?_, e2, h1 u (List.mem_of_getElem? e1)⟩
      have hle : N * es ≤ i * es := Nat.mul_le_mul_right es (by omega)
      rw [List.getElem?_append_right (by omega), hxl, show i * es + j - N * es = (i - N) * es + j by rw [Nat.sub_mul]; omega]
      exact e1

section
variable {X : Cx} {st : St} {o : Oper}

theorem append_two {P : Program} {t t' E E' : TypeId} (hu : P.underlying t = some (.slice E)) (hu' : P.underlying t' = some (.slice E')) (ty : TypeId) (as : Array Value) (w : World) : (Builtin.append_ #[t, t'] ty as).run P w = (Builtin.append_ #[t, t] ty as).run P w := by
  unfold Builtin.append_
  cases h0 : as[0]? <;> cases h1 : as[1]? <;> simp [Sem.run_bind, run_underlying hu, run_underlying hu']
  rename_i v x
  cases v <;> simp [Sem.run_bind, run_underlying hu, run_underlying hu']
theorem s_append (hX : X.ok) {n : Nat} {t t' : TypeId} {x y : Operand} (ho : o.op = .call { callee := .builtin .append, args := #[x, y], argTypes := #[t, t'] }) (hap : ∀ E, X.P.underlying t = some (.slice E) → ∀ (ty : TypeId) (as : Array Value) (w : World), (Builtin.append_ #[t, t'] ty as).run X.P w = (Builtin.append_ #[t, t] ty as).run X.P w) {K : St → Prop} (hk : exAppend X n st o.dst t x y K) : OpOk X n st o K := by
  unfold exAppend at hk
  split at hk
  · exact hk.elim
  rename_i dt hd
  split at hk
  · exact hk.elim
  rename_i hdt
  have hdt := Nat.le_of_ble_eq_true hdt
  split at hk
  · rename_i E es eb ez sz z hti
    obtain ⟨_, _, hu, ie, hie, hsz, hby, hz⟩ := hX t _ hti
    split at hk
    · exact hk.elim
    rename_i hzs
    have hzs := Nat.eq_of_beq_eq_true hzs
    split at hk
    · exact hk.elim
    rename_i hes
    have hes := Nat.le_of_ble_eq_true hes
    split at hk
    · rename_i r s k hx
      split at hk
      · exact hk.elim
      rename_i hss
      obtain rfl := Nat.eq_of_beq_eq_true hss
      split at hk
      · rename_i E' s' N f he
        split at hk
        · exact hk.elim
        rename_i hE
        obtain rfl := Nat.eq_of_beq_eq_true hE
        split at hk
        · exact hk.elim
        rename_i hs'
        obtain rfl := Nat.eq_of_beq_eq_true hs'
        split at hk
        · exact hk.elim
        rename_i hkp
        intro R hn ρ M a w h K' Q hK'
        obtain ⟨m, g, ⟨⟨rfl, hb1, hb2⟩, hK⟩, hsrc⟩ := src_den h hk
        have hv := own_of (hx ▸ h.ev x)
        rw [partOf_zero, Nat.sub_zero] at hv
        obtain ⟨xs, hown, hf⟩ := h.ents r _ he
        obtain ⟨b', cap', w', ys, hrun, hgr, hbb, how, hys⟩ := run_append (ty := o.type) hu hie hsz hby hz hzs hes hown hf hsrc hb1 hb2
        have hsim := h.regrow (r := r) (dt := dt) (ob := (ρ r).1) (b' := b') (cap' := cap') (E := E) (s := es) (n := k + m) (f := catF k f g) (fun b hb => ⟨_, he, rfl, hb⟩) hgr hbb ⟨ys, by rw [upd_same]; exact how, hys⟩ rfl (by omega) hkp (run_drawn hrun)
        refine wp_val (v := .slice (addrOf b') (k + m) cap') (w' := w') ?_ (by rw [hd]; exact hK' _ _ _ _ _ hK hsim)
        unfold execOp
        simp only [ho, resolve, invoke, builtin, Sem.run_bind, Sem.run_pure, Result.andThen_ok, List.map_toArray, List.map_cons, List.map_nil, hv, hap _ hu, hrun]
      · exact hk.elim
    · rename_i hx
      intro R hn ρ M a w h K' Q hK'
      obtain ⟨m, g, ⟨⟨hb1, hb2⟩, hK⟩, hsrc⟩ := src_den h hk
      have hv := val_of (hx ▸ h.ev x)
      obtain ⟨b', cap', w', ys, hrun, hgr, hbb, how, hys⟩ := run_append (ty := o.type) (b := none) (cap := 0) (f := fun _ _ => .val undef) hu hie hsz hby hz hzs hes (World.ownsRow_nil w 0 E es) (fun i hi => absurd hi (by omega)) hsrc (by rw [Nat.zero_add]; exact hb1) (by omega)
      rw [Nat.zero_add] at how hys hrun
      have hsim := h.regrow (r := dt) (dt := dt) (ob := none) (b' := b') (cap' := cap') (E := E) (s := es) (n := m) (f := g) (fun b hb => by cases hb) hgr hbb ⟨ys, by rw [upd_same]; exact how, fun i hi j hj => by
        obtain ⟨u, e1, e2, e3⟩ := hys i hi j hj
        exact ⟨u, e1, by simpa [catF] using e2, e3⟩⟩ rfl (by omega) (kp_small (by have := R.n5; omega)) (run_drawn hrun)
      refine wp_val (v := .slice (addrOf b') m cap') (w' := w') ?_ (by rw [hd]; exact hK' _ _ _ _ _ hK hsim)
      have hrun' : (Builtin.append_ #[t, t] o.type #[.slice none 0 0, a.eval y]).run X.P w = .ok (.slice (addrOf b') m cap') w' := hrun
      unfold execOp
      simp only [ho, resolve, invoke, builtin, Sem.run_bind, Sem.run_pure, Result.andThen_ok, List.map_toArray, List.map_cons, List.map_nil, hv, hap _ hu, hrun']
    · exact hk.elim
  · exact hk.elim

end
end Go.Proofs.Ytoeghejbgibioaa

namespace Go.Proofs.Ytoeghejbgibioaa
open Go Go.RowKit
set_option linter.unusedVariables false
set_option linter.unusedSimpArgs false
set_option linter.unnecessarySimpa false

def DenP (M : Mem) (c : AV) (v : Value) : Prop := ∀ ρ, DenA ρ M c v

def FnOk (P : Program) (f : FuncId) : Prop := ∃ fn, P.funcs[f]? = some fn ∧ fn.body.isNone = false ∧ (fn.name == "runtime.NumGoroutine") = false

structure ACalls (X : Cx) (f : FuncId) (args : List AV) (r : AV) : Prop where
  fn : FnOk X.P f
  out : ∀ (M : Mem) (w : World) (vs : List Value), X.glob M → PubOk M w → args.length = vs.length → (∀ (i : Nat) (c : AV) (v : Value), args[i]? = some c → vs[i]? = some v → DenP M c v) →
    Calls X.P f vs.toArray w fun e w' => ∃ v M', e = .returned v ∧ DenP M' r v ∧ Mem.le M M' ∧ (∀ p u, M' p = some u → M p = some u ∨ w.heap.size ≤ p.block) ∧ PubOk M' w' ∧ Below w.heap.size w w' ∧ (X.dr = true → w.drawn ≤ w'.drawn)

theorem ACalls.at {X : Cx} {l : List Nat} {f : FuncId} {args : List AV} {r : AV} (h : ACalls X f args r) : ACalls { X with pb := l } f args r := ⟨h.fn, h.out⟩
def allM (w : World) : Mem := fun p => match w.cell? p with
  | some v => match v.oneCell' with
    | true => some v
    | false => none
  | none => none
theorem allM_ok (w : World) : PubOk (allM w) w := fun p v hp => by
  unfold allM at hp
  cases hc : w.cell? p with
  | none => rw [hc] at hp; cases hp
  | some u =>
    rw [hc] at hp
    simp only at hp
    cases ho : u.oneCell' with
    | false => rw [ho] at hp; cases hp
    | true => rw [ho] at hp; cases hp; exact ⟨rfl, ho⟩
theorem allM_le {M : Mem} {w : World} (h : PubOk M w) : Mem.le M (allM w) := fun p v hp => by
  obtain ⟨h1, h2⟩ := h p v hp
  unfold allM
  rw [h1]
  simp only [h2]
theorem allM_of {w : World} {p : Addr} {v : Value} (h : w.cell? p = some v) (ho : v.oneCell' = true) : allM w p = some v := by
  unfold allM
  rw [h]
  simp only [ho]

def AV.plain : AV → Bool
  | .tt => true
  | .ff => true
  | .dat (.val _) => true
  | .agg cs => plainL cs
  | .tup cs => plainL cs
  | _ => false
where plainL : List AV → Bool
  | [] => true
  | c :: l => match AV.plain c with
    | true => plainL l
    | false => false
theorem AV.plainL_at : ∀ {l : List AV}, AV.plain.plainL l = true → ∀ (i : Nat) (c : AV), l[i]? = some c → c.plain = true
  | [], _, i, c, h => by simp at h
  | x :: l, h, i, c, hi => by
    simp only [AV.plain.plainL] at h
    split at h
    · rename_i hx
      cases i with
      | zero => simp at hi; subst hi; exact hx
      | succ i => exact AV.plainL_at h i c (by simpa using hi)
    · cases h
theorem AV.plain_den {ρ ρ' : Env} {M M' : Mem} {c : AV} {v : Value} (h : DenA ρ M c v) (hc : c.plain = true) : DenA ρ' M' c v := by
  induction h with
  | junk v => exact .junk v
  | tt => exact .tt
  | ff => exact .ff
  | @dat d v h =>
    cases d with
    | val x => cases h; exact .dat (.val _)
    | lst => cases hc
  | ptr => cases hc
  | ro => cases hc
  | own => cases hc
  | rptr => cases hc
  | mp => cases hc
  | agg cs vs hl h ih => exact .agg cs vs hl fun i c v h1 h2 => ih i c v h1 h2 (AV.plainL_at hc i c h1)
  | tup cs vs hl h ih => exact .tup cs vs hl fun i c v h1 h2 => ih i c v h1 h2 (AV.plainL_at hc i c h1)
  | clo => cases hc

def AV.pure : AV → Bool
  | .tt => true
  | .ff => true
  | .dat _ => true
  | .ro .. => true
  | .agg cs => pureL cs
  | .tup cs => pureL cs
  | .clo _ cs => pureL cs
  | _ => false
where pureL : List AV → Bool
  | [] => true
  | c :: l => match AV.pure c with
    | true => pureL l
    | false => false
theorem AV.pureL_at : ∀ {l : List AV}, AV.pure.pureL l = true → ∀ (i : Nat) (c : AV), l[i]? = some c → c.pure = true
  | [], _, i, c, h => by simp at h
  | x :: l, h, i, c, hi => by
    simp only [AV.pure.pureL] at h
    split at h
    · rename_i hx
      cases i with
      | zero => simp at hi; subst hi; exact hx
      | succ i => exact AV.pureL_at h i c (by simpa using hi)
    · cases h
theorem AV.pure_den {ρ : Env} {M : Mem} {c : AV} {v : Value} (h : DenA ρ M c v) (hc : c.pure = true) : DenP M c v := by
  induction h with
  | junk v => cases hc
  | tt => exact fun _ => .tt
  | ff => exact fun _ => .ff
  | dat h => exact fun _ => .dat h
  | ptr => cases hc
  | ro n c ad u hm hd => exact fun _ => .ro n c ad u hm hd
  | own => cases hc
  | rptr => cases hc
  | mp => cases hc
  | agg cs vs hl h ih => exact fun ρ' => .agg cs vs hl fun i c v h1 h2 => ih i c v h1 h2 (AV.pureL_at hc i c h1) ρ'
  | tup cs vs hl h ih => exact fun ρ' => .tup cs vs hl fun i c v h1 h2 => ih i c v h1 h2 (AV.pureL_at hc i c h1) ρ'
  | clo f cs vs hl h ih => exact fun ρ' => .clo f cs vs hl fun i c v h1 h2 => ih i c v h1 h2 (AV.pureL_at hc i c h1) ρ'

def ArgLe (X : Cx) (st : St) (c d : AV) : Prop := ∀ R ρ M a w v, Sim X R ρ M st a w → DenA ρ M c v → DenP (allM w) d v
def ArgsLe (X : Cx) (st : St) : List AV → List AV → Prop
  | [], [] => True
  | c :: l, d :: r => ArgLe X st c d ∧ ArgsLe X st l r
  | _, _ => False
theorem ArgsLe_at {X : Cx} {st : St} : ∀ {cs ds : List AV}, ArgsLe X st cs ds → ds.length = cs.length ∧ ∀ (i : Nat) (d : AV), ds[i]? = some d → ∃ c, cs[i]? = some c ∧ ArgLe X st c d
  | [], [], _ => ⟨rfl, fun i d h => by simp at h⟩
  | c :: l, d :: r, h => by
    obtain ⟨h1, h2⟩ := ArgsLe_at h.2
    refine ⟨by simp [h1], fun i d' hi => ?_⟩
    cases i with
    | zero => simp at hi; subst hi; exact ⟨c, rfl, h.1⟩
    | succ i => obtain ⟨c', e1, e2⟩ := h2 i d' (by simpa using hi); exact ⟨c', by simpa using e1, e2⟩
  | [], _ :: _, h => h.elim
  | _ :: _, [], h => h.elim

def AVle (c d : AV) : Prop := ∀ ρ M v, DenA ρ M c v → DenA ρ M d v
theorem AVle.refl (c : AV) : AVle c c := fun _ _ _ h => h
theorem AVle.of_eq {c d : AV} (h : c = d) : AVle c d := h ▸ AVle.refl c
theorem AVle.trans {c d e : AV} (h : AVle c d) (k : AVle d e) : AVle c e := fun ρ M v hv => k ρ M v (h ρ M v hv)
theorem AVle.junk (c : AV) : AVle c .junk := fun _ _ _ _ => .junk _
theorem AVle.int {k : IntKind} {a b : Int} (h : a = b) : AVle (.dat (.val (.int k a))) (.dat (.val (.int k b))) := .of_eq (by rw [h])
theorem AVle.bool {a b : Bool} (h : a = b) : AVle (bv a) (bv b) := .of_eq (by rw [h])
theorem AVle.tt_ {b : Bool} (h : b = true) : AVle .tt (bv b) := fun ρ M v hv => by subst h; cases hv; exact .dat (.val _)
theorem AVle.ff_ {b : Bool} (h : b = false) : AVle .ff (bv b) := fun ρ M v hv => by subst h; cases hv; exact .dat (.val _)
theorem AVle.of_tt {b : Bool} (h : b = true) : AVle (bv b) .tt := fun ρ M v hv => by subst h; obtain rfl := val_of hv; exact .tt
theorem AVle.of_ff {b : Bool} (h : b = false) : AVle (bv b) .ff := fun ρ M v hv => by subst h; obtain rfl := val_of hv; exact .ff
def Dle (c d : D) : Prop := ∀ M v, DenD M c v → DenD M d v
theorem Dle.refl (c : D) : Dle c c := fun _ _ h => h
theorem Dle.of_eq {c d : D} (h : c = d) : Dle c d := h ▸ Dle.refl c
theorem Dle.lst {s n m : Nat} {f g : Nat → Nat → D} (hn : n = m) (h : ∀ i, i < n → ∀ j, j < s → Dle (f i j) (g i j)) : Dle (.lst s n f) (.lst s m g) := fun M v hv => by
  subst hn
  cases hv with
  | lst _ _ _ A cap u hn hc hA hm hd => exact .lst s n g A cap u hn hc hA hm fun i hi j hj => h i hi j hj M _ (hd i hi j hj)
theorem Dle.nil (s : Nat) (f : Nat → Nat → D) : Dle (.val (.slice none 0 0)) (.lst s 0 f) := fun M v hv => by
  cases hv
  exact .lst s 0 f none 0 (fun _ _ => undef) (Nat.le_refl _) (Nat.zero_le _) (fun _ => rfl) (fun ad e => by cases e) (fun i hi => absurd hi (by omega))
theorem AVle.dat {c d : D} (h : Dle c d) : AVle (.dat c) (.dat d) := fun ρ M v hv => by
  cases hv with
  | dat hv => exact .dat (h M v hv)
def AVsLe : List AV → List AV → Prop
  | [], [] => True
  | c :: l, d :: r => AVle c d ∧ AVsLe l r
  | _, _ => False
theorem AVsLe_at : ∀ {cs ds : List AV}, AVsLe cs ds → ds.length = cs.length ∧ ∀ (i : Nat) (d : AV), ds[i]? = some d → ∃ c, cs[i]? = some c ∧ AVle c d
  | [], [], _ => ⟨rfl, fun i d h => by simp at h⟩
  | c :: l, d :: r, h => by
    obtain ⟨h1, h2⟩ := AVsLe_at h.2
    refine ⟨by simp [h1], fun i d' hi => ?_⟩
    cases i with
    | zero => simp at hi; subst hi; exact ⟨c, rfl, h.1⟩
    | succ i => obtain ⟨c', e1, e2⟩ := h2 i d' (by simpa using hi); exact ⟨c', by simpa using e1, e2⟩
  | [], _ :: _, h => h.elim
  | _ :: _, [], h => h.elim
theorem AVle.agg {cs ds : List AV} (h : AVsLe cs ds) : AVle (.agg cs) (.agg ds) := fun ρ M v hv => by
  obtain ⟨vs, rfl, hl, hd⟩ := agg_of hv
  obtain ⟨h1, h2⟩ := AVsLe_at h
  exact .agg ds vs (by omega) fun i c v e1 e2 => by
    obtain ⟨c', e3, e4⟩ := h2 i c e1
    exact e4 _ _ _ (hd i c' v e3 e2)
theorem AVle.tup {cs ds : List AV} (h : AVsLe cs ds) : AVle (.tup cs) (.tup ds) := fun ρ M v hv => by
  obtain ⟨vs, rfl, hl, hd⟩ := tup_of hv
  obtain ⟨h1, h2⟩ := AVsLe_at h
  exact .tup ds vs (by omega) fun i c v e1 e2 => by
    obtain ⟨c', e3, e4⟩ := h2 i c e1
    exact e4 _ _ _ (hd i c' v e3 e2)

theorem DenA.all {X : Cx} {R : Run} {ρ : Env} {M : Mem} {st : St} {a : Act} {w : World} {c : AV} {v : Value} (hs : Sim X R ρ M st a w) (h : DenA ρ M c v) : DenA ρ (allM w) c v := h.keep (allM_le hs.pub) fun _ _ => rfl
theorem ArgLe.pure {X : Cx} {st : St} {c d : AV} (h : AVle c d) (hd : d.pure = true) : ArgLe X st c d := fun R ρ M a w v hs hc => AV.pure_den (h _ _ _ (hc.all hs)) hd
theorem ArgLe.refl {X : Cx} {st : St} {c : AV} (hd : c.pure = true) : ArgLe X st c c := ArgLe.pure (AVle.refl c) hd
theorem ArgLe.own {X : Cx} {st : St} {r s lo n N : Nat} {f g : Nat → Nat → D} (hr : rowOf (st.ent r) s = some (N, f)) (hle : lo + n ≤ N) (hfg : ∀ i, i < n → ∀ j, j < s → Dle (f (lo + i) j) (g i j)) : ArgLe X st (.own r s lo n) (.dat (.lst s n g)) := by
  intro R ρ M a w v hs hc ρ'
  obtain rfl := own_of hc
  obtain ⟨hc1, hc2, hc3⟩ := rowOf_cap hs hr
  have hch : ∃ u : Nat → Nat → Value, ∀ i, i < n → ∀ j, j < s → ∀ gg, (ρ r).1 = some gg → w.cell? ⟨gg, (lo + i) * s + j, none⟩ = some (u i j) ∧ DenD M (f (lo + i) j) (u i j) ∧ (u i j).oneCell' = true := by
    cases hg : (ρ r).1 with
    | none => exact ⟨fun _ _ => undef, fun i hi => by have := hc3 hg; omega⟩
    | some gg =>
      refine ⟨fun i j => if hh : i < n ∧ j < s then (rowOf_cell hs hr hg (k := lo + i) (by omega) hh.2).choose else undef, fun i hi j hj g' hg' => ?_⟩
      cases hg'
      have hh : i < n ∧ j < s := ⟨hi, hj⟩
      simp only [dif_pos hh]
      exact (rowOf_cell hs hr hg (k := lo + i) (by omega) hh.2).choose_spec
  obtain ⟨u, hu⟩ := hch
  refine .dat (.lst s n g _ _ u (by omega) (by omega) (fun e => ?_) (fun ad e i hi j hj => ?_) (fun i hi j hj => ?_))
  · cases hg : (ρ r).1 with
    | none => have := hc3 hg; omega
    | some gg =>
      rw [hg] at e
      unfold partOf at e
      split at e
      · omega
      · simp [addrOf] at e
  · cases hg : (ρ r).1 with
    | none => have := hc3 hg; omega
    | some gg =>
      rw [partOf_some hg (by omega)] at e
      cases e
      obtain ⟨h1, _, h3⟩ := hu i hi j hj gg hg
      rw [add_off]
      rw [Nat.add_mul, Nat.add_assoc] at h1
      exact allM_of h1 h3
  · cases hg : (ρ r).1 with
    | none => have := hc3 hg; omega
    | some gg =>
      obtain ⟨_, h2, _⟩ := hu i hi j hj gg hg
      exact hfg i hi j hj _ _ (h2.mono (allM_le hs.pub))
theorem ArgLe.agg {X : Cx} {st : St} {cs ds : List AV} (h : ArgsLe X st cs ds) : ArgLe X st (.agg cs) (.agg ds) := fun R ρ M a w v hs hc ρ' => by
  obtain ⟨vs, rfl, hl, hd⟩ := agg_of hc
  obtain ⟨h1, h2⟩ := ArgsLe_at h
  exact .agg ds vs (by omega) fun i c v e1 e2 => by
    obtain ⟨c', e3, e4⟩ := h2 i c e1
    exact e4 R ρ M a w v hs (hd i c' v e3 e2) ρ'

section
variable {X : Cx} {st : St} {o : Oper}

theorem run_call {P : Program} {f : FuncId} {cl : Operand} {args : Array Operand} {ts : Array TypeId} (ho : o.op = .call { callee := .value cl, args := args, argTypes := ts }) (hf : FnOk P f) (a : Act) (hcl : a.eval cl = .func (.func f) #[] #[]) (w : World) :
    (execOp a.eval o).run P w = .ok (.enter f (args.map a.eval)) w := by
  obtain ⟨fn, h1, h2, h3⟩ := hf
  have h2' : fn.body ≠ none := fun e => by rw [e] at h2; cases h2
  have h3' : fn.name ≠ "runtime.NumGoroutine" := by simpa using h3
  unfold execOp
  simp [ho, hcl, resolve, Deferred.ofValue, invoke, callFunc, h1, h2', h3']

theorem args_den {R : Run} {ρ : Env} {M : Mem} {a : Act} {w : World} (h : Sim X R ρ M st a w) (args : Array Operand) (i : Nat) (c : AV) (hc : (args.toList.map (st.ev X))[i]? = some c) : ∃ v, (args.map a.eval).toList[i]? = some v ∧ DenA ρ M c v := by
  rw [List.getElem?_map] at hc
  cases hq : args.toList[i]? with
  | none => rw [hq] at hc; cases hc
  | some x =>
    rw [hq] at hc; cases hc
    exact ⟨a.eval x, by simp [hq], h.ev x⟩

structure CallOp (X : Cx) (st : St) (o : Oper) (f : FuncId) (cs : List AV) : Prop where
  run : ∀ ρ M (a : Act) (w : World), (∀ x : Operand, DenA ρ M (st.ev X x) (a.eval x)) → FnOk X.P f → ∃ vs : List Value, (execOp a.eval o).run X.P w = .ok (.enter f vs.toArray) w ∧ vs.length = cs.length ∧ ∀ (i : Nat) (c : AV), cs[i]? = some c → ∃ v, vs[i]? = some v ∧ DenA ρ M c v
theorem CallOp.of {f : FuncId} {cl : Operand} {args : Array Operand} {ts : Array TypeId} (ho : o.op = .call { callee := .value cl, args := args, argTypes := ts }) (hcl : st.ev X cl = .dat (.val (.func (.func f) #[] #[]))) : CallOp X st o f (args.toList.map (st.ev X)) := ⟨fun ρ M a w he hf => by
  refine ⟨(args.map a.eval).toList, ?_, by simp, fun i c hc => ?_⟩
  · rw [Array.toArray_toList]
    exact run_call ho hf a (val_of (hcl ▸ he cl)) w
  · rw [List.getElem?_map] at hc
    cases hq : args.toList[i]? with
    | none => rw [hq] at hc; cases hc
    | some x => rw [hq] at hc; cases hc; exact ⟨a.eval x, by simp [hq], he x⟩⟩
theorem CallOp.clo {f : FuncId} {ds : List AV} {cl : Operand} {args : Array Operand} {ts : Array TypeId} (ho : o.op = .call { callee := .value cl, args := args, argTypes := ts }) (hcl : st.ev X cl = .clo f ds) : CallOp X st o f (args.toList.map (st.ev X) ++ ds) := ⟨fun ρ M a w he hf => by
  have hd := hcl ▸ he cl
  generalize hv : a.eval cl = v at hd
  cases hd with
  | clo _ _ us hl hh =>
    obtain ⟨fn, h1, h2, h3⟩ := hf
    have h2' : fn.body ≠ none := fun e => by rw [e] at h2; cases h2
    have h3' : fn.name ≠ "runtime.NumGoroutine" := by simpa using h3
    refine ⟨(args.map a.eval).toList ++ us, ?_, by simp [hl], fun i c hc => ?_⟩
    · unfold execOp
      simp [ho, hv, resolve, Deferred.ofValue, invoke, callFunc, h1, h2', h3']
    · rw [List.getElem?_append] at hc
      split at hc
      · rename_i hlt
        rw [List.getElem?_map] at hc
        cases hq : args.toList[i]? with
        | none => rw [hq] at hc; cases hc
        | some x =>
          rw [hq] at hc; cases hc
          have hlt2 : i < args.size := by simpa using hlt
          exact ⟨a.eval x, by rw [List.getElem?_append_left (by simpa using hlt2)]; simp [hq], he x⟩
      · rename_i hlt
        have hlt2 : args.size ≤ i := by simpa using hlt
        have hlen : i - (args.toList.map (st.ev X)).length < us.length := by
          have := (List.getElem?_eq_some_iff.1 hc).1
          omega
        refine ⟨us[i - (args.toList.map (st.ev X)).length], ?_, hh _ c _ hc (List.getElem?_eq_getElem hlen)⟩
        rw [List.getElem?_append_right (by simpa using hlt2)]
        simp⟩

structure CallA (X : Cx) (st : St) (f : FuncId) (cs : List AV) (r : AV) : Prop where
  out : ∀ (o : Oper), CallOp X st o f cs → Astep X st o r none

theorem CallA.plain {f : FuncId} {cs ds : List AV} {r : AV} (hc : ACalls X f ds r) (ha : ArgsLe X st cs ds) (hr : r.plain = true) : CallA X st f cs r := by
  constructor
  intro o hop R ρ M a w h K Q hk
  obtain ⟨vs, hrun, hvl, hvd⟩ := hop.run ρ M a w h.ev hc.fn
  obtain ⟨hl, hat⟩ := ArgsLe_at ha
  have hlen : ds.length = vs.length := by omega
  have hC := hc.out (allM w) w vs (Cx.glob_mono (Mem.le_trans h.m0 (allM_le h.pub)) h.g0) (allM_ok w) hlen (fun i d v h1 h2 => by
    obtain ⟨c, e1, e2⟩ := hat i d h1
    obtain ⟨v', e3, e4⟩ := hvd i c e1
    rw [h2] at e3; cases e3
    exact e2 R ρ M a w v h e4)
  unfold Oper.wp
  rw [hrun, Oper.upon_enter]
  refine hC.mono fun e w' ⟨v, M', he, hd, hle, hfr, hp, hb, hdr⟩ => ?_
  subst he
  refine hk v ρ M w' ⟨fun _ _ => rfl, Mem.le_refl _, fun p u hp => .inl hp, fun p u hp => ?_, hb, AV.plain_den (hd ρ) hr, fun e he => (by cases he), hdr⟩
  obtain ⟨h1, h2⟩ := h.pub p u hp
  exact ⟨(hb.cell (cell_lt h1)).trans h1, h2⟩

def ArgP (c d : AV) : Prop := ∀ ρ M v, DenA ρ M c v → DenP M d v
theorem ArgP.of {c d : AV} (h : AVle c d) (hd : d.pure = true) : ArgP c d := fun ρ M v hc => AV.pure_den (h ρ M v hc) hd
def ArgsP : List AV → List AV → Prop
  | [], [] => True
  | c :: l, d :: r => ArgP c d ∧ ArgsP l r
  | _, _ => False
theorem ArgsP_at : ∀ {cs ds : List AV}, ArgsP cs ds → ds.length = cs.length ∧ ∀ (i : Nat) (d : AV), ds[i]? = some d → ∃ c, cs[i]? = some c ∧ ArgP c d
  | [], [], _ => ⟨rfl, fun i d h => by simp at h⟩
  | c :: l, d :: r, h => by
    obtain ⟨h1, h2⟩ := ArgsP_at h.2
    refine ⟨by simp [h1], fun i d' hi => ?_⟩
    cases i with
    | zero => simp at hi; subst hi; exact ⟨c, rfl, h.1⟩
    | succ i => obtain ⟨c', e1, e2⟩ := h2 i d' (by simpa using hi); exact ⟨c', by simpa using e1, e2⟩
  | [], _ :: _, h => h.elim
  | _ :: _, [], h => h.elim

theorem CallA.data {f : FuncId} {cs ds : List AV} {r : AV} (hc : ACalls X f ds r) (ha : ArgsP cs ds) : CallA X st f cs r := by
  constructor
  intro o hop R ρ M a w h K Q hk
  obtain ⟨vs, hrun, hvl, hvd⟩ := hop.run ρ M a w h.ev hc.fn
  obtain ⟨hl, hat⟩ := ArgsP_at ha
  have hlen : ds.length = vs.length := by omega
  have hC := hc.out M w vs (Cx.glob_mono h.m0 h.g0) h.pub hlen (fun i d v h1 h2 => by
    obtain ⟨c, e1, e2⟩ := hat i d h1
    obtain ⟨v', e3, e4⟩ := hvd i c e1
    rw [h2] at e3; cases e3
    exact e2 ρ M v e4)
  unfold Oper.wp
  rw [hrun, Oper.upon_enter]
  refine hC.mono fun e w' ⟨v, M', he, hd, hle, hfr, hp, hb, hdr⟩ => ?_
  subst he
  exact hk v ρ M' w' ⟨fun _ _ => rfl, hle, hfr, hp, hb, hd ρ, fun e he => (by cases he), hdr⟩

end
end Go.Proofs.Ytoeghejbgibioaa

namespace Go.Proofs.Ytoeghejbgibioaa
open Go Go.RowKit
set_option linter.unusedVariables false
set_option linter.unusedSimpArgs false
set_option linter.unnecessarySimpa false

def force (c : AV) (K : AV → Prop) : Prop := match c with
  | .junk => K .junk
  | .tt => K .tt
  | .ff => K .ff
  | .dat (.val v) => K (.dat (.val v))
  | .dat (.lst s n f) => K (.dat (.lst s n f))
  | .ptr r o => K (.ptr r o)
  | .ro n c => K (.ro n c)
  | .own r s l n => K (.own r s l n)
  | .rptr r s k j => K (.rptr r s k j)
  | .mp r => K (.mp r)
  | .agg cs => forceL cs fun cs => K (.agg cs)
  | .tup cs => forceL cs fun cs => K (.tup cs)
  | .clo g cs => forceL cs fun cs => K (.clo g cs)
where
  force1 (c : AV) (K : AV → Prop) : Prop := match c with
    | .junk => K .junk
    | .tt => K .tt
    | .ff => K .ff
    | .dat (.val v) => K (.dat (.val v))
    | .dat (.lst s n f) => K (.dat (.lst s n f))
    | .ptr r o => K (.ptr r o)
    | .ro n c => K (.ro n c)
    | .own r s l n => K (.own r s l n)
    | .rptr r s k j => K (.rptr r s k j)
    | .mp r => K (.mp r)
    | .agg cs => K (.agg cs)
    | .tup cs => K (.tup cs)
    | .clo g cs => K (.clo g cs)
  forceL (cs : List AV) (K : List AV → Prop) : Prop := match cs with
    | [] => K []
    | c :: l => force1 c fun c => forceL l fun l => K (c :: l)
theorem force1_eq (c : AV) (K : AV → Prop) : force.force1 c K = K c := by
  cases c with
  | dat d => cases d <;> rfl
  | _ => rfl
theorem forceL_eq : ∀ (cs : List AV) (K : List AV → Prop), force.forceL cs K = K cs
  | [], K => rfl
  | c :: l, K => by
    show force.force1 c (fun c => force.forceL l fun l => K (c :: l)) = _
    rw [force1_eq, forceL_eq l]
theorem force_eq (c : AV) (K : AV → Prop) : force c K = K c := by
  cases c with
  | dat d => cases d <;> rfl
  | agg cs => show force.forceL cs _ = _; rw [forceL_eq]
  | tup cs => show force.forceL cs _ = _; rw [forceL_eq]
  | clo g cs => show force.forceL cs _ = _; rw [forceL_eq]
  | _ => rfl

def forceE (e : Ent) (K : Ent → Prop) : Prop := match e with
  | .blk t cs => force.forceL cs fun cs => K (.blk t cs)
  | .row E s n f => K (.row E s n f)
  | .pub s n f => K (.pub s n f)
  | .dead => K .dead
  | .mp P k e L => K (.mp P k e L)
  | .mpx P k e L es clock gm => K (.mpx P k e L es clock gm)
  | .it rm gm es clock left cur => K (.it rm gm es clock left cur)
theorem forceE_eq (e : Ent) (K : Ent → Prop) : forceE e K = K e := by
  cases e with
  | blk t cs => show force.forceL cs _ = _; rw [forceL_eq]
  | _ => rfl
def aftK (n : Nat) (st : St) (d : Option Nat) (c : AV) (ne : Option Ent) (K : St → Prop) : Prop := match d with
  | none => match ne with
    | none => K st
    | some _ => False
  | some t => match Nat.ble (t + 1) n with
    | false => False
    | true => match ne with
      | none => force c fun c => st.un fun fr hp => K ⟨(t, c) :: fr, hp⟩
      | some e => match cleanF t st.fr with
        | false => False
        | true => match cleanH t st.hp with
          | false => False
          | true => force c fun c => st.un fun fr hp => K ⟨(t, c) :: fr, (t, e) :: hp⟩
theorem aftK_ok {n : Nat} {st : St} {d : Option Nat} {c : AV} {ne : Option Ent} {K : St → Prop} (h : aftK n st d c ne K) : okDst n st d ne ∧ K (st.aft d c ne) := by
  unfold aftK at h
  split at h
  · split at h
    · exact ⟨fun t ht => (by cases ht), h⟩
    · exact h.elim
  · rename_i t
    split at h
    · exact h.elim
    rename_i hb
    have hb := Nat.le_of_ble_eq_true hb
    split at h
    · rw [force_eq] at h
      exact ⟨fun t' ht => by cases ht; exact ⟨by omega, fun hn => by cases hn⟩, h⟩
    · split at h
      · exact h.elim
      rename_i hcf
      split at h
      · exact h.elim
      rename_i hch
      rw [force_eq] at h
      exact ⟨fun t' ht => by cases ht; exact ⟨by omega, fun _ => ⟨hcf, hch⟩⟩, h⟩

structure ExCall (X : Cx) (n : Nat) (st : St) (d : Option Nat) (f : FuncId) (cs : List AV) (K : St → Prop) : Prop where
  out : ∀ (o : Oper), CallOp X st o f cs → o.dst = d → OpOk X n st o K
theorem ExCall.by {X : Cx} {n : Nat} {st : St} {d : Option Nat} {f : FuncId} {cs : List AV} {K : St → Prop} {r : AV} (h : CallA X st f cs r) (hk : aftK n st d r none K) : ExCall X n st d f cs K := by
  constructor
  intro o hop hd R hn ρ M a w hs K' Q hK'
  obtain ⟨h1, h2⟩ := aftK_ok hk
  refine h.out o hop R ρ M a w hs K' Q fun v ρ' M' w' hx => ?_
  subst hd
  subst hn
  exact hK' _ _ _ _ _ h2 (hs.quiet hx h1)

structure UnK (p : Bool → Prop) (K : Bool → Prop) : Prop where
  ex : ∀ b, p b → K b
def exNil (X : Cx) (n : Nat) (st : St) (o : Oper) (t : TypeId) (x : Operand) (K : St → Prop) : Prop := match lk t X.T with
  | some ⟨.slice E es eb ez, _, _⟩ => match st.ev X x with
    | .dat (.lst s m f) => UnK (fun b => b = true → m = 0) fun b => aftK n st o.dst (bv b) none K
    | .dat (.val (.slice none 0 0)) => aftK n st o.dst (bv true) none K
    | _ => False
  | _ => False
theorem run_nilEq {X : Cx} {E : TypeId} {t yt : TypeId} {x : Operand} {o : Oper} (hu : X.P.underlying t = some (.slice E)) (ho : o.op = .binOp .eql t x (.const (.slice none 0 0)) yt) {a : Act} {w : World} {A : Option Addr} {m c : Nat} (hx : a.eval x = .slice A m c) :
    (execOp a.eval o).run X.P w = .ok (.value (.bool A.isNone)) w := by
  have h1 : ∀ d : Nat, (Op.equalIn (d + 1) t (.slice A m c) (.slice none 0 0)).run X.P w = .ok A.isNone w := fun d => by
    cases A <;> simp [Op.equalIn, run_underlying hu]
  have h2 : (Op.equal t (.slice A m c) (.slice none 0 0)).run X.P w = .ok A.isNone w := h1 9999
  have h3 : a.eval (.const (.slice none 0 0)) = .slice none 0 0 := rfl
  unfold execOp
  simp only [ho, hx, h3, eqGuard, binOp, Sem.run_bind]
  simp [h2]
theorem exNil_ok {X : Cx} (hX : X.ok) {n : Nat} {st : St} {o : Oper} {t yt : TypeId} {x : Operand} {K : St → Prop} (ho : o.op = .binOp .eql t x (.const (.slice none 0 0)) yt) (h : exNil X n st o t x K) : OpOk X n st o K := by
  unfold exNil at h
  split at h
  · rename_i E es eb ez sz z hti
    obtain ⟨_, _, hu, _⟩ := hX t _ hti
    split at h
    · rename_i s m f hx
      intro R hn ρ M a w hs K' Q hK'
      obtain ⟨A, cap, u, hv, hn2, hc, hA, hm, hd⟩ := lst_of (hx ▸ hs.ev x)
      obtain ⟨h1, h2⟩ := aftK_ok (h.ex A.isNone (fun hb => by
        cases A with
        | none => have := hA rfl; omega
        | some ad => cases hb))
      subst hn
      have hr := run_nilEq hu ho (a := a) (w := w) hv
      refine qval (c := bv A.isNone) hs.pub hr (.dat (.val _)) K' Q fun v ρ' M' w' hx => hK' _ _ _ _ _ h2 (hs.quiet hx h1)
    · rename_i hx
      intro R hn ρ M a w hs K' Q hK'
      have hv := val_of (hx ▸ hs.ev x)
      obtain ⟨h1, h2⟩ := aftK_ok h
      subst hn
      have hr := run_nilEq hu ho (a := a) (w := w) hv
      refine qval (c := bv true) hs.pub hr (.dat (.val _)) K' Q fun v ρ' M' w' hx => hK' _ _ _ _ _ h2 (hs.quiet hx h1)
    · exact h.elim
  · exact h.elim
theorem chg_turned {w w' : World} {g : Nat} (h : w.mapTurned w' g) : Chg [g] w w' ∧ w'.heap.size = w.heap.size ∧ w.drawn ≤ w'.drawn := by
  obtain ⟨es, clock, es', clock', hb, rfl⟩ := h
  refine ⟨⟨rfl, rfl, rfl, by simp [ChangeMaps.setBlock], fun k _ hk => ?_⟩, by simp [ChangeMaps.setBlock], Nat.le_refl _⟩
  have : k ≠ g := by simpa using hk
  simp only [ChangeMaps.setBlock]
  rw [Array.getElem?_setIfInBounds_ne (Ne.symm this)]
def exMapUp (X : Cx) (st : St) (t : TypeId) (m i x : Operand) (K : St → Prop) : Prop := match lk t X.T with
  | some ⟨.map k e, _, _⟩ => match st.ev X m with
    | .mp r => match st.ent r with
      | some (.mp P k' e' L) => match st.ev X i with
        | .dat (.val (.string s)) => match st.ev X x with
          | .dat (.val (.int .i64 z)) => CndK (P = X.P ∧ k' = k ∧ e' = e ∧ s.size ≤ maxLen ∧ L.length < maxLen ∧ -9223372036854775808 ≤ z ∧ z ≤ 9223372036854775807) (st.un fun fr hp => K ⟨fr, (r, .mp X.P k e (putM L s z)) :: hp⟩)
          | _ => False
        | _ => False
      | _ => False
    | _ => False
  | _ => False
theorem s_mapUp {X : Cx} (hX : X.ok) {n : Nat} {st : St} {o : Oper} {t : TypeId} {m i x : Operand} {K : St → Prop} (ho : o.op = .mapUpdate t m i x ∨ o.op = .insert t m i x) (hd : o.dst = none) (h : exMapUp X st t m i x K) : OpOk X n st o K := by
  unfold exMapUp at h
  split at h
  · rename_i k e sz z hti
    obtain ⟨_, _, hu, hk, he, ti, hi, hz⟩ := hX t _ hti
    split at h
    · rename_i r hx
      split at h
      · rename_i P k' e' L hen
        split at h
        · rename_i s hs
          split at h
          · rename_i v hv
            intro R hn ρ M a w hsim K' Q hK'
            obtain ⟨⟨rfl, rfl, rfl, c1, c2, c3, c4⟩, hnext⟩ := h
            obtain ⟨g, hg, hmv⟩ := mp_of (hx ▸ hsim.ev m)
            have hiv := val_of (hs ▸ hsim.ev i)
            have hxv := val_of (hv ▸ hsim.ev x)
            obtain ⟨g', D, h1, h2, h3⟩ := hsim.ents r _ hen
            rw [hg] at h1
            cases h1
            have hwf : (Lit.int .i64 v).wf = true := by
              have := wrap64_wf v
              rwa [IntWalk.wrap64_in _ ⟨c3, c4⟩] at this
            obtain ⟨w', hrun, hown, hturn⟩ := h2.store (Maps.string_keyed hk) hu c2 (WideMaps.keyOf_string_mk hk c1) (plainElem_int he hwf)
            obtain ⟨q1, q2, q3⟩ := chg_turned hturn
            have hr' := h3.put s v
            have hown' := own_exact hown
            rw [hr'.size] at hown'
            have hsim' := hsim.stored (e' := .mp X.P k' e' (putM L s v)) hen rfl rfl hg ⟨g, _, hg, hown', hr'⟩ q1 q2 q3
            unfold Oper.wp
            have hex : (execOp a.eval o).run X.P w = .ok .skip w' := by
              unfold execOp
              rcases ho with ho | ho <;> simp [ho, hmv, hiv, hxv, hrun]
            rw [hex]
            exact hK' _ _ _ _ _ hnext (by rw [hd]; exact hsim')
          · exact h.elim
        · exact h.elim
      · exact h.elim
    · exact h.elim
  · exact h.elim

structure NextK (left : ML) (A : Prop) (B : ByteArray × Int → ML → Prop) : Prop where
  nil : left = [] → A
  cons : ∀ p l, left.Perm (p :: l) → B p l
def exNext (X : Cx) (n : Nat) (st : St) (o : Oper) (x : Operand) (K : St → Prop) : Prop := match st.ev X x with
  | .ptr q 0 => match st.ent q with
    | some (.it r gm es clock left _) => match st.ent r with
      | some (.mpx _ _ _ _ es' clock' gm') => CndK (es' = es ∧ clock' = clock ∧ gm' = gm) (NextK left (aftK n st o.dst (.tup [.ff]) none K)
          fun p l => st.un fun fr hp => aftK n ⟨fr, (q, .it r gm es clock l (some p)) :: hp⟩ o.dst (.tup [.tt, .dat (.val (.string p.1)), .dat (.val (.int .i64 p.2))]) none K)
      | _ => False
    | _ => False
  | _ => False
theorem s_next {X : Cx} {n : Nat} {st : St} {o : Oper} {x : Operand} {K : St → Prop} (ho : o.op = .next x false) (h : exNext X n st o x K) : OpOk X n st o K := by
  unfold exNext at h
  split at h
  · rename_i q hx
    split at h
    · rename_i r gm es clock left cur hen
      split at h
      · rename_i P k e L es' clock' gm' hem
        intro R hn ρ M a w hs K' Q hK'
        obtain ⟨⟨rfl, rfl, rfl⟩, hnx⟩ := h
        obtain ⟨b, hb, hv⟩ := ptr_of (hx ▸ hs.ev x)
        have hv' : a.eval x = .pointer (some ⟨b, 0, none⟩) := hv
        obtain ⟨g, since, seen, c0, e1, e2, e3, e4, e5, e6, e7⟩ := hs.ents q _ hen
        rw [hb] at e1
        cases e1
        obtain ⟨h1, h2, h3⟩ := hs.ents r _ hem
        have hnd := ((MapKept.stamped_iff es' clock').1 h3.fit.stamped).2.1
        subst hn
        rcases run_next_at (P := X.P) w o.type b gm' since c0 seen es' clock' e2 h2 e3 e4 with ⟨h0, hrun⟩ | ⟨y, hy, w1, hw1, hrun⟩
        · have hl : left = [] := by
            have h5 := e6.length_eq
            rw [List.length_map, List.length_map, Array.length_toList, h0] at h5
            exact List.length_eq_zero_iff.1 h5.symm
          obtain ⟨k1, k2⟩ := aftK_ok (hnx.nil hl)
          refine qval (c := .tup [.ff]) hs.pub (v := .tuple #[.bool false]) ?_ (.tup [.ff] [.bool false] rfl fun j c v hc hv => ?_) K' Q fun v ρ' M' w' hx => hK' _ _ _ _ _ k2 (hs.quiet hx k1)
          · unfold execOp
            simp [ho, hv', hrun]
          · rcases j with _ | j
            · simp at hc hv; subst hc hv; exact .ff
            · simp at hc
        · obtain ⟨hye, hys⟩ := mem_left hy
          have hpm : kvE y ∈ left.map kvM := e6.mem_iff.1 (List.mem_map.2 ⟨y, hy, rfl⟩)
          obtain ⟨p, hp, hpy⟩ := List.mem_map.1 hpm
          obtain ⟨l1, l2, rfl⟩ := List.append_of_mem hp
          have hpl : (l1 ++ p :: l2).Perm (p :: (l1 ++ l2)) := List.perm_middle
          have hk : aftK R.n ⟨st.fr, (q, .it r gm' es' clock' (l1 ++ l2) (some p)) :: st.hp⟩ o.dst (.tup [.tt, .dat (.val (.string p.1)), .dat (.val (.int .i64 p.2))]) none K := hnx.cons p (l1 ++ l2) hpl
          obtain ⟨k1, k2⟩ := aftK_ok hk
          have hk1 : y.key = .string p.1 := (congrArg Prod.fst hpy).symm
          have hk2 : y.val = .int .i64 p.2 := (congrArg Prod.snd hpy).symm
          have hr1 : w1.heap[b]? = some (.mapIter (some gm') since seen c0) := by rcases hw1 with rfl | rfl <;> exact e2
          have hset := MapKept.heap_set (o' := .mapIter (some gm') since (seen.push y.born) clock') hr1
          have hchg : Chg [b] w (ChangeMaps.setBlock w1 b (.mapIter (some gm') since (seen.push y.born) clock')) := by
            rcases hw1 with rfl | rfl <;> exact ⟨rfl, rfl, rfl, by simp [ChangeMaps.setBlock], fun i _ hi => hset.2 i (by simpa using hi)⟩
          have hperm : ((leftOf es' (seen.push y.born)).toList.map kvE).Perm ((l1 ++ l2).map kvM) := by
            have h5 := ((left_perm hnd hy).map kvE).symm.trans (e6.trans (hpl.map kvM))
            rw [List.map_cons, List.map_cons, hpy] at h5
            exact h5.cons_inv
          have hsim := hs.stored (e' := .it r gm' es' clock' (l1 ++ l2) (some p)) hen rfl rfl hb
            (w' := ChangeMaps.setBlock w1 b (.mapIter (some gm') since (seen.push y.born) clock')) ⟨b, since, seen.push y.born, clock', hb, hset.1, e3, e5, e5, hperm, fun p' hp' => by cases hp'; exact ⟨seen, y, rfl, rfl, hye, hpy.symm⟩⟩ hchg
            (by rcases hw1 with rfl | rfl <;> simp [ChangeMaps.setBlock])
            (by rcases hw1 with rfl | rfl
                · exact Nat.le_refl _
                · exact Nat.le_succ _)
          rw [hk1, hk2] at hrun
          refine wp_val (v := .tuple #[.bool true, .string p.1, .int .i64 p.2]) (w' := ChangeMaps.setBlock w1 b (.mapIter (some gm') since (seen.push y.born) clock')) ?_ (hK' _ _ _ _ _ k2 (hsim.quiet (c := .tup [.tt, .dat (.val (.string p.1)), .dat (.val (.int .i64 p.2))]) (ne := none) (ExtQ.same hsim.pub (.tup [.tt, .dat (.val (.string p.1)), .dat (.val (.int .i64 p.2))] [.bool true, .string p.1, .int .i64 p.2] rfl fun j c v hc hv => ?_)) k1))
          · unfold execOp
            simp [ho, hv', hrun]
          · rcases j with _ | _ | _ | j
            · simp at hc hv; subst hc hv; exact .tt
            · simp at hc hv; subst hc hv; exact .dat (.val _)
            · simp at hc hv; subst hc hv; exact .dat (.val _)
            · simp at hc
      · exact h.elim
    · exact h.elim
  · exact h.elim

def exOp (X : Cx) (n : Nat) (st : St) (o : Oper) (K : St → Prop) : Prop := match o.op with
  | .store t p x => match o.dst with
    | none => exStore X st t p x K
    | some _ => False
  | .mapUpdate t m i x => match o.dst with
    | none => exMapUp X st t m i x K
    | some _ => False
  | .insert t m i x => match o.dst with
    | none => exMapUp X st t m i x K
    | some _ => False
  | .next x str => match str with
    | true => False
    | false => exNext X n st o x K
  | .call c => match c with
    | ⟨.value cl, args, _⟩ => match st.ev X cl with
      | .dat (.val (.func (.func f) ⟨[]⟩ ⟨[]⟩)) => ExCall X n st o.dst f (args.toList.map (st.ev X)) K
      | .clo f ds => ExCall X n st o.dst f (args.toList.map (st.ev X) ++ ds) K
      | _ => False
    | ⟨.builtin .append, ⟨[x, y]⟩, ⟨[t, t']⟩⟩ => match Nat.beq t t' with
      | true => exAppend X n st o.dst t x y K
      | false => match lk t' X.T with
        | some ⟨.slice _ _ _ _, _, _⟩ => exAppend X n st o.dst t x y K
        | _ => False
    | _ => (evq X st o).to fun c ne => aftK n st o.dst c ne K
  | .binOp .eql t x (.const (.slice none 0 0)) _ => exNil X n st o t x K
  | _ => (evq X st o).to fun c ne => aftK n st o.dst c ne K

theorem exq_ok {X : Cx} (hX : X.ok) {n : Nat} {st : St} {o : Oper} {K : St → Prop} (h : (evq X st o).to fun c ne => aftK n st o.dst c ne K) : OpOk X n st o K := by
  obtain ⟨c, ne, h1, h2⟩ := Res.to_sound (evq_sound hX) h
  intro R hn ρ M a w hs K' Q hK'
  obtain ⟨h3, h4⟩ := aftK_ok h1
  refine h2 R ρ M a w hs K' Q fun v ρ' M' w' hx => ?_
  subst hn
  exact hK' _ _ _ _ _ h4 (hs.quiet hx h3)

theorem exOp_ok {X : Cx} (hX : X.ok) {n : Nat} {st : St} {o : Oper} {K : St → Prop} (h : exOp X n st o K) : OpOk X n st o K := by
  unfold exOp at h
  split at h
  · rename_i ho
    split at h
    · rename_i hd
      exact s_store hX ho hd h
    · exact h.elim
  · rename_i ho
    split at h
    · rename_i hd
      exact s_mapUp hX (.inl ho) hd h
    · exact h.elim
  · rename_i ho
    split at h
    · rename_i hd
      exact s_mapUp hX (.inr ho) hd h
    · exact h.elim
  · rename_i ho
    split at h
    · exact h.elim
    · exact s_next ho h
  · rename_i ho
    split at h
    · split at h
      · rename_i hcl
        exact h.out _ (CallOp.of ho hcl) rfl
      · rename_i hcl
        exact h.out _ (CallOp.clo ho hcl) rfl
      · exact h.elim
    · split at h
      · rename_i hb
        obtain rfl := Nat.eq_of_beq_eq_true hb
        exact s_append hX ho (fun _ _ _ _ _ => rfl) h
      · split at h
        · rename_i hti
          obtain ⟨_, _, hu', _⟩ := hX _ _ hti
          exact s_append hX ho (fun E hu ty as w => append_two hu hu' ty as w) h
        · exact h.elim
    · exact exq_ok hX h
  · rename_i ho
    exact exNil_ok hX ho h
  · exact exq_ok hX h

def und : AV := .dat (.val undef)
def exG (n : Nat) (ops : List Oper) (st : St) (o : Oper) (yes no : St → Prop) : Prop := match o.guard with
  | none => yes st
  | some (j, b) => match ops[j]? with
    | none => False
    | some oj => match oj.dst with
      | none => False
      | some t => match st.get t with
        | .tt => match b with
          | true => yes st
          | false => no st
        | .ff => match b with
          | true => no st
          | false => yes st
        | .dat (.val (.tuple _)) => no st
        | .dat (.val (.bool e)) => match Nat.ble (t + 1) n with
          | false => False
          | true => BrK e (match b with
              | true => st.un fun fr hp => yes ⟨(t, .tt) :: fr, hp⟩
              | false => st.un fun fr hp => no ⟨(t, .tt) :: fr, hp⟩) (match b with
              | true => st.un fun fr hp => no ⟨(t, .ff) :: fr, hp⟩
              | false => st.un fun fr hp => yes ⟨(t, .ff) :: fr, hp⟩)
        | _ => False

theorem Sim.reslot {X : Cx} {R : Run} {ρ : Env} {M : Mem} {st : St} {a : Act} {w : World} (h : Sim X R ρ M st a w) {t : Nat} {c : AV} (hc : DenA ρ M c (a.tmps.getD t undef)) : Sim X R ρ M ⟨(t, c) :: st.fr, st.hp⟩ a w :=
  ⟨h.size, h.defers, h.chg, h.m0, h.g0, h.fresh, h.pub, fun s => by
    rw [St.get_cons]
    by_cases hs : t = s
    · rw [if_pos hs]; subst hs; exact hc
    · rw [if_neg hs]; exact h.slots s, h.ents, h.own, h.apart, h.sep, h.fix, h.drn, h.kn⟩

def boolY (v : Value) : Option Bool := match v with
  | .bool b => some b
  | _ => none
theorem yielded_of {ops : List Oper} {oj : Oper} {j t : Nat} {a : Act} (hj : ops[j]? = some oj) (ht : oj.dst = some t) {v : Value} (hv : a.tmps.getD t undef = v) : yielded ops.toArray a.tmps j = boolY v := by
  unfold yielded
  have h1 : ops.toArray[j]? = some oj := by simpa using hj
  rw [h1]
  show (match (oj.dst).bind (a.tmps[·]?) with | some (.bool b) => some b | _ => none) = _
  rw [ht]
  show (match a.tmps[t]? with | some (.bool b) => some b | _ => none) = _
  cases hq : a.tmps[t]? with
  | none =>
    have hv2 : v = undef := by rw [← hv]; simp [hq]
    subst hv2
    rfl
  | some u =>
    have : v = u := by rw [← hv]; simp [hq]
    subst this
    cases v <;> rfl

theorem exG_ok {n : Nat} {ops : List Oper} {st : St} {o : Oper} {yes no : St → Prop} (h : exG n ops st o yes no) {X : Cx} {R : Run} {ρ : Env} {M : Mem} {a : Act} {w : World} (hn : R.n = n) (hs : Sim X R ρ M st a w) :
    ∃ st', Sim X R ρ M st' a w ∧ ((Region.wanted o (yielded ops.toArray a.tmps) = true ∧ yes st') ∨ (Region.wanted o (yielded ops.toArray a.tmps) = false ∧ no st')) := by
  unfold exG at h
  split at h
  · rename_i hg
    exact ⟨st, hs, .inl ⟨by simp [Region.wanted, hg], h⟩⟩
  rename_i j b hg
  split at h
  · exact h.elim
  rename_i oj hj
  split at h
  · exact h.elim
  rename_i t ht
  have hw : ∀ {v : Value}, a.tmps.getD t undef = v → Region.wanted o (yielded ops.toArray a.tmps) = (boolY v == some b) := fun hv => by
    simp [Region.wanted, hg, yielded_of hj ht hv]
  have hsl := hs.slots t
  split at h
  · rename_i hc
    rw [hc] at hsl
    generalize hv : a.tmps.getD t undef = v at hsl
    cases hsl
    split at h
    · exact ⟨st, hs, .inl ⟨by rw [hw hv]; rfl, h⟩⟩
    · exact ⟨st, hs, .inr ⟨by rw [hw hv]; rfl, h⟩⟩
  · rename_i hc
    rw [hc] at hsl
    generalize hv : a.tmps.getD t undef = v at hsl
    cases hsl
    split at h
    · exact ⟨st, hs, .inr ⟨by rw [hw hv]; rfl, h⟩⟩
    · exact ⟨st, hs, .inl ⟨by rw [hw hv]; rfl, h⟩⟩
  · rename_i hc
    rw [hc] at hsl
    have hv := val_of hsl
    exact ⟨st, hs, .inr ⟨by rw [hw hv]; rfl, h⟩⟩
  · rename_i e hc
    rw [hc] at hsl
    have hv := val_of hsl
    split at h
    · exact h.elim
    cases e with
    | true =>
      have h1 := h.yes rfl
      refine ⟨_, hs.reslot (t := t) (c := .tt) (by rw [hv]; exact .tt), ?_⟩
      split at h1
      · exact .inl ⟨by rw [hw hv]; rfl, h1⟩
      · exact .inr ⟨by rw [hw hv]; rfl, h1⟩
    | false =>
      have h1 := h.no rfl
      refine ⟨_, hs.reslot (t := t) (c := .ff) (by rw [hv]; exact .ff), ?_⟩
      split at h1
      · exact .inr ⟨by rw [hw hv]; rfl, h1⟩
      · exact .inl ⟨by rw [hw hv]; rfl, h1⟩
  · exact h.elim

theorem Sim.skip {X : Cx} {R : Run} {ρ : Env} {M : Mem} {st : St} {a : Act} {w : World} (h : Sim X R ρ M st a w) {d : Option Nat} {K : St → Prop} (hk : aftK R.n st d und none K) : ∃ st', K st' ∧ Sim X R ρ M st' (a.put d undef) w := by
  obtain ⟨h1, h2⟩ := aftK_ok hk
  exact ⟨_, h2, h.quiet (ExtQ.same (d := d) h.pub (.dat (.val undef))) h1⟩

def ex (X : Cx) (n : Nat) (ops : List Oper) : List Oper → St → (St → Prop) → Prop
  | [], st, K => K st
  | o :: r, st, K => exG n ops st o (fun st' => exOp X n st' o fun st'' => ex X n ops r st'' K) (fun st' => aftK n st' o.dst und none fun st'' => ex X n ops r st'' K)

theorem ex_ok {X : Cx} (hX : X.ok) {R : Run} {ops : List Oper} {Q : Exit → Act → World → Prop} : ∀ (l : List Oper) (st : St) (K : St → Prop), ex X R.n ops l st K → ∀ ρ M a w, Sim X R ρ M st a w →
    (∀ st' ρ' M' a' w', K st' → Sim X R ρ' M' st' a' w' → Q .normal a' w') → wpList X.P ops.toArray Q l a w
  | [], st, K, h, ρ, M, a, w, hs, hQ => wpList_nil (hQ st ρ M a w h hs)
  | o :: r, st, K, h, ρ, M, a, w, hs, hQ => by
    obtain ⟨st', hs', hcase⟩ := exG_ok h rfl hs
    refine wpList_step fun K' hK' => ?_
    rcases hcase with ⟨hw, hy⟩ | ⟨hw, hno⟩
    · rw [if_pos hw]
      exact exOp_ok hX hy R rfl ρ M a w hs' K' Q fun st'' ρ' M' a' w' hk hs'' => hK' _ _ (ex_ok hX r st'' K hk ρ' M' a' w' hs'' hQ)
    · rw [if_neg (by rw [hw]; simp)]
      obtain ⟨st'', hk, hs''⟩ := hs'.skip hno
      exact hK' _ _ (ex_ok hX r st'' K hk ρ M _ w hs'' hQ)

structure W (X : Cx) (n : Nat) (c : Code) (st : St) (Q : Exit → St → Prop) : Prop where
  out : X.ok → ∀ R : Run, R.n = n → ∀ ρ M a w, Sim X R ρ M st a w → c.wp X.P (fun e a' w' => ∃ st' ρ' M', Q e st' ∧ Sim X R ρ' M' st' a' w') a w

section
variable {X : Cx} {n : Nat} {st : St} {Q : Exit → St → Prop}

theorem W.seq {c d : Code} (h : W X n c st (fun e st' => match e with
    | .normal => W X n d st' Q
    | e => Q e st')) : W X n (.seq c d) st Q := ⟨fun hX R hn ρ M a w hs => wp_seq (wp_mono (h.out hX R hn ρ M a w hs) fun e a' w' ⟨st', ρ', M', hq, hs'⟩ => by
  cases e with
  | normal => exact hq.out hX R hn ρ' M' a' w' hs'
  | _ => exact ⟨st', ρ', M', hq, hs'⟩)⟩
theorem W.skip (h : Q .normal st) : W X n .skip st Q := ⟨fun _ R hn ρ M a w hs => wp_skip ⟨st, ρ, M, h, hs⟩⟩
theorem W.exit {i : Nat} (h : Q (.exit i) st) : W X n (.exit i) st Q := ⟨fun _ R hn ρ M a w hs => wp_exit ⟨st, ρ, M, h, hs⟩⟩
theorem W.ret (h : Q .ret st) : W X n .ret st Q := ⟨fun _ R hn ρ M a w hs => wp_ret ⟨st, ρ, M, h, hs⟩⟩
theorem W.block {i : Nat} {c : Code} (h : W X n c st (fun e st' => match e with
    | .exit j => match Nat.beq j i with
      | true => Q .normal st'
      | false => Q (.exit j) st'
    | e => Q e st')) : W X n (.block i c) st Q := ⟨fun hX R hn ρ M a w hs => wp_block (wp_mono (h.out hX R hn ρ M a w hs) fun e a' w' ⟨st', ρ', M', hq, hs'⟩ => by
  cases e with
  | exit j =>
    show if j = i then _ else _
    by_cases hj : j = i
    · subst hj
      rw [if_pos rfl]
      simp only [Nat.beq_refl] at hq
      exact ⟨st', ρ', M', hq, hs'⟩
    · rw [if_neg hj]
      have : Nat.beq j i = false := by
        cases hb : Nat.beq j i
        · rfl
        · exact absurd (Nat.eq_of_beq_eq_true hb) hj
      simp only [this] at hq
      exact ⟨st', ρ', M', hq, hs'⟩
  | _ => exact ⟨st', ρ', M', hq, hs'⟩)⟩
theorem W.region {i : Nat} {l : List Oper} (h : ex X n l l st (Q .normal)) : W X n (.region i l.toArray false) st Q := ⟨fun hX R hn ρ M a w hs => by
  subst hn
  exact wp_region_lit (ex_ok hX l st _ h ρ M a w hs fun st' ρ' M' a' w' hk hs' => ⟨st', ρ', M', hk, hs'⟩)⟩

theorem Sim.pbU {X : Cx} {l : List Nat} {R : Run} {ρ : Env} {M : Mem} {st : St} {a : Act} {w : World} (h : Sim { X with pb := l } R ρ M st a w) : Sim X R ρ M st a w :=
  ⟨h.size, h.defers, h.chg, h.m0, h.g0, h.fresh, h.pub, h.slots, h.ents, h.own, h.apart, h.sep, h.fix, h.drn, h.kn⟩
theorem Sim.pbD {X : Cx} (l : List Nat) {R : Run} {ρ : Env} {M : Mem} {st : St} {a : Act} {w : World} (h : Sim X R ρ M st a w) : Sim { X with pb := l } R ρ M st a w :=
  ⟨h.size, h.defers, h.chg, h.m0, h.g0, h.fresh, h.pub, h.slots, h.ents, h.own, h.apart, h.sep, h.fix, h.drn, h.kn⟩
theorem W.pb (l : List Nat) {c : Code} (h : W { X with pb := l } n c st Q) : W X n c st Q := ⟨fun hX R hn ρ M a w hs => wp_mono (h.out hX R hn ρ M a w (hs.pbD l)) fun e a' w' ⟨st', ρ', M', hq, hs'⟩ => ⟨st', ρ', M', hq, hs'.pbU⟩⟩

theorem Sim.swap {X : Cx} {R : Run} {ρ : Env} {M : Mem} {st : St} {a : Act} {w : World} {r : Nat} {e e' : Ent} (h : Sim X R ρ M st a w) (he : st.ent r = some e) (ho : e.owned = true) (hok : EntOk ρ M w r e') : Sim X R ρ M ⟨st.fr, (r, e') :: st.hp⟩ a w := by
  have hents : ∀ k q, (⟨st.fr, (r, e') :: st.hp⟩ : St).ent k = some q → (k = r ∧ q = e') ∨ (k ≠ r ∧ st.ent k = some q) := fun k q hq => by
    have hq' : lk k ((r, e') :: st.hp) = some q := hq
    rw [lk_cons] at hq'
    split at hq'
    · rename_i hrk; cases hq'; exact .inl ⟨hrk.symm, rfl⟩
    · rename_i hrk; exact .inr ⟨fun e => hrk e.symm, hq'⟩
  have hown : ∀ k q, (⟨st.fr, (r, e') :: st.hp⟩ : St).ent k = some q → q.owned = true → ∃ q0, st.ent k = some q0 ∧ q0.owned = true := fun k q hq hqo => by
    rcases hents k q hq with ⟨rfl, rfl⟩ | ⟨_, h1⟩
    · exact ⟨e, he, ho⟩
    · exact ⟨q, h1, hqo⟩
  refine ⟨h.size, h.defers, h.chg, h.m0, h.g0, h.fresh, h.pub, h.slots, fun k q hq => ?_, fun k q b hq hoq hb => ?_, fun k k' q q' hq hq' hoq hoq' hne b hb hb' => ?_, fun k q b p v hq hoq hb hp => ?_, h.fix, h.drn, h.kn⟩
  · rcases hents k q hq with ⟨rfl, rfl⟩ | ⟨_, h1⟩
    · exact hok
    · exact h.ents k q h1
  · obtain ⟨q0, h1, h2⟩ := hown k q hq hoq
    exact h.own k q0 b h1 h2 hb
  · obtain ⟨q0, h1, h2⟩ := hown k q hq hoq
    obtain ⟨q0', h1', h2'⟩ := hown k' q' hq' hoq'
    exact h.apart k k' q0 q0' h1 h1' h2 h2' hne b hb hb'
  · obtain ⟨q0, h1, h2⟩ := hown k q hq hoq
    exact h.sep k q0 b p v h1 h2 hb hp
theorem W.openM (r : Nat) {P : Program} {k e : TypeId} {L : ML} {c : Code} (he : st.ent r = some (.mp P k e L)) (h : ∀ es clock gm, W X n c ⟨st.fr, (r, .mpx P k e L es clock gm) :: st.hp⟩ Q) : W X n c st Q := ⟨fun hX R hn ρ M a w hs => by
  obtain ⟨g, D, h1, ⟨es, clock, h2, h3, h4, rfl⟩, h5⟩ := hs.ents r _ he
  exact (h es clock g).out hX R hn ρ M a w (hs.swap he rfl ⟨h1, h2, ⟨h3, h4, h5⟩⟩)⟩
theorem W.shutM (r : Nat) {P : Program} {k e : TypeId} {L : ML} {es : Array MapEntry} {clock gm : Nat} {c : Code} (he : st.ent r = some (.mpx P k e L es clock gm)) (h : W X n c ⟨st.fr, (r, .mp P k e L) :: st.hp⟩ Q) : W X n c st Q := ⟨fun hX R hn ρ M a w hs => by
  obtain ⟨h1, h2, h3⟩ := hs.ents r _ he
  exact h.out hX R hn ρ M a w (hs.swap he rfl ⟨gm, _, h1, ⟨es, clock, h2, h3.fit, h3.size, rfl⟩, h3.rep⟩)⟩

def cond1 (c : AV) (yes no : Prop) : Prop := match c with
  | .tt => yes
  | .ff => no
  | .dat (.val (.bool b)) => BrK b yes no
  | _ => False
theorem W.cond {x : Operand} {c d : Code} (h : cond1 (st.ev X x) (W X n c st Q) (W X n d st Q)) : W X n (.cond x c d) st Q := ⟨fun hX R hn ρ M a w hs => by
  have hx := hs.ev x
  unfold cond1 at h
  split at h
  · rename_i hc
    rw [hc] at hx
    generalize hv : a.eval x = v at hx
    cases hx
    exact wp_cond_true hv (h.out hX R hn ρ M a w hs)
  · rename_i hc
    rw [hc] at hx
    generalize hv : a.eval x = v at hx
    cases hx
    exact wp_cond_false hv (h.out hX R hn ρ M a w hs)
  · rename_i b hc
    rw [hc] at hx
    have hv := val_of hx
    cases b with
    | true => exact wp_cond_true hv ((h.yes rfl).out hX R hn ρ M a w hs)
    | false => exact wp_cond_false hv ((h.no rfl).out hX R hn ρ M a w hs)
  · exact h.elim⟩

def EntLe (e e' : Ent) : Prop := ∀ ρ M w r, EntOk ρ M w r e → EntOk ρ M w r e'
theorem EntLe.refl (e : Ent) : EntLe e e := fun _ _ _ _ h => h
theorem EntLe.blk {t : TypeId} {cs ds : List AV} (h : AVsLe cs ds) : EntLe (.blk t cs) (.blk t ds) := fun ρ M w r ⟨g, vs, h1, h2, h3, h4⟩ => by
  obtain ⟨e1, e2⟩ := AVsLe_at h
  exact ⟨g, vs, h1, h2, by omega, fun i c v hi hv => by
    obtain ⟨c', e3, e4⟩ := e2 i c hi
    exact e4 _ _ _ (h4 i c' v e3 hv)⟩
theorem EntLe.row {E : TypeId} {s n m : Nat} {f g : Nat → Nat → D} (hn : n = m) (h : ∀ i, i < n → ∀ j, j < s → Dle (f i j) (g i j)) : EntLe (.row E s n f) (.row E s m g) := fun ρ M w r ⟨xs, h1, h2⟩ => by
  subst hn
  exact ⟨xs, h1, fun i hi j hj => by
    obtain ⟨u, e1, e2, e3⟩ := h2 i hi j hj
    exact ⟨u, e1, h i hi j hj M u e2, e3⟩⟩

def keepF (st : St) : List Nat → List (Nat × AV)
  | [] => []
  | t :: r => (t, st.get t) :: keepF st r
def keepH (st : St) : List Nat → List (Nat × Ent)
  | [] => []
  | t :: r => match st.ent t with
    | some e => (t, e) :: keepH st r
    | none => keepH st r
def leF (st : St) : List (Nat × AV) → Prop
  | [] => True
  | (t, c) :: r => AVle (st.get t) c ∧ leF st r
def leH (st : St) : List (Nat × Ent) → Prop
  | [] => True
  | (t, e) :: r => (∃ e0, st.ent t = some e0 ∧ EntLe e0 e ∧ e.owned = e0.owned) ∧ leH st r
theorem leF_get {st : St} : ∀ {l : List (Nat × AV)}, leF st l → ∀ (hp : List (Nat × Ent)) (t : Nat), AVle (st.get t) ((⟨l, hp⟩ : St).get t)
  | [], _, hp, t => AVle.junk _
  | (s, c) :: r, h, hp, t => by
    have := St.get_cons ⟨r, hp⟩ s c hp t
    rw [this]
    by_cases hst : s = t
    · rw [if_pos hst]; subst hst; exact h.1
    · rw [if_neg hst]; exact leF_get h.2 hp t
theorem leH_ent {st : St} : ∀ {l : List (Nat × Ent)}, leH st l → ∀ (r : Nat) (e : Ent), lk r l = some e → ∃ e0, st.ent r = some e0 ∧ EntLe e0 e ∧ e.owned = e0.owned
  | [], _, r, e, h => by cases h
  | (s, e') :: l, hl, r, e, h => by
    rw [lk_cons] at h
    split at h
    · rename_i hs; subst hs; cases h; exact hl.1
    · exact leH_ent hl.2 r e h
theorem Sim.le {X : Cx} {R : Run} {ρ : Env} {M : Mem} {st : St} {a : Act} {w : World} (h : Sim X R ρ M st a w) {st' : St} (hf : leF st st'.fr) (hh : leH st st'.hp) : Sim X R ρ M st' a w :=
  ⟨h.size, h.defers, h.chg, h.m0, h.g0, h.fresh, h.pub, fun t => leF_get hf st'.hp t ρ M _ (h.slots t), fun r e he => by
    obtain ⟨e0, h1, h2, _⟩ := leH_ent hh r e he
    exact h2 _ _ _ _ (h.ents r e0 h1), fun r e g he ho => by
    obtain ⟨e0, h1, h2, h3⟩ := leH_ent hh r e he
    exact h.own r e0 g h1 (by rw [← h3]; exact ho), fun r r' e e' he he' ho ho' => by
    obtain ⟨e0, h1, h2, h3⟩ := leH_ent hh r e he
    obtain ⟨e0', h1', h2', h3'⟩ := leH_ent hh r' e' he'
    exact h.apart r r' e0 e0' h1 h1' (by rw [← h3]; exact ho) (by rw [← h3']; exact ho'), fun r e g p v he ho => by
    obtain ⟨e0, h1, h2, h3⟩ := leH_ent hh r e he
    exact h.sep r e0 g p v h1 (by rw [← h3]; exact ho), h.fix, h.drn, h.kn⟩
theorem W.weak {c : Code} (st' : St) (hf : leF st st'.fr) (hh : leH st st'.hp) (h : W X n c st' Q) : W X n c st Q := ⟨fun hX R hn ρ M a w hs => h.out hX R hn ρ M a w (hs.le hf hh)⟩
theorem W.mono {c : Code} {Q' : Exit → St → Prop} (h : W X n c st Q') (hq : ∀ e st', Q' e st' → Q e st') : W X n c st Q := ⟨fun hX R hn ρ M a w hs => wp_mono (h.out hX R hn ρ M a w hs) fun e a' w' ⟨st', ρ', M', hq', hs'⟩ => ⟨st', ρ', M', hq e st' hq', hs'⟩⟩

theorem wp_loop_ix {ι : Type} {P : Program} {c : Code} {Q : Exit → Act → World → Prop} {a : Act} {w : World} (I : ι → Act → World → Prop) (μ : ι → Nat) (i0 : ι) (h₀ : I i0 a w)
    (round : ∀ i a w, I i a w → c.wp P (Exit.then (fun a' w' => ∃ i', I i' a' w' ∧ μ i' < μ i) Q) a w) : (Code.loop c).wp P Q a w := by
  intro b k cs
  have key : ∀ n i a w, μ i = n → I i a w → ∃ e a' w', Q e a' w' ∧ Arrives P (lone (b.at a (.code c :: .inLoop c :: k)) cs w) b k cs e a' w' := by
    intro n
    induction n using Nat.strongRecOn with
    | _ n ih =>
      intro i a w hn hI
      obtain ⟨e, a₁, w₁, hq, harr⟩ := round i a w hI b (.inLoop c :: k) cs
      cases e with
      | normal =>
        obtain ⟨i', hI₁, hlt⟩ := hq
        obtain ⟨e₂, a₂, w₂, hq₂, harr₂⟩ := ih (μ i') (hn ▸ hlt) i' a₁ w₁ rfl hI₁
        exact ⟨e₂, a₂, w₂, hq₂, .of_steps (Steps.trans harr (.one step_inLoop)) harr₂⟩
      | exit id => exact ⟨_, a₁, w₁, hq, .pass (x := .inLoop c) rfl (fun _ _ => .inl (by simp)) harr⟩
      | goto l => exact ⟨_, a₁, w₁, hq, .pass (x := .inLoop c) rfl (fun _ _ => .inl (by simp)) harr⟩
      | ret => exact ⟨_, a₁, w₁, hq, .pass (x := .inLoop c) rfl (fun _ _ => .inl (by simp)) harr⟩
      | panic ch => exact ⟨_, a₁, w₁, hq, .pass (x := .inLoop c) rfl (fun _ _ => .inl (by simp)) harr⟩
      | outgrown => exact ⟨_, a₁, w₁, hq, .pass (x := .inLoop c) rfl (fun _ _ => .inl (by simp)) harr⟩
  obtain ⟨e, a', w', hq, harr⟩ := key _ i0 a w rfl h₀
  exact ⟨e, a', w', hq, .of_steps (.one step_loop) harr⟩

theorem W.loop {ι : Type} {c : Code} (S : ι → St) (P : ι → Prop) (μ : ι → Nat) (i0 : ι) (h0 : P i0) (hf : leF st (S i0).fr) (hh : leH st (S i0).hp)
    (round : ∀ i, P i → W X n c (S i) (fun e st' => match e with
      | .normal => ∃ i', P i' ∧ μ i' < μ i ∧ leF st' (S i').fr ∧ leH st' (S i').hp
      | e => Q e st')) : W X n (.loop c) st Q := ⟨fun hX R hn ρ M a w hs => by
  refine wp_loop_ix (I := fun i a w => P i ∧ ∃ ρ M, Sim X R ρ M (S i) a w) μ i0 ⟨h0, ρ, M, hs.le hf hh⟩ fun i a w ⟨hp, ρ, M, hs⟩ => ?_
  refine wp_mono ((round i hp).out hX R hn ρ M a w hs) fun e a' w' ⟨st', ρ', M', hq, hs'⟩ => ?_
  cases e with
  | normal =>
    obtain ⟨i', hp', hlt, hf', hh'⟩ := hq
    exact ⟨i', ⟨hp', ρ', M', hs'.le hf' hh'⟩, hlt⟩
  | _ => exact ⟨st', ρ', M', hq, hs'⟩⟩

end
end Go.Proofs.Ytoeghejbgibioaa
