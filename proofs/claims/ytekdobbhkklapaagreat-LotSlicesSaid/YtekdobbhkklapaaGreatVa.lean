/- What a frame and the memory say, apart from where it lies: descriptions of values, states, and what it is for a world to be described by one. -/
import Derived.Orders
import Derived.Below
import Derived.Tactics
import Derived.Laws.AppendOwn
import Derived.Laws.Cells
import Derived.Laws.Rows
import Derived.Laws.CopyRow
import Derived.Laws.Tables
import Derived.Deep.Draws
namespace Go.Proofs.YtekdobbhkklapaaGreat
open Go Go.RowKit
set_option linter.unusedVariables false
set_option linter.unusedSimpArgs false

theorem ask_drawn {α : Type} : ∀ (A : Ask α) (w : World), w.drawn ≤ (w.ask A).2.drawn := by
  intro A
  induction A with
  | done a => intro w; exact Nat.le_refl _
  | ask what range k ih =>
    intro w
    simp only [World.ask]
    split
    · exact ih _ w
    · have := ih ((Question.extern what range).cut (w.tape w.drawn (Question.extern what range))) { w with drawn := w.drawn + 1 }
      exact Nat.le_trans (Nat.le_succ _) this
theorem sys_drawn (w : World) (c : Sys) : w.drawn ≤ (w.sys c).2.drawn := by
  have h := ask_drawn (Kernel.perform c w.os) w
  unfold World.sys
  split
  · exact Nat.le_refl _
  · rename_i r os w' _ heq
    rw [heq] at h
    exact h
theorem ex_bind {α β ε : Type} {x : Except ε α} {f : α → Except ε β} {r : β} (h : (x >>= f) = .ok r) : ∃ a, x = .ok a ∧ f a = .ok r := by
  cases x with
  | error e => cases h
  | ok a => exact ⟨a, rfl, h⟩
theorem throw_ok {α : Type} {e : String} {r : α} (h : (MonadExcept.throw e : Except String α) = Except.ok r) : False := by
  cases h
theorem viewStore_drawn {p : Program} {w w' : World} {at_ : Addr} {u : TypeId} {k : Addr} {v : Value} {b : Bool} {l : List Addr} (h : w.viewStore p at_ u k v b = .ok (w', l)) : w.drawn ≤ w'.drawn := by
  unfold World.viewStore at h
  repeat' (first | (exact (throw_ok h).elim) | (obtain ⟨_, _, h⟩ := ex_bind h) | (split at h) | (cases h; exact Nat.le_refl _) | (obtain ⟨a, _, h⟩ := ex_bind h; obtain ⟨_, _, _, _, _, _⟩ := a))
theorem farStore_drawn {p : Program} {w w' : World} {a : Addr} {v : Value} {b : Bool} {l : List Addr} (h : w.farStore p a v b = .ok (w', l)) : w.drawn ≤ w'.drawn := by
  unfold World.farStore at h
  split at h
  · split at h
    · rename_i r hr
      cases h
      exact viewStore_drawn hr
    · cases h
  · cases h
theorem setCell_drawn (w : World) (a : Addr) (v : Value) : (w.setCell a v).drawn = w.drawn := rfl
theorem freeze_drawn (w : World) (a : Addr) (n : Nat) : (w.freeze a n).drawn = w.drawn := by unfold World.freeze; split <;> rfl
/-- No operation takes a draw back. -/
theorem run_drawn {α : Type} {P : Program} : ∀ {s : Sem α} {w w' : World} {x : α}, s.run P w = .ok x w' → w.drawn ≤ w'.drawn := by
  intro s
  induction s with
  | pure a => intro w w' x h; simp only [Sem.run] at h; cases h; exact Nat.le_refl _
  | load m a k ih =>
    intro w w' x h
    simp only [Sem.run] at h
    split at h
    · exact ih _ h
    · split at h
      · exact ih _ h
      · cases h
  | store m a v k ih =>
    intro w w' x h
    unfold Sem.run at h
    split at h
    all_goals first | (cases h; done) | skip
    all_goals rename_i heq
    all_goals first | (cases heq; done) | skip
    cases heq
    split at h
    · split at h
      · cases h
      · exact Nat.le_trans (Nat.le_of_eq (setCell_drawn _ _ _).symm) (ih h)
    · split at h
      · rename_i w1 l1 hf
        exact Nat.le_trans (farStore_drawn hf) (ih h)
      · cases h
  | new o k ih => intro w w' x h; simp only [Sem.run] at h; exact ih (w := { w with heap := w.heap.push o }) _ h
  | shape r k ih => intro w w' x h; simp only [Sem.run] at h; exact ih _ h
  | freeze a n k ih => intro w w' x h; simp only [Sem.run] at h; have := ih h; rwa [freeze_drawn] at this
  | frozen a k ih => intro w w' x h; simp only [Sem.run] at h; exact ih _ h
  | getObj r k ih =>
    intro w w' x h
    simp only [Sem.run] at h
    split at h
    · cases h
    · exact ih _ h
    · cases h
  | setObj r o k ih =>
    intro w w' x h
    simp only [Sem.run] at h
    split at h
    · cases h
    · exact ih (w := { w with heap := w.heap.setIfInBounds r o }) h
    · cases h
  | choose q k ih =>
    intro w w' x h
    simp only [Sem.run] at h
    split at h
    · exact ih _ h
    · have := ih _ h
      exact Nat.le_trans (Nat.le_succ _) this
  | sys c k ih => intro w w' x h; simp only [Sem.run] at h; exact Nat.le_trans (sys_drawn w c) (ih _ h)
  | program k ih => intro w w' x h; simp only [Sem.run] at h; exact ih _ h
  | mark m k ih => intro w w' x h; simp only [Sem.run] at h; exact ih h
  | halt hh => intro w w' x h; simp only [Sem.run] at h; cases h

/-- Public memory: cells that nobody writes. -/
abbrev Mem := Addr → Option Value
def Mem.le (M M' : Mem) : Prop := ∀ p v, M p = some v → M' p = some v
theorem Mem.le_refl (M : Mem) : Mem.le M M := fun _ _ h => h
theorem Mem.le_trans {M M' M'' : Mem} (h : Mem.le M M') (h' : Mem.le M' M'') : Mem.le M M'' := fun p v hp => h' p v (h p v hp)

/-- Pure data: a value, or a list that is only read: n elements of so many cells. -/
inductive D where
  | val (v : Value)
  | lst (size n : Nat) (f : Nat → Nat → D)

inductive DenD (M : Mem) : D → Value → Prop where
  | val (v : Value) : DenD M (.val v) v
  | lst (size n : Nat) (f : Nat → Nat → D) (A : Option Addr) (cap : Nat) (u : Nat → Nat → Value) (hn : n ≤ cap) (hc : cap ≤ maxLen) (hA : A = none → cap = 0)
      (hm : ∀ ad, A = some ad → ∀ i, i < n → ∀ j, j < size → M (ad.add (i * size + j)) = some (u i j))
      (hd : ∀ i, i < n → ∀ j, j < size → DenD M (f i j) (u i j)) : DenD M (.lst size n f) (.slice A n cap)

theorem DenD.mono {M M' : Mem} (h : Mem.le M M') {d : D} {v : Value} (hd : DenD M d v) : DenD M' d v := by
  induction hd with
  | val v => exact .val v
  | lst size n f A cap u hn hc hA hm hd ih => exact .lst size n f A cap u hn hc hA (fun ad ha i hi j hj => h _ _ (hm ad ha i hi j hj)) ih

/-- Where the blocks of a call's own lie: the block, and the room of a row. -/
abbrev Env := Nat → Option Nat × Nat
def addrOf (b : Option Nat) : Option Addr := b.map fun g => ⟨g, 0, none⟩
/-- Where the part of a slice from lo on begins. -/
def partOf (b : Option Nat) (cap size lo : Nat) : Option Addr := if cap = lo then addrOf b else (addrOf b).map (·.add (lo * size))

/-- Descriptions: anything; data; the address of a cell of an own block; of public cells; a part of an own row; the address in an own row; an aggregate; several results. -/
inductive AV where
  | junk
  | tt
  | ff
  | dat (d : D)
  | ptr (r off : Nat)
  | ro (n : Nat) (c : Nat → D)
  | own (r size lo n : Nat)
  | rptr (r size k j : Nat)
  | agg (cs : List AV)
  | tup (vs : List AV)

inductive DenA (ρ : Env) (M : Mem) : AV → Value → Prop where
  | junk (v : Value) : DenA ρ M .junk v
  | tt : DenA ρ M .tt (.bool true)
  | ff : DenA ρ M .ff (.bool false)
  | dat {d : D} {v : Value} (h : DenD M d v) : DenA ρ M (.dat d) v
  | ptr (r off g : Nat) (h : (ρ r).1 = some g) : DenA ρ M (.ptr r off) (.pointer (some ⟨g, off, none⟩))
  | ro (n : Nat) (c : Nat → D) (ad : Addr) (u : Nat → Value) (hm : ∀ j, j < n → M (ad.add j) = some (u j)) (hd : ∀ j, j < n → DenD M (c j) (u j)) : DenA ρ M (.ro n c) (.pointer (some ad))
  | own (r size lo n : Nat) : DenA ρ M (.own r size lo n) (.slice (partOf (ρ r).1 (ρ r).2 size lo) n ((ρ r).2 - lo))
  | rptr (r size k j g : Nat) (h : (ρ r).1 = some g) : DenA ρ M (.rptr r size k j) (.pointer (some ⟨g, k * size + j, none⟩))
  | agg (cs : List AV) (vs : List Value) (hl : cs.length = vs.length) (h : ∀ (i : Nat) (c : AV) (v : Value), cs[i]? = some c → vs[i]? = some v → DenA ρ M c v) : DenA ρ M (.agg cs) (.agg vs.toArray)
  | tup (cs : List AV) (vs : List Value) (hl : cs.length = vs.length) (h : ∀ (i : Nat) (c : AV) (v : Value), cs[i]? = some c → vs[i]? = some v → DenA ρ M c v) : DenA ρ M (.tup cs) (.tuple vs.toArray)

/-- The description names own block r. -/
def AV.uses (r : Nat) : AV → Bool
  | .ptr r' _ => Nat.beq r r'
  | .own r' _ _ _ => Nat.beq r r'
  | .rptr r' _ _ _ => Nat.beq r r'
  | .agg cs => usesL r cs
  | .tup cs => usesL r cs
  | _ => false
where usesL (r : Nat) : List AV → Bool
  | [] => false
  | c :: l => AV.uses r c || usesL r l

theorem AV.usesL_false {r : Nat} : ∀ {cs : List AV}, AV.uses.usesL r cs = false → ∀ (i : Nat) (c : AV), cs[i]? = some c → AV.uses r c = false
  | [], _, i, c, hi => by simp at hi
  | x :: l, h, i, c, hi => by
    simp only [AV.uses.usesL, Bool.or_eq_false_iff] at h
    cases i with
    | zero => simp at hi; subst hi; exact h.1
    | succ i => exact AV.usesL_false h.2 i c (by simpa using hi)

/-- The description stays true where public memory has grown and the named blocks are where they were. -/
theorem DenA.keep {ρ ρ' : Env} {M M' : Mem} (hM : Mem.le M M') {c : AV} {v : Value} (h : DenA ρ M c v) (hρ : ∀ r, AV.uses r c = true → ρ' r = ρ r) : DenA ρ' M' c v := by
  induction h with
  | junk v => exact .junk v
  | tt => exact .tt
  | ff => exact .ff
  | dat h => exact .dat (h.mono hM)
  | ptr r off g h => exact .ptr r off g (by rw [hρ r (by simp [AV.uses])]; exact h)
  | ro n c ad u hm hd => exact .ro n c ad u (fun j hj => hM _ _ (hm j hj)) (fun j hj => (hd j hj).mono hM)
  | own r size lo n =>
    have := hρ r (by simp [AV.uses])
    rw [← this]
    exact .own r size lo n
  | rptr r size k j g h => exact .rptr r size k j g (by rw [hρ r (by simp [AV.uses])]; exact h)
  | agg cs vs hl h ih =>
    refine .agg cs vs hl fun i c v hc hv => ih i c v hc hv fun r hr => hρ r ?_
    cases hu : AV.uses r (.agg cs)
    · have := AV.usesL_false (r := r) (cs := cs) (by simpa [AV.uses] using hu) i c hc
      rw [this] at hr; cases hr
    · rfl
  | tup cs vs hl h ih =>
    refine .tup cs vs hl fun i c v hc hv => ih i c v hc hv fun r hr => hρ r ?_
    cases hu : AV.uses r (.tup cs)
    · have := AV.usesL_false (r := r) (cs := cs) (by simpa [AV.uses] using hu) i c hc
      rw [this] at hr; cases hr
    · rfl

/-- What own block r holds: cells; a row of n elements; a row that has become public; nothing that is known. -/
inductive Ent where
  | blk (t : TypeId) (cs : List AV)
  | row (E : TypeId) (size n : Nat) (f : Nat → Nat → D)
  | pub (size n : Nat) (f : Nat → Nat → D)
  | dead

def Ent.owned : Ent → Bool
  | .blk .. => true
  | .row .. => true
  | _ => false
def Ent.uses (r : Nat) : Ent → Bool
  | .blk _ cs => AV.uses.usesL r cs
  | _ => false

structure St where
  fr : List (Nat × AV)
  hp : List (Nat × Ent)

def lk {α : Type} (k : Nat) : List (Nat × α) → Option α
  | [] => none
  | (i, x) :: r => match Nat.beq i k with
    | true => some x
    | false => lk k r
theorem lk_cons {α : Type} (k i : Nat) (x : α) (r : List (Nat × α)) : lk k ((i, x) :: r) = if i = k then some x else lk k r := by
  simp only [lk]
  by_cases h : i = k
  · subst h
    rw [if_pos rfl, Nat.beq_refl]
  · rw [if_neg h]
    cases hb : Nat.beq i k
    · rfl
    · exact absurd (Nat.eq_of_beq_eq_true hb) h
theorem lk_mem {α : Type} {k : Nat} {x : α} : ∀ {l : List (Nat × α)}, lk k l = some x → (k, x) ∈ l
  | [], h => by cases h
  | (i, y) :: r, h => by
    rw [lk_cons] at h
    split at h
    · rename_i hi; subst hi; cases h; exact List.mem_cons_self ..
    · exact List.mem_cons_of_mem _ (lk_mem h)

def St.get (s : St) (t : Nat) : AV := match lk t s.fr with
  | some a => a
  | none => .junk
def St.ent (s : St) (r : Nat) : Option Ent := lk r s.hp
def St.put (s : St) (d : Option Nat) (c : AV) : St := match d with
  | some t => ⟨(t, c) :: s.fr, s.hp⟩
  | none => s
def St.lay (s : St) (r : Nat) (e : Ent) : St := ⟨s.fr, (r, e) :: s.hp⟩

/-- The program: its types and its variables that never turn, as far as they are wanted. -/
inductive TK where
  | cell
  | struct (fs : List (Nat × Nat))
  | slice (E esize ebytes : Nat) (ez : Value)
  | arr (n E esize : Nat)
  | str
  | int (k : IntKind)
  | bool
structure TI where
  k : TK
  size : Nat
  zero : Value

structure Cx where
  P : Program
  T : List (Nat × TI)
  G : List (Nat × (Nat × (Nat → D)))
  dr : Bool := false
  pb : List Nat := []

/-- The variables that never turn lie in public memory. -/
def Cx.glob (X : Cx) (M : Mem) : Prop := ∀ g n c, lk g X.G = some (n, c) → ∃ u : Nat → Value, (∀ j, j < n → M ((⟨g, 0, none⟩ : Addr).add j) = some (u j)) ∧ ∀ j, j < n → DenD M (c j) (u j)
theorem Cx.glob_mono {X : Cx} {M M' : Mem} (h : Mem.le M M') (hg : X.glob M) : X.glob M' := fun g n c hl => by
  obtain ⟨u, h1, h2⟩ := hg g n c hl
  exact ⟨u, fun j hj => h _ _ (h1 j hj), fun j hj => (h2 j hj).mono h⟩

/-- Public memory agrees with the world. -/
def PubOk (M : Mem) (w : World) : Prop := ∀ p v, M p = some v → w.cell? p = some v ∧ v.oneCell' = true

def EntOk (ρ : Env) (M : Mem) (w : World) (r : Nat) : Ent → Prop
  | .blk t cs => ∃ g vs, (ρ r).1 = some g ∧ w.heap[g]? = some (.cells vs t (0, 0)) ∧ cs.length = vs.size ∧ ∀ (i : Nat) (c : AV) (v : Value), cs[i]? = some c → vs[i]? = some v → DenA ρ M c v
  | .row E size n f => ∃ xs, w.ownsRow 0 E size (.slice (addrOf (ρ r).1) n (ρ r).2) n xs ∧ ∀ i, i < n → ∀ j, j < size → ∃ u, xs[i * size + j]? = some u ∧ DenD M (f i j) u ∧ u.oneCell' = true
  | .pub size n f => DenD M (.lst size n f) (.slice (addrOf (ρ r).1) n (ρ r).2)
  | .dead => True

/-- Of what was there nothing has turned but these blocks. -/
structure Chg (bs : List Nat) (w w' : World) : Prop where
  os : w'.os = w.os
  tape : w'.tape = w.tape
  output : w'.output = w.output
  size : w.heap.size ≤ w'.heap.size
  block : ∀ k, k < w.heap.size → k ∉ bs → w'.heap[k]? = w.heap[k]?
theorem Chg.refl (bs : List Nat) (w : World) : Chg bs w w := ⟨rfl, rfl, rfl, Nat.le_refl _, fun _ _ _ => rfl⟩
theorem Chg.of_below {bs : List Nat} {w w' : World} (h : Below w.heap.size w w') : Chg bs w w' := ⟨h.os, h.tape, h.output, h.size, fun k hk _ => h.block k hk⟩
theorem Chg.below {w w' : World} (h : Chg [] w w') : Below w.heap.size w w' := ⟨h.os, h.tape, h.output, h.size, fun k hk => h.block k hk (by simp)⟩
/-- A further change: of what was there at the beginning only these blocks. -/
theorem Chg.trans {bs cs : List Nat} {a b c : World} (h : Chg bs a b) (k : Chg cs b c) (hc : ∀ g, g ∈ cs → g < a.heap.size → g ∈ bs) : Chg bs a c :=
  ⟨k.os.trans h.os, k.tape.trans h.tape, k.output.trans h.output, Nat.le_trans h.size k.size, fun i hi hn => (k.block i (Nat.lt_of_lt_of_le hi h.size) (fun hm => hn (hc i hm hi))).trans (h.block i hi hn)⟩

/-- Names of blocks that were handed over and stay where they are. -/
def kp (k : Nat) : Bool := match Nat.ble 5000 k with
  | true => Nat.ble (k + 1) 1000000
  | false => false
theorem kp_small {k : Nat} (h : k < 5000) : kp k = false := by
  unfold kp
  cases hb : Nat.ble 5000 k with
  | true => have := Nat.le_of_ble_eq_true hb; omega
  | false => rfl
/-- What is fixed while a function runs: how many slots, the world and the public memory at its start, the blocks that were handed over, where they are. -/
structure Run where
  n : Nat
  n5 : n ≤ 5000
  w0 : World
  M0 : Mem
  bs : List Nat
  ρ0 : Env
  hb : Nat → Nat → Prop
  hsub : ∀ r g, hb r g → g ∈ bs

structure Sim (X : Cx) (R : Run) (ρ : Env) (M : Mem) (st : St) (a : Act) (w : World) : Prop where
  size : a.tmps.size = R.n
  defers : a.defers = []
  chg : Chg R.bs R.w0 w
  m0 : Mem.le R.M0 M
  g0 : X.glob R.M0
  fresh : ∀ p v, M p = some v → R.M0 p = some v ∨ R.w0.heap.size ≤ p.block
  pub : PubOk M w
  slots : ∀ t, DenA ρ M (st.get t) (a.tmps.getD t undef)
  ents : ∀ r e, st.ent r = some e → EntOk ρ M w r e
  own : ∀ r e g, st.ent r = some e → e.owned = true → (ρ r).1 = some g → R.w0.heap.size ≤ g ∨ (5000 ≤ r ∧ R.hb r g)
  apart : ∀ r r' e e', st.ent r = some e → st.ent r' = some e' → e.owned = true → e'.owned = true → r ≠ r' → ∀ g, (ρ r).1 = some g → (ρ r').1 ≠ some g
  sep : ∀ r e g p v, st.ent r = some e → e.owned = true → (ρ r).1 = some g → M p = some v → p.block ≠ g
  fix : ∀ k, kp k = true → ρ k = R.ρ0 k
  drn : X.dr = true → R.w0.drawn ≤ w.drawn

/-- From one description to a weaker one. -/
structure St.le (s s' : St) : Prop where
  slots : ∀ t, s'.get t = .junk ∨ s.get t = s'.get t
  ents : ∀ r e, s'.ent r = some e → s.ent r = some e

theorem Sim.weak {X : Cx} {R : Run} {ρ : Env} {M : Mem} {s s' : St} {a : Act} {w : World} (h : Sim X R ρ M s a w) (hle : St.le s s') : Sim X R ρ M s' a w where
  size := h.size
  defers := h.defers
  chg := h.chg
  m0 := h.m0
  g0 := h.g0
  fresh := h.fresh
  pub := h.pub
  slots t := by
    rcases hle.slots t with e | e
    · rw [e]; exact .junk _
    · rw [← e]; exact h.slots t
  ents r e he := h.ents r e (hle.ents r e he)
  own r e g he := h.own r e g (hle.ents r e he)
  apart r r' e e' he he' := h.apart r r' e e' (hle.ents r e he) (hle.ents r' e' he')
  sep r e g p v he := h.sep r e g p v (hle.ents r e he)
  fix := h.fix
  drn := h.drn

theorem addrOf_inj {a b : Option Nat} (h : addrOf a = addrOf b) : a = b := by
  cases a <;> cases b <;> simp [addrOf] at h <;> simp [h]

/-- An own block is there. -/
theorem EntOk.lt {ρ : Env} {M : Mem} {w : World} {r : Nat} {e : Ent} (h : EntOk ρ M w r e) (ho : e.owned = true) : ∀ g, (ρ r).1 = some g → g < w.heap.size := by
  intro g hg
  cases e with
  | blk t cs =>
    obtain ⟨g', vs, h1, h3, _⟩ := h
    rw [hg] at h1
    cases h1
    exact (Array.getElem?_eq_some_iff.1 h3).1
  | row E size n f =>
    obtain ⟨xs, h1, _⟩ := h
    rw [hg] at h1
    exact (h1.lt g rfl).2
  | pub => cases ho
  | dead => cases ho

/-- What an own block holds stays true: more public memory, the named blocks where they were, and this very block as it was. -/
theorem EntOk.keep {ρ ρ' : Env} {M M' : Mem} {w w' : World} {r : Nat} {e : Ent} (h : EntOk ρ M w r e) (hM : Mem.le M M') (hr : ρ' r = ρ r) (hu : ∀ k, e.uses k = true → ρ' k = ρ k)
    (hb : ∀ g, e.owned = true → (ρ r).1 = some g → g < w.heap.size → w'.heap[g]? = w.heap[g]?) : EntOk ρ' M' w' r e := by
  cases e with
  | blk t cs =>
    obtain ⟨g, vs, h1, h3, h4, h5⟩ := h
    refine ⟨g, vs, by rw [hr]; exact h1, by rw [hb g rfl h1 (Array.getElem?_eq_some_iff.1 h3).1]; exact h3, h4, fun i c v hc hv => (h5 i c v hc hv).keep hM fun k hk => hu k ?_⟩
    cases hq : Ent.uses k (.blk t cs)
    · have := AV.usesL_false (r := k) (cs := cs) (by simpa [Ent.uses] using hq) i c hc
      rw [this] at hk; cases hk
    · rfl
  | row E size n f =>
    obtain ⟨xs, ⟨h1, h2⟩, h3⟩ := h
    refine ⟨xs, ⟨h1, ?_⟩, fun i hi j hj => ?_⟩
    · rw [hr]
      rcases h2 with h2 | ⟨g, cap, cur, hv, hB, hh, hrest⟩
      · exact .inl h2
      · refine .inr ⟨g, cap, cur, hv, hB, ?_, hrest⟩
        have hg : (ρ r).1 = some g := by
          cases hq : (ρ r).1 with
          | none => rw [hq] at hv; simp [addrOf] at hv
          | some g' => rw [hq] at hv; simp [addrOf] at hv; rw [hv.1]
        rw [hb g rfl hg (Array.getElem?_eq_some_iff.1 hh).1]
        exact hh
    · obtain ⟨u, hu1, hu2, hu3⟩ := h3 i hi j hj
      exact ⟨u, hu1, hu2.mono hM, hu3⟩
  | pub size n f =>
    have h' : DenD M (.lst size n f) (.slice (addrOf (ρ r).1) n (ρ r).2) := h
    show DenD M' (.lst size n f) (.slice (addrOf (ρ' r).1) n (ρ' r).2)
    rw [hr]
    exact h'.mono hM
  | dead => trivial

end Go.Proofs.YtekdobbhkklapaaGreat
