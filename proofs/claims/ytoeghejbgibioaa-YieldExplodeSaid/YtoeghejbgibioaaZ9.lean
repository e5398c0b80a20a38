/- Yields: whether the law's package is awake. -/
import Derived.Test.YtoeghejbgibioaaZ8
import Derived.Test.YtoeghejbgibioaaY9
namespace Go.Proofs.Ytoeghejbgibioaa
open Go Go.RowKit
set_option linter.unusedVariables false
set_option linter.unusedSimpArgs false
set_option maxRecDepth 100000
set_option maxHeartbeats 4000000
attribute [local irreducible] ResLe AVle ArgLe ArgP EntLe Dle ResH ArgQ strEq strLt

def c1 : ByteArray := ⟨#[49, 48, 48, 48, 48, 48, 48, 48]⟩
def c2 : ByteArray := ⟨#[50, 48, 48, 48, 48, 48, 48, 48]⟩
def r0 : Rc := ⟨1, [⟨c1, 5⟩], [⟨c2, 2⟩], [1]⟩
theorem c1_ok : cOk c1 := ⟨rfl, fun i hi => by
  rcases i with _ | _ | _ | _ | _ | _ | _ | _ | i
  all_goals first | (exfalso; omega) | decide⟩
theorem c2_ok : cOk c2 := ⟨rfl, fun i hi => by
  rcases i with _ | _ | _ | _ | _ | _ | _ | _ | i
  all_goals first | (exfalso; omega) | decide⟩
theorem asc_one {x : Nd} {lo hi : Int} (h : cOk x.c) (h1 : lo ≤ x.q) (h2 : x.q ≤ hi) : ascOk [x] lo hi := fun i hi => by
  obtain rfl : i = 0 := by simpa using hi
  exact ⟨h, h1, h2, fun h => absurd h (by omega)⟩
theorem r0_ok : yrOk r0 := ⟨by decide, ⟨asc_one c1_ok (by decide) (by decide), by decide, by decide⟩, ⟨asc_one c2_ok (by decide) (by decide), by decide, by decide⟩, rfl, fun i hi => by
  obtain rfl : i = 0 := by
    have : i < 1 := hi
    omega
  decide, by decide⟩
theorem r0_err : exErr [r0] = 0 := by
  have h : exA [r0] 0 = 0 := by
    unfold exA
    rw [if_neg (by simpa using r0_ok), if_neg (by omega)]
  show (if exA [r0] 0 ≠ 0 then exA [r0] 0 else 0) = 0
  rw [h]
  decide
theorem r0_ord : ordR [r0] c2 = (true, [2], [0]) := by decide
theorem r0_run : rnAll [r0] (ordL [r0] c2) c2 3 = some ([(c1, 10), (c2, 3)], [2]) := by decide
theorem ex0 : exE [r0] c2 3 = 0 ∧ exN [r0] c2 3 = [⟨c1, 10⟩] ∧ exB [r0] c2 3 = [2] := by
  have e : exE [r0] c2 3 = 0 := by
    unfold exE
    rw [if_neg (by decide), if_neg (by rw [r0_err]; decide), if_neg (fun h => h ⟨c2_ok, by decide, by decide⟩), if_neg (by rw [r0_ord]; decide), r0_run]
  refine ⟨e, ?_, ?_⟩
  · unfold exN
    rw [if_pos e, r0_run]
    have : ndsOf [r0] [(c1, 10), (c2, 3)] = [⟨c1, 10⟩] := by
      have h1 : ndP [r0] (c1, 10) = true := by decide
      have h2 : ndP [r0] (c2, 3) = false := by decide
      unfold ndsOf
      simp [List.filter_cons, h1, h2]
    show sortN (ndsOf [r0] [(c1, 10), (c2, 3)]) = _
    rw [this]
    exact sortN_unique (List.Perm.refl _) (List.pairwise_singleton ..)
  · unfold exB
    rw [if_pos e, r0_run]
theorem se0 : (seI [⟨10, 5⟩] [⟨8, 3⟩, ⟨12, 4⟩] 2 1 1).2 = [⟨0, 1, 4⟩] := by rfl
theorem bt0 : btN [⟨c1, 14⟩] r0.ins = 2 := by decide
theorem one_nd (x : Nd) : Dle (.lst 2 1 fun i j => pickF (tabB 1 2) [.val (.string x.c), .val (.int .i64 x.q)] (i * 2 + j)) (ndD [x]) := Dle.lst rfl fun i hi j hj => by
  rcases i with _ | i
  · rcases j with _ | _ | j
    all_goals first | exact Dle.refl _ | omega
  · omega
theorem one_it (x : Int) : Dle (.lst 1 1 fun i j => pickF (tabB 1 1) [.val (.int .i64 x)] (i * 1 + j)) (iD [x]) := Dle.lst rfl fun i hi j hj => by
  rcases i with _ | i
  · rcases j with _ | j
    all_goals first | exact Dle.refl _ | omega
  · omega
theorem one_rc (x : Int) (a b : Nd) (y : Int) : AVle (.dat (.lst 4 1 fun i j => pickF (tabB 1 4) [.val (.int .i64 x), .lst 2 1 fun i j => pickF (tabB 1 2) [.val (.string a.c), .val (.int .i64 a.q)] (i * 2 + j), .lst 2 1 fun i j => pickF (tabB 1 2) [.val (.string b.c), .val (.int .i64 b.q)] (i * 2 + j), .lst 1 1 fun i j => pickF (tabB 1 1) [.val (.int .i64 y)] (i * 1 + j)] (i * 4 + j))) (.dat (rcD [⟨x, [a], [b], [y]⟩])) := AVle.dat (Dle.lst rfl fun i hi j hj => by
  rcases i with _ | i
  · rcases j with _ | _ | _ | _ | j
    · exact Dle.refl _
    · exact one_nd a
    · exact one_nd b
    · exact one_it y
    · omega
  · omega)
theorem one_rcA (x : Int) (a b : Nd) (y : Int) : AVle (.agg [iA x, .dat (.lst 2 1 fun i j => pickF (tabB 1 2) [.val (.string a.c), .val (.int .i64 a.q)] (i * 2 + j)), .dat (.lst 2 1 fun i j => pickF (tabB 1 2) [.val (.string b.c), .val (.int .i64 b.q)] (i * 2 + j)), .dat (.lst 1 1 fun i j => pickF (tabB 1 1) [.val (.int .i64 y)] (i * 1 + j))]) (rcA ⟨x, [a], [b], [y]⟩) :=
  AVle.agg ⟨AVle.refl _, AVle.dat (one_nd a), AVle.dat (one_nd b), AVle.dat (one_it y), trivial⟩
theorem one_dt (x : Dt) : AVle (.dat (.lst 2 1 fun i j => pickF (tabB 1 2) [.val (.int .i64 x.d), .val (.int .i64 x.q)] (i * 2 + j))) (.dat (dtD [x])) := AVle.dat (Dle.lst rfl fun i hi j hj => by
  rcases i with _ | i
  · rcases j with _ | _ | j
    all_goals first | exact Dle.refl _ | omega
  · omega)
theorem two_dt (x y : Dt) : AVle (.dat (.lst 2 2 fun i j => pickF (tabB 2 2) [.val (.int .i64 x.d), .val (.int .i64 x.q), .val (.int .i64 y.d), .val (.int .i64 y.q)] (i * 2 + j))) (.dat (dtD [x, y])) := AVle.dat (Dle.lst rfl fun i hi j hj => by
  rcases i with _ | _ | i
  · rcases j with _ | _ | j
    all_goals first | exact Dle.refl _ | omega
  · rcases j with _ | _ | j
    all_goals first | exact Dle.refl _ | omega
  · omega)
theorem ACalls.yargs {X : Cx} {f : FuncId} {cs ds : List AV} {r : AV} (h : ACalls X f ds r) (hle : AVsLe cs ds) : ACalls X f cs r := by
  obtain ⟨h1, h2⟩ := AVsLe_at hle
  exact ⟨h.fn, fun M w vs hg hp hl hd => h.out M w vs hg hp (by omega) fun i d v e1 e2 => by
    obtain ⟨c, e3, e4⟩ := h2 i d e1
    unfold AVle at e4
    exact fun ρ => e4 ρ M v (hd i c v e3 e2 ρ)⟩
theorem yawake_t : ACalls XX 12 [] (bA true) := by
  have p1 := yexplode_t [r0] c2 3 (by decide) (fun r hr => by
    obtain rfl := List.mem_singleton.1 hr
    exact ⟨by decide, by decide, by decide⟩)
  rw [ex0.1, ex0.2.1, ex0.2.2] at p1
  have p1 := p1.yargs (cs := [_, _, _]) ⟨one_rc 1 ⟨c1, 5⟩ ⟨c2, 2⟩ 1, AVle.refl _, AVle.refl _, trivial⟩
  have p2 := ysettle_t [⟨10, 5⟩] [⟨8, 3⟩, ⟨12, 4⟩] 2 1 (by decide) (by decide) (by decide) (by decide) (by decide) (by decide)
  rw [show [(⟨10, 5⟩ : Dt)].length = 1 from rfl, se0] at p2
  have p2 := p2.yargs (cs := [_, _, _, _]) ⟨one_dt ⟨10, 5⟩, two_dt ⟨8, 3⟩ ⟨12, 4⟩, AVle.refl _, AVle.refl _, trivial⟩
  have p3 := ybatches_t r0 [⟨c1, 14⟩] ⟨r0_ok, by decide, asc_one c1_ok (by decide) (by decide)⟩
  rw [bt0] at p3
  have p3 := p3.yargs (cs := [_, _]) ⟨one_rcA 1 ⟨c1, 5⟩ ⟨c2, 2⟩ 1, AVle.dat (one_nd ⟨c1, 14⟩), trivial⟩
  have he : EqS Try.prog 56 3 := eqS_mk Try.eqGuardType56 Try.underlying56 Try.stoodInHeld56 (by kernel_rfl) rfl
  refine ACalls.of (n := Try.f12.ntmps) XX_ok Try.func12 rfl (by kernel_rfl) rfl rfl (Nat.le_of_ble_eq_true rfl) ?_
  refine W.pb [8, 10, 11, 15, 22, 25, 73] ?_
  (repeat' (first | refine Zs ?_ | refine Zk ?_ | ((first | refine Za ?_ | refine Zr ?_ | refine Zp ?_ | refine Ze ?_ | refine Zd ?_ | refine Zn ?_ | refine Zc ?_ | refine UnK.mk (fun b hb => ?_) | refine Zy (ACalls.at (p1)) ?_ | refine Zy (ACalls.at (p2)) ?_ | refine Zy (ACalls.at (p3)) ?_); conv => whnf) | (refine Zb (fun h => ?_) (fun h => ?_) <;> first | exact Zx | (conv => whnf))))
  all_goals first | ((repeat' (first | exact trivial | exact Zm | exact Zl | exact ResLe.row0 rfl | exact Zi (by first | rfl | decide) | exact Zo (h := by first | rfl | decide) | exact ResLe.bo rfl rfl Iff.rfl | refine ResLe.agg ?_ | refine And.intro ?_ ?_ | ((conv => whnf); first | exact Zl | exact ResLe.row0 rfl | exact Zi (by first | rfl | decide) | exact Zo (h := by first | rfl | decide) | exact ResLe.bo rfl rfl Iff.rfl | refine ResLe.agg ?_ | refine And.intro ?_ ?_))); done) | (exfalso; exact h rfl) | (exfalso; exact h (by decide)) | (exfalso; exact h trivial)
end Go.Proofs.Ytoeghejbgibioaa
