/- What a made stock comes to when a lot is divided in two, and when the parts are united again. -/
import Derived.Test.YtojkeidijdcfoaaGreatDoorCZ
namespace Go.Proofs.YtojkeidijdcfoaaGreatDoor
open Go Go.RowKit
set_option linter.unusedVariables false
set_option linter.unusedSimpArgs false
set_option maxRecDepth 100000

def totQ (ss : List Lt) : Int := (ss.map Lt.q).sum
def totN (ss : List Lt) : Int := (ss.map fun x => cnt x.us).sum
structure TwoR (ss S : List Lt) (y A B : Lt) : Prop where
  stk : StkOk S
  inA : A ∈ S
  inB : B ∈ S
  old : ¬ hasI S y.id
  tq : totQ S = totQ ss
  tn : totN S = totN ss
  kA : 0 ≤ cnt A.us
  kB : cnt A.us + cnt B.us = cnt y.us
  sh : cnt A.us = cnt y.us * A.q / y.q
end Go.Proofs.YtojkeidijdcfoaaGreatDoor
