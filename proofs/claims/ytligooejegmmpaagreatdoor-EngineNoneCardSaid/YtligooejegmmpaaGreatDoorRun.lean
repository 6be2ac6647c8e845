/-
  The closed runs of this seat, by the evaluator: what is known of the functions on the road.
-/
import Derived.Test.YtligooejegmmpaaGreatDoorExt
import Derived.Test.YtligooejegmmpaaGreatDoorCol
namespace Go.Proofs.YtligooejegmmpaaGreatDoor
open Go Go.Det

def sorts0 : List (FuncId × Known) := [(133, sortedsK [216, 285, 369] intK), (272, sortedsK [351] strK)]
def X1 : Go.Det.Ext := { X0 with fn := known sorts0 }
def Y1 : FuncId → Option Many := many [(407, collectY 409 5 thingB)]
def noY : FuncId → Option Many := fun _ => none
def noZ : FuncId → Bool := fun _ => false
noncomputable def forks0 : List (FuncId × Known) := [(343, forkK Tryz.prog X1 Y1 noZ 100 40 343), (397, forkK Tryz.prog X1 noY noZ 100 24 397), (289, forkK Tryz.prog X1 noY noZ 100 12 289), (84, forkK Tryz.prog X1 noY noZ 100 24 84), (203, forkK Tryz.prog X1 noY noZ 100 12 203), (402, forkK Tryz.prog X1 noY noZ 100 2 402)]
noncomputable def X2 : Go.Det.Ext := { X0 with fn := known (sorts0 ++ forks0) }

end Go.Proofs.YtligooejegmmpaaGreatDoor
