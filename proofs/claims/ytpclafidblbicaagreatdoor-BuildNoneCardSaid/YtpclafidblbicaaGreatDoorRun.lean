/-
  The closed runs of this seat, by the evaluator: what is known of the functions on the road.
-/
import Derived.Test.YtpclafidblbicaaGreatDoorExt
import Derived.Test.YtpclafidblbicaaGreatDoorCol
namespace Go.Proofs.YtpclafidblbicaaGreatDoor
open Go Go.Det

def sorts0 : List (FuncId × Known) := [(195, sortedsK [235, 268, 268] intK), (242, sortedsK [276] strK)]
def X1 : Go.Det.Ext := { X0 with fn := known sorts0 }
def Y1 : FuncId → Option Many := many [(279, collectY 281 5 thingB)]
def noY : FuncId → Option Many := fun _ => none
def noZ : FuncId → Bool := fun _ => false
noncomputable def forks0 : List (FuncId × Known) := [(251, forkK Tryz.prog X1 Y1 noZ 100 40 251)]
noncomputable def X2 : Go.Det.Ext := { X0 with fn := known (sorts0 ++ forks0) }

end Go.Proofs.YtpclafidblbicaaGreatDoor
