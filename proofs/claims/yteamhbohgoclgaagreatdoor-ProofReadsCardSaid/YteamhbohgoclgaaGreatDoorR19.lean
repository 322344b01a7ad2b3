/- From what the form hands over to the words of the walks: an argument of type graph, of type divisor, of type script. -/
import Derived.Test.YteamhbohgoclgaaGreatDoorR12
import Derived.Deep.Fields
import Derived.Lib.SmallJoins
set_option maxRecDepth 100000
set_option maxHeartbeats 16000000
namespace Go.Proofs.YteamhbohgoclgaaGreatDoor
open Go.ChangeShapes Go.WideShapes Go.ChangeAt Go.RowKit Go.Shelf

theorem own_ : ownKnob Tryz.prog.godebug = none := by kernel_rfl
end Go.Proofs.YteamhbohgoclgaaGreatDoor
