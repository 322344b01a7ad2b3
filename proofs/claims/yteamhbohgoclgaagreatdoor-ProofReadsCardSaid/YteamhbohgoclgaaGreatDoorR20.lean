/- The form's facts on the whole program of the seat, one by one. -/
import Derived.Test.YteamhbohgoclgaaGreatDoorCards
import Derived.Test.YteamhbohgoclgaaGreatDoorTie
set_option maxRecDepth 100000
set_option maxHeartbeats 16000000
namespace Go.Proofs.YteamhbohgoclgaaGreatDoor
open Go Go.ChangeShapes

theorem jf_lo : laidOutB Tryz.prog = true := by kernel_rfl
theorem jf_mr : mapsRowed Tryz.prog = true := by kernel_rfl
theorem jf_st : (Tryz.prog.stops == []) = true := by kernel_rfl
theorem jf_sk : (Tryz.prog.stopKnobs == []) = true := by kernel_rfl
theorem jf_sh : Tryz.prog.stopsHeard = true := by kernel_rfl
theorem jf_me : Tryz.prog.mayEnter = true := by kernel_rfl
theorem jf_mi : Tryz.prog.mainIs = some (true, "60a5e962dc1f4fe988dfa79233aeaec293cdf6c72b3c81a3b4c5b5b5e29320ef".toList) := by kernel_rfl
theorem jf_lk : true = Tryz.prog.looks [] := by kernel_rfl
end Go.Proofs.YteamhbohgoclgaaGreatDoor
