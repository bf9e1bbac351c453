import Derived.Test.YtehmgljndjdegaaGreatDoorGen3
namespace Go.Proofs.XG3
open Go.Vm Go
set_option maxRecDepth 100000
set_option maxHeartbeats 4000000
theorem live_run : x5.run [] [] (fun a h => some (a, h)) = some (AEnd.ret [.d .bool true], []) := by kernel_rfl
end Go.Proofs.XG3
