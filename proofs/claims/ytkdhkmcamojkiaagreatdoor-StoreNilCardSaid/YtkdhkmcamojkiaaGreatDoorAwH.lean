/- bourselaw17.awake is true, by the kernel (two calls on its road being known). -/
import Derived.Test.YtkdhkmcamojkiaaGreatDoorKnown
import Derived.Test.YtkdhkmcamojkiaaGreatDoorHooks
import Derived.KernelRfl
namespace Go.Proofs.YtkdhkmcamojkiaaGreatDoor
open Go.Ev

theorem aw7 : saysTrue (run (tabsWith memo3 [hookB, hookC]) 10000 (.call 7 [] .leaf 0)) = true := by kernel_rfl

end Go.Proofs.YtkdhkmcamojkiaaGreatDoor
