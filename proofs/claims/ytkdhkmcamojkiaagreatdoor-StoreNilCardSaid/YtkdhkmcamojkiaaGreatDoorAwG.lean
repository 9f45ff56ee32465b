/- On the road of bourselaw17.awake: a store opened on an empty disk, by the kernel; StoreNil, bourselaw17.awake being known. -/
import Derived.Test.YtkdhkmcamojkiaaGreatDoorKnown
import Derived.Test.YtkdhkmcamojkiaaGreatDoorHooks
import Derived.KernelRfl
namespace Go.Proofs.YtkdhkmcamojkiaaGreatDoor
open Go.Ev

theorem hkC : hookRun (tabsWith memo3 []) 10000 hookC = true := by kernel_rfl
theorem aw3 : saysTrue (run (tabsWith memo4 []) 10000 (.call 3 [] .leaf 0)) = true := by kernel_rfl

end Go.Proofs.YtkdhkmcamojkiaaGreatDoor
