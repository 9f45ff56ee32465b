/- On the road of bourselaw17.awake: a table that is built and opened, by the kernel. -/
import Derived.Test.YtkdhkmcamojkiaaGreatDoorKnown
import Derived.Test.YtkdhkmcamojkiaaGreatDoorHooks
import Derived.KernelRfl
namespace Go.Proofs.YtkdhkmcamojkiaaGreatDoor
open Go.Ev

theorem hkA : hookRun (tabsWith memo3 []) 10000 hookA = true := by kernel_rfl

end Go.Proofs.YtkdhkmcamojkiaaGreatDoor
