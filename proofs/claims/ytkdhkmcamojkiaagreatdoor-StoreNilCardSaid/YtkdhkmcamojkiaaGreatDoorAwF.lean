/- On the road of bourselaw17.awake: a store that begins anew, by the kernel (the table being known). -/
import Derived.Test.YtkdhkmcamojkiaaGreatDoorKnown
import Derived.Test.YtkdhkmcamojkiaaGreatDoorHooks
import Derived.KernelRfl
namespace Go.Proofs.YtkdhkmcamojkiaaGreatDoor
open Go.Ev

theorem hkB : hookRun (tabsWith memo3 [hookA]) 10000 hookB = true := by kernel_rfl

end Go.Proofs.YtkdhkmcamojkiaaGreatDoor
