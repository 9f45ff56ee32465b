/- bourselaw11.Awake is true, by the kernel (the examples below it being known). -/
import Derived.Test.YtkdhkmcamojkiaaGreatDoorKnown
import Derived.Test.YtkdhkmcamojkiaaGreatDoorHooks
import Derived.KernelRfl
namespace Go.Proofs.YtkdhkmcamojkiaaGreatDoor
open Go.Ev

theorem aw34 : saysTrue (run (tabsWith memo2 []) 10000 (.call 34 [] .leaf 0)) = true := by kernel_rfl

end Go.Proofs.YtkdhkmcamojkiaaGreatDoor
