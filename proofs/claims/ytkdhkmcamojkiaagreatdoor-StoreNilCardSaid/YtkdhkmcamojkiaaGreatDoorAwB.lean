/- Examples of chapters: each is true, by the kernel (crc.Table being known). -/
import Derived.Test.YtkdhkmcamojkiaaGreatDoorKnown
import Derived.Test.YtkdhkmcamojkiaaGreatDoorHooks
import Derived.KernelRfl
namespace Go.Proofs.YtkdhkmcamojkiaaGreatDoor
open Go.Ev

theorem aw310 : saysTrue (run (tabsWith memo1 []) 10000 (.call 310 [] .leaf 0)) = true := by kernel_rfl
theorem aw37 : saysTrue (run (tabsWith memo1 []) 10000 (.call 37 [] .leaf 0)) = true := by kernel_rfl

end Go.Proofs.YtkdhkmcamojkiaaGreatDoor
