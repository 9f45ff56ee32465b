/- Examples of chapters: each is true, by the kernel (crc.Table being known). -/
import Derived.Test.YtkdhkmcamojkiaaGreatDoorKnown
import Derived.Test.YtkdhkmcamojkiaaGreatDoorHooks
import Derived.KernelRfl
namespace Go.Proofs.YtkdhkmcamojkiaaGreatDoor
open Go.Ev

theorem aw36 : saysTrue (run (tabsWith memo1 []) 10000 (.call 36 [] .leaf 0)) = true := by kernel_rfl
theorem aw35 : saysTrue (run (tabsWith memo1 []) 10000 (.call 35 [] .leaf 0)) = true := by kernel_rfl

end Go.Proofs.YtkdhkmcamojkiaaGreatDoor
