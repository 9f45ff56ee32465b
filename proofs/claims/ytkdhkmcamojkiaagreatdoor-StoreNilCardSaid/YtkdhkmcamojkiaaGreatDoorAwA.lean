/- Examples of chapters: each is true, by the kernel (crc.Table being known). -/
import Derived.Test.YtkdhkmcamojkiaaGreatDoorKnown
import Derived.Test.YtkdhkmcamojkiaaGreatDoorHooks
import Derived.KernelRfl
namespace Go.Proofs.YtkdhkmcamojkiaaGreatDoor
open Go.Ev

theorem aw311 : saysTrue (run (tabsWith memo1 []) 10000 (.call 311 [] .leaf 0)) = true := by kernel_rfl
theorem aw415 : saysTrue (run (tabsWith memo1 []) 10000 (.call 415 [] .leaf 0)) = true := by kernel_rfl
theorem aw416 : saysTrue (run (tabsWith memo1 []) 10000 (.call 416 [] .leaf 0)) = true := by kernel_rfl
theorem aw312 : saysTrue (run (tabsWith memo1 []) 10000 (.call 312 [] .leaf 0)) = true := by kernel_rfl
theorem aw313 : saysTrue (run (tabsWith memo1 []) 10000 (.call 313 [] .leaf 0)) = true := by kernel_rfl

end Go.Proofs.YtkdhkmcamojkiaaGreatDoor
