/- A closed fact of the card, by the kernel: the call can come to a text that starts a goroutine. -/
import Derived.Test.YtkdhkmcamojkiaaGreatDoorRows
import Derived.JoinedOf
import Derived.SevenTiedAt
import Derived.KernelRfl
namespace Go.Proofs.YtkdhkmcamojkiaaGreatDoor

theorem goesFact : Tryz.pinned.checked.prog.goes 3 = true := by kernel_rfl

end Go.Proofs.YtkdhkmcamojkiaaGreatDoor
