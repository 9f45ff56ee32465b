/- Closed facts of the row, by the kernel: whether it calls itself; the variables that it names. -/
import Derived.Test.YtkdhkmcamojkiaaGreatDoorRows
import Derived.JoinedOf
import Derived.SevenTiedAt
import Derived.KernelRfl
namespace Go.Proofs.YtkdhkmcamojkiaaGreatDoor

theorem fact11 : ((Rows.storeNilRow.recurses == Tryz.pinned.checked.prog.recurses 3)) = true := by kernel_rfl
theorem fact12 : ((Rows.storeNilRow.named == Tryz.pinned.checked.prog.varsNamed 3)) = true := by kernel_rfl

end Go.Proofs.YtkdhkmcamojkiaaGreatDoor
