/- Closed facts of the row, by the kernel: the functions in place; calls otherwise than by a plain name. -/
import Derived.Test.YtkdhkmcamojkiaaGreatDoorRows
import Derived.JoinedOf
import Derived.SevenTiedAt
import Derived.KernelRfl
namespace Go.Proofs.YtkdhkmcamojkiaaGreatDoor

theorem fact9 : ((Rows.storeNilRow.inPlace == Tryz.pinned.checked.prog.inPlace 3)) = true := by kernel_rfl
theorem fact10 : ((Rows.storeNilRow.unfollowed == Tryz.pinned.checked.prog.unfollowed 3)) = true := by kernel_rfl

end Go.Proofs.YtkdhkmcamojkiaaGreatDoor
