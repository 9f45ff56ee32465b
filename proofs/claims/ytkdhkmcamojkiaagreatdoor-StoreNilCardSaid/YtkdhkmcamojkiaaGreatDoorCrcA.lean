/- crc.Table, the first pieces of its run, by the kernel. -/
import Derived.Test.YtkdhkmcamojkiaaGreatDoorTable
import Derived.KernelRfl
namespace Go.Proofs.YtkdhkmcamojkiaaGreatDoor
open Go.Ev

theorem crc_r0 : run (tabsWith .leaf []) 10000 (.code none (sqL crcCode) 28 .leaf .leaf 0) = some (.out .normal crcTm0 crcHp0 1) := by kernel_rfl
theorem crc_r1 : run (tabsWith .leaf []) 10000 (.code none (sqL (sqR crcCode)) 28 crcTm0 crcHp0 1) = some (.out .normal crcTm1 crcHp1 2) := by kernel_rfl
theorem crc_r2 : run (tabsWith .leaf []) 10000 (.code none (sqL (sqL (sqR (sqR crcCode)))) 28 crcTm1 crcHp1 2) = some (.out .normal crcTm2 crcHp2 2) := by kernel_rfl
theorem crc_c0 : run (tabsWith .leaf []) 10000 (.loop none crcRound 6 28 crcTm2 crcHp2 2) = some (.out .normal crcTm3 crcHp3 2) := by kernel_rfl
theorem crc_c1 : run (tabsWith .leaf []) 10000 (.loop none crcRound 6 28 crcTm3 crcHp3 2) = some (.out .normal crcTm4 crcHp4 2) := by kernel_rfl

end Go.Proofs.YtkdhkmcamojkiaaGreatDoor
