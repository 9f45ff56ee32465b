/- crc.Table, the later pieces of its run, by the kernel. -/
import Derived.Test.YtkdhkmcamojkiaaGreatDoorTable
import Derived.KernelRfl
namespace Go.Proofs.YtkdhkmcamojkiaaGreatDoor
open Go.Ev

theorem crc_c2 : run (tabsWith .leaf []) 10000 (.loop none crcRound 6 28 crcTm4 crcHp4 2) = some (.out .normal crcTm5 crcHp5 2) := by kernel_rfl
theorem crc_c3 : run (tabsWith .leaf []) 10000 (.loop none crcRound 6 28 crcTm5 crcHp5 2) = some (.out .normal crcTm6 crcHp6 2) := by kernel_rfl
theorem crc_end : run (tabsWith .leaf []) 10000 (.loop none crcRound 0 28 crcTm6 crcHp6 2) = some (.out (.exit 0) crcTm7 crcHp7 2) := by kernel_rfl
theorem crc_rest : run (tabsWith .leaf []) 10000 (.code none (sqR (sqR (sqR crcCode))) 28 crcTm7 crcHp7 2) = some (.out .ret crcTm8 crcHp8 2) := by kernel_rfl
theorem crc_res : readRes (tabsWith .leaf []) crcTm8 crcHp8 Tryz.f411.results.toList = some [crcTable] := by kernel_rfl
theorem crc_code : crcCode = .seq (sqL crcCode) (.seq (sqL (sqR crcCode)) (.seq (.seq (sqL (sqL (sqR (sqR crcCode)))) (.block 0 (.loop crcRound))) (sqR (sqR (sqR crcCode))))) := by kernel_rfl
theorem crc_body : Tryz.f411.body = some crcCode := by kernel_rfl
theorem crc_nth : nth (tabsWith .leaf []).funcs 411 = some Tryz.f411 := by kernel_rfl

end Go.Proofs.YtkdhkmcamojkiaaGreatDoor
