/-
  CompileErrors: cases 6 to 8 of 13, reckoned by the kernel.
-/
import Derived.Test.YtcghnbochnejoaaGreatDoorA
namespace Go.Proofs.YtcghnbochnejoaaGreatDoor
open Go Go.Det
theorem case6 (x a b : Int) : okRes rs (execF X0 D0 99993 (rest x) (T8 x a b 6) (at7 x).2.2) = true := by kernel_rfl
theorem case7 (x a b : Int) : okRes rs (execF X0 D0 99993 (rest x) (T8 x a b 7) (at7 x).2.2) = true := by kernel_rfl
theorem case8 (x a b : Int) : okRes rs (execF X0 D0 99993 (rest x) (T8 x a b 8) (at7 x).2.2) = true := by kernel_rfl
end Go.Proofs.YtcghnbochnejoaaGreatDoor
