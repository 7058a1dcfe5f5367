/-
  CompileErrors: cases 3 to 5 of 13, reckoned by the kernel.
-/
import Derived.Test.YtcghnbochnejoaaGreatDoorA
namespace Go.Proofs.YtcghnbochnejoaaGreatDoor
open Go Go.Det
theorem case3 (x a b : Int) : okRes rs (execF X0 D0 99993 (rest x) (T8 x a b 3) (at7 x).2.2) = true := by kernel_rfl
theorem case4 (x a b : Int) : okRes rs (execF X0 D0 99993 (rest x) (T8 x a b 4) (at7 x).2.2) = true := by kernel_rfl
theorem case5 (x a b : Int) : okRes rs (execF X0 D0 99993 (rest x) (T8 x a b 5) (at7 x).2.2) = true := by kernel_rfl
end Go.Proofs.YtcghnbochnejoaaGreatDoor
