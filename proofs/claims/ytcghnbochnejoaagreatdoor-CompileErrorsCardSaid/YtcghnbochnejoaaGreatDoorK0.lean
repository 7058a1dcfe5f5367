/-
  CompileErrors: cases 0 to 2 of 13, reckoned by the kernel.
-/
import Derived.Test.YtcghnbochnejoaaGreatDoorA
namespace Go.Proofs.YtcghnbochnejoaaGreatDoor
open Go Go.Det
theorem case0 (x a b : Int) : okRes rs (execF X0 D0 99993 (rest x) (T8 x a b 0) (at7 x).2.2) = true := by kernel_rfl
theorem case1 (x a b : Int) : okRes rs (execF X0 D0 99993 (rest x) (T8 x a b 1) (at7 x).2.2) = true := by kernel_rfl
theorem case2 (x a b : Int) : okRes rs (execF X0 D0 99993 (rest x) (T8 x a b 2) (at7 x).2.2) = true := by kernel_rfl
end Go.Proofs.YtcghnbochnejoaaGreatDoor
