/-
  CompileErrors: cases 9 to 12 of 13, reckoned by the kernel.
-/
import Derived.Test.YtcghnbochnejoaaGreatDoorA
namespace Go.Proofs.YtcghnbochnejoaaGreatDoor
open Go Go.Det
theorem case9 (x a b : Int) : okRes rs (execF X0 D0 99993 (rest x) (T8 x a b 9) (at7 x).2.2) = true := by kernel_rfl
theorem case10 (x a b : Int) : okRes rs (execF X0 D0 99993 (rest x) (T8 x a b 10) (at7 x).2.2) = true := by kernel_rfl
theorem case11 (x a b : Int) : okRes rs (execF X0 D0 99993 (rest x) (T8 x a b 11) (at7 x).2.2) = true := by kernel_rfl
theorem case12 (x a b : Int) : okRes rs (execF X0 D0 99993 (rest x) (T8 x a b 12) (at7 x).2.2) = true := by kernel_rfl
end Go.Proofs.YtcghnbochnejoaaGreatDoor
