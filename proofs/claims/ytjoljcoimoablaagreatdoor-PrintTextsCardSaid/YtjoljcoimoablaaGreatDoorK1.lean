/-
  PrintTexts: cases 1 to 2 of 5, reckoned by the kernel.
-/
import Derived.Test.YtjoljcoimoablaaGreatDoorA
namespace Go.Proofs.YtjoljcoimoablaaGreatDoor
open Go Go.Det
theorem case1 (x a b : Int) : okRes rs (execF X0 D0 99995 (rest x) (T8 x a b 1) (at7 x).2.2) = true := by kernel_rfl
theorem case2 (x a b : Int) : okRes rs (execF X0 D0 99995 (rest x) (T8 x a b 2) (at7 x).2.2) = true := by kernel_rfl
end Go.Proofs.YtjoljcoimoablaaGreatDoor
