/-
  PrintTexts: cases 4 to 4 of 5, reckoned by the kernel.
-/
import Derived.Test.YtjoljcoimoablaaGreatDoorA
namespace Go.Proofs.YtjoljcoimoablaaGreatDoor
open Go Go.Det
theorem case4 (x a b : Int) : okRes rs (execF X0 D0 99995 (rest x) (T8 x a b 4) (at7 x).2.2) = true := by kernel_rfl
end Go.Proofs.YtjoljcoimoablaaGreatDoor
