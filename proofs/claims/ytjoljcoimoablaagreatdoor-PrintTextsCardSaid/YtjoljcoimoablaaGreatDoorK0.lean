/-
  PrintTexts: cases 0 to 0 of 5, reckoned by the kernel.
-/
import Derived.Test.YtjoljcoimoablaaGreatDoorA
namespace Go.Proofs.YtjoljcoimoablaaGreatDoor
open Go Go.Det
theorem case0 (x a b : Int) : okRes rs (execF X0 D0 99995 (rest x) (T8 x a b 0) (at7 x).2.2) = true := by kernel_rfl
end Go.Proofs.YtjoljcoimoablaaGreatDoor
