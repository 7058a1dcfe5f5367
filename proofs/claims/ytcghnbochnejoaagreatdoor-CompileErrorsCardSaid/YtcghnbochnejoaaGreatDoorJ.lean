/-
  CompileErrors: the call returns true, whatever its argument, and leaves what was there as it was.
-/
import Derived.Test.YtcghnbochnejoaaGreatDoorK0
import Derived.Test.YtcghnbochnejoaaGreatDoorK1
import Derived.Test.YtcghnbochnejoaaGreatDoorK2
import Derived.Test.YtcghnbochnejoaaGreatDoorK3
namespace Go.Proofs.YtcghnbochnejoaaGreatDoor
open Go Go.Det

theorem cases (x a b : Int) : ∀ j, j < 13 → okRes rs (execF X0 D0 99993 (rest x) (T8 x a b j) (at7 x).2.2) = true
  | 0, _ => case0 x a b
  | 1, _ => case1 x a b
  | 2, _ => case2 x a b
  | 3, _ => case3 x a b
  | 4, _ => case4 x a b
  | 5, _ => case5 x a b
  | 6, _ => case6 x a b
  | 7, _ => case7 x a b
  | 8, _ => case8 x a b
  | 9, _ => case9 x a b
  | 10, _ => case10 x a b
  | 11, _ => case11 x a b
  | 12, _ => case12 x a b
  | n + 13, h => absurd h (by omega)
theorem body_ok (x : Int) : Ok X0 D0 100000 rs body (PM.ofList [.int .i64 x]) H0 := by
  have h : runPre X0 D0 (99994 + 6) 6 body (PM.ofList [.int .i64 x]) H0 = some ((at7 x).1, (at7 x).2.1, (at7 x).2.2) := by rw [pre_is x]
  have e : 100000 = 99994 + 6 := by decide
  rw [e]
  refine Ok.pre h ?_
  rw [code7]
  obtain ⟨a, b, j, hj, hr⟩ := reckon x
  exact Ok.seq (exec_of_ops hr) (cases x a b j hj)
theorem ext_none : X0 3 = none := by kernel_rfl
theorem run_ok (x : Int) : ∃ H', callF X0 D0 100000 3 [.int .i64 x] H0 = some (.bool true, H') := by
  obtain ⟨d, h1, h2, h3⟩ := law_is
  refine Ok.call (d := d) ext_none h1 ?_
  rw [h2, h3]
  exact body_ok x
/-- What the law finds: true, and all that was there as it was. -/
theorem walk (x : Int) {ρ : Inj} {W : World} (hs : Go.Det.Start ρ H0 W) (hg : Gok ρ G0) : Calls Tryz.prog 3 #[.int .i64 x] W fun e W' => e = .returned (.bool true) ∧ Kept W W' := by
  obtain ⟨H', h⟩ := run_ok x
  have hargs : VRL ρ [.int .i64 x] (#[.int .i64 x] : Array Value).toList := .cons (.int _ _) (.nil _)
  refine (real_calls env0 ext_none h hs.rel hargs hg).mono ?_
  rintro e W' ⟨v', rfl, ρ', hv, hsim⟩
  cases hv
  exact ⟨rfl, hs.kept hsim⟩
end Go.Proofs.YtcghnbochnejoaaGreatDoor
