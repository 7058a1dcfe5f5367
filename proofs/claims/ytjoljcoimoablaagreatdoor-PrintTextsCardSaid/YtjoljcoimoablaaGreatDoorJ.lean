/-
  PrintTexts: the call returns true, whatever its argument, and leaves what was there as it was.
-/
import Derived.Test.YtjoljcoimoablaaGreatDoorK0
import Derived.Test.YtjoljcoimoablaaGreatDoorK1
import Derived.Test.YtjoljcoimoablaaGreatDoorK2
import Derived.Test.YtjoljcoimoablaaGreatDoorK3
import Derived.Test.YtjoljcoimoablaaGreatDoorShelf
namespace Go.Proofs.YtjoljcoimoablaaGreatDoor
open Go Go.Det

theorem ext93 : ExtOK Tryz.prog G0 93 indexByteX := by
  refine @indexByteX_extOK Tryz.prog G0 93 Tryz.f93 Tryz.func93 ?_ ?_ ?_ ?_
  all_goals kernel_rfl
theorem ext21 : ExtOK Tryz.prog G0 21 joinX := by
  refine @joinX_ok Tryz.prog G0 Tryz.lays156_ren 21 Tryz.f21 Tryz.lays156 Tryz.Builder_Extra_156 ?_ Tryz.func21 ?_ ?_
  all_goals kernel_rfl
theorem ext87 : ExtOK Tryz.prog G0 87 repeatX := by
  refine @repeatX_ok Tryz.prog G0 Tryz.lays105_ren 87 Tryz.f87 Tryz.lays105 Tryz.Builder_Extra_105 ?_ Tryz.func87 ?_ ?_
  all_goals kernel_rfl
theorem env0 : Env Tryz.prog G0 [] X0 D0 := by
  refine env_ofL (by kernel_rfl) (by kernel_rfl) (by kernel_rfl) (fun p hp => ?_)
  rcases List.mem_cons.1 hp with rfl | hp
  · exact @ext93
  rcases List.mem_cons.1 hp with rfl | hp
  · exact @ext21
  rcases List.mem_cons.1 hp with rfl | hp
  · exact @ext87
  simp at hp
theorem cases (x a b : Int) : ∀ j, j < 5 → okRes rs (execF X0 D0 99995 (rest x) (T8 x a b j) (at7 x).2.2) = true
  | 0, _ => case0 x a b
  | 1, _ => case1 x a b
  | 2, _ => case2 x a b
  | 3, _ => case3 x a b
  | 4, _ => case4 x a b
  | n + 5, h => absurd h (by omega)
theorem body_ok (x : Int) : Ok X0 D0 100000 rs body (PM.ofList [.int .i64 x]) H0 := by
  have h : runPre X0 D0 (99996 + 4) 4 body (PM.ofList [.int .i64 x]) H0 = some ((at7 x).1, (at7 x).2.1, (at7 x).2.2) := by rw [pre_is x]
  have e : 100000 = 99996 + 4 := by decide
  rw [e]
  refine Ok.pre h ?_
  rw [code7]
  obtain ⟨a, b, j, hj, hr⟩ := reckon x
  exact Ok.seq (exec_of_ops hr) (cases x a b j hj)
theorem ext_none : X0 3 = none := by kernel_rfl
theorem run_ok (x : Int) : ∃ H', callF X0 D0 100000 3 [.int .i64 x] H0 = some (.bool true, H') := by
  obtain ⟨d, h1, h2, h3⟩ := law_is
  refine Ok.call (d := d) ext_none h1 ?_
  rw [h2, h3]
  exact body_ok x
/-- What the law finds: true, and all that was there as it was. -/
theorem walk (x : Int) {ρ : Inj} {W : World} (hs : Go.Det.Start ρ H0 W) (hg : Gok ρ G0) : Calls Tryz.prog 3 #[.int .i64 x] W fun e W' => e = .returned (.bool true) ∧ Kept W W' := by
  obtain ⟨H', h⟩ := run_ok x
  have hargs : VRL ρ [.int .i64 x] (#[.int .i64 x] : Array Value).toList := .cons (.int _ _) (.nil _)
  refine (real_calls env0 ext_none h hs.rel hargs hg).mono ?_
  rintro e W' ⟨v', rfl, ρ', hv, hsim⟩
  cases hv
  exact ⟨rfl, hs.kept hsim⟩
end Go.Proofs.YtjoljcoimoablaaGreatDoor
