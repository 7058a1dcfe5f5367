/-
  CompileErrors returns true for every input, and its argument reads afterwards as it read before; the listed variables start as the program's text lays them.
  Conditions: none but those of the card (the listed package-level variables hold what the card ties to the program's text).
-/
import Derived.Test.YtcghnbochnejoaaGreatDoorJ
import Derived.Test.YtcghnbochnejoaaGreatDoorRows
import Derived.Test.YtcghnbochnejoaaGreatDoorTie
import Derived.Test.YtcghnbochnejoaaGreatDoorCards
import Derived.ProofKit
import Derived.LaidMore
import Derived.OpenShut
import Derived.Stop.Joined
import Derived.SevenTiedAt
import Derived.MakeChecks
import Derived.Test.YtcghnbochnejoaaGreatDoorZd37
namespace Go.Proofs.YtcghnbochnejoaaGreatDoor
open Go Go.Det Go.ChangeShapes Go.WideShapes Go.ChangeAt Go.WideMaps Go.WideElems Go.RowKit

theorem own : ownKnob Tryz.prog.godebug = none := by kernel_rfl
theorem star : "*" ++ "errors.errorString" = "*errors.errorString" := by decide
theorem rowOf (u : TypeId) (h : Tryz.prog.typeName? 3 u = some "*errors.errorString") : u = 272 :=
  typeName_ptr_named (nm := "errors.errorString") (by rw [star]; kernel_rfl) (by kernel_rfl) (by decide) u (by rw [star]; exact h)
theorem errTypes : ErrTypes Tryz.prog 30 272 "*errors.errorString" := ⟨⟨_, Tryz.underlying30⟩, rowOf, ⟨_, _, _, Tryz.underlying272, Tryz.underlying274, rfl, rfl, Tryz.underlying9, by kernel_rfl, by kernel_rfl⟩⟩
def ys0 : List (Nat × Want) := [(21, .skip), (22, .skip), (20, .skip), (17, .skip), (16, .skip), (2, .err 24), (3, .err 25), (4, .err 26), (5, .err 27), (0, .err 28), (1, .err 29), (6, .err 30), (7, .err 31), (8, .err 32), (9, .err 33), (10, .err 34), (11, .err 35), (12, .err 36), (14, .skip), (13, .ints)]
theorem wants : ∃ ids, WantsOK Tryz.prog 30 272 "*errors.errorString" Rows.compileErrorsRow.laid ys0 ids ∧ ids = ids0 := by
  refine ⟨_, (.cons (.skip _ _) (.cons (.skip _ _) (.cons (.skip _ _) (.cons (.skip _ _) (.cons (.skip _ _) (.cons (.err (by kernel_rfl) (by kernel_rfl) rfl) (.cons (.err (by kernel_rfl) (by kernel_rfl) rfl) (.cons (.err (by kernel_rfl) (by kernel_rfl) rfl) (.cons (.err (by kernel_rfl) (by kernel_rfl) rfl) (.cons (.err (by kernel_rfl) (by kernel_rfl) rfl) (.cons (.err (by kernel_rfl) (by kernel_rfl) rfl) (.cons (.err (by kernel_rfl) (by kernel_rfl) rfl) (.cons (.err (by kernel_rfl) (by kernel_rfl) rfl) (.cons (.err (by kernel_rfl) (by kernel_rfl) rfl) (.cons (.err (by kernel_rfl) (by kernel_rfl) rfl) (.cons (.err (by kernel_rfl) (by kernel_rfl) rfl) (.cons (.err (by kernel_rfl) (by kernel_rfl) rfl) (.cons (.err (by kernel_rfl) (by kernel_rfl) rfl) (.cons (.skip _ _) (.cons (.ints (t := 205) (e := 5) (k := .u8) (ns := spaceNs) (by kernel_rfl) (by kernel_rfl) (by kernel_rfl) (by kernel_rfl) (by kernel_rfl) (by kernel_rfl) (by decide) (by kernel_rfl)) .nil)))))))))))))))))))), ?_⟩
  kernel_rfl
theorem wants0 : WantsOK Tryz.prog 30 272 "*errors.errorString" Rows.compileErrorsRow.laid ys0 ids0 := by
  obtain ⟨ids, h, rfl⟩ := wants
  exact h
theorem gokAll : ∀ g, g < 13 + 1 → (ys0.any fun y => Nat.beq y.1 g && (match y.2 with | .skip => false | _ => true)) = true := by decide
theorem start_of_row {W : World} (h : laidMetH Tryz.prog Rows.compileErrorsRow.laid W) : ∃ ρ : Inj, Go.Det.Start ρ H0 W ∧ Gok ρ G0 := by
  rw [MakeChecks.laidMetH_plain _ _ _ (by kernel_rfl)] at h
  obtain ⟨ρ, h1, h2⟩ := start_of_laidB errTypes wants0 (next := 37) (by kernel_rfl) (by kernel_rfl) h
  exact ⟨ρ, h1, fun g hg => h2 g (gokAll g (Nat.lt_succ_of_le (Nat.le_of_ble_eq_true hg)))⟩

theorem door_met (os : Os) (args : Array Value) : laidMetH Tryz.prog Rows.compileErrorsRow.laid ((World.doorLaid Tryz.prog 400 os).forCall (fun _ _ => 0) ⟨#[], args, []⟩).memory :=
  laidMetH_of_parts3 (fuel := 8) (laidMet_of_run' 8 (by kernel_rfl) (by kernel_rfl)) (by kernel_rfl) (by kernel_rfl)

set_option maxRecDepth 100000 in
theorem lifted (os : Os) (started : os.Started) (H : Type) (enc : TypeId × Value → H) :
    ReturnsInHanded {} Tryz.checked os 3 .any (fun w args => (Rows.compileErrorsSpec.pre enc Tryz.prog Tryz.f3 [] false w args ∧ laidMetH Tryz.prog Rows.compileErrorsRow.laid w) ∧ sizedMet enc Tryz.prog Tryz.f3 (OpenSpec.ofChange Rows.compileErrorsSpec) false w args)
      (Rows.compileErrorsSpec.post enc Tryz.prog Tryz.f3 false true false false) := by
  refine returnsInHanded_of_change_and (C := Tryz.checked) (X := fun w _ => laidMetH Tryz.prog Rows.compileErrorsRow.laid w) (fun _ _ _ hh h => h.of_heap hh) own started (by kernel_rfl) Tryz.func3
    (ChangeSpec.witness_shaped (enc := enc) (C := Tryz.checked) (os := os) (X := fun w _ => laidMetH Tryz.prog Rows.compileErrorsRow.laid w) false (World.doorLaid Tryz.prog 400 os) #[.int .i64 0] 8 rfl (World.shaped_of_RefB (by kernel_rfl) (by kernel_rfl)) (by kernel_rfl) (by kernel_rfl) (by kernel_rfl) (door_met os _)) ?_
  intro W base args ds gs before hval0 hW _ _ hL _
  have hval : ∀ (j : Nat) t v, Tryz.f3.params[j]? = some t → args[j]? = some v → Value.okWide Tryz.prog W .any base t v := hval0
  have hW' := hW
  obtain ⟨p, q, hA0, hV, rfl, hfz, hnd⟩ := hW
  have hA : DataW.TrodAll enc Tryz.prog W 0 (fun _ => true) true Tryz.f3.params.toList args.toList ds p := hA0
  rw [Tryz.params3] at hA hval
  obtain ⟨v0, d0, rfl, rfl, h0⟩ := trodAll_one hA
  obtain ⟨rfl, rfl⟩ := trodVars_none hV
  obtain ⟨x, rfl, rfl, rfl, wx⟩ := open_int Tryz.underlying3 (hval 0 3 v0 rfl rfl) h0
  obtain ⟨ρ, hs, hg⟩ := start_of_row hL
  clear hA0 hval0
  simp only [List.append_nil] at hW'
  refine (walk x hs hg).mono fun e W' ⟨he, hk⟩ => ?_
  subst he
  exact ⟨_, rfl, post_of_kept hW' (fun _ _ _ => trodAll_mk1 (shut_bool Tryz.underlying4 _)) (fun _ => trodAll_mk1 (shut_int Tryz.underlying3 wx)) (fun _ => rfl) hk (ok_one (by kernel_rfl) rfl (okWide_bool_mk Tryz.underlying4 _))⟩

theorem row_holds : Rows.CompileErrorsSaid :=
  OpenClaim.holds_of_wide 3 Tryz.f3 rfl rfl rfl rfl rfl rfl rfl ⟨rfl, rfl, rfl, rfl, rfl⟩ rfl rfl rfl rfl rfl (by kernel_rfl) Tryz.func3 (by kernel_rfl)
    (of_decide_eq_true (by kernel_rfl)) (by unfold Func.isWrapper; first | (rw [if_pos (by decide +kernel)]; kernel_rfl) | (rw [if_neg (by decide +kernel)]; exact ⟨rfl, rfl⟩))
    (fun os started H enc _ => lifted os started H enc)
theorem compileErrors_holds : Rows.CompileErrorsCardSaid :=
  Claim7.holds_tied_plain_at .later [] [.data, .data, .data, .sentinel, .sentinel, .sentinel, .sentinel, .sentinel, .sentinel, .sentinel, .sentinel, .sentinel, .sentinel, .sentinel, .sentinel, .sentinel, .sentinel, .sentinel, .listed, .data] true (true, "a7d20adb1d10cfa8e2ac50c40656b1dda60d9d9e9b35b2e4eb7caa91882641fb") true
    row_holds (fun _ h => by cases h) (by kernel_rfl) (fun _ h => by cases h) compileErrors_row_tie rfl ⟨rfl, rfl⟩ (by kernel_rfl) rfl
    (fun f fn hf hfn => by
      obtain rfl : f = 3 := Option.some.inj ((show Tryz.prog.funcNamed "glyphic/glyphiclaw18.CompileErrors" = some 3 by kernel_rfl).symm.trans hf) |>.symm
      obtain rfl : fn = Tryz.f3 := (Option.some.inj (Tryz.func3.symm.trans hfn)).symm
      exact ⟨by kernel_rfl, fun j t ht => by
        rw [Tryz.params3] at ht
        have hm : t ∈ [3] := by simpa using Array.mem_of_getElem? ht
        have hall : ([3].all fun u => !Tryz.prog.wantsStandIn u) = true := by kernel_rfl
        exact (show Tryz.prog.wantsStandIn t = false by simpa using List.all_eq_true.1 hall t hm)⟩)
    (by kernel_rfl)
#print axioms compileErrors_holds
end Go.Proofs.YtcghnbochnejoaaGreatDoor
