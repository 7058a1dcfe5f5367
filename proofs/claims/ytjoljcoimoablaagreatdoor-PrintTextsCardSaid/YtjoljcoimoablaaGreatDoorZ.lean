/-
  PrintTexts returns true for every input, and its argument reads afterwards as it read before; the listed variables start as the program's text lays them.
  Conditions: none but those of the card (the listed package-level variables hold what the card ties to the program's text).
-/
import Derived.Test.YtjoljcoimoablaaGreatDoorJ
import Derived.Test.YtjoljcoimoablaaGreatDoorRows
import Derived.Test.YtjoljcoimoablaaGreatDoorTie
import Derived.Test.YtjoljcoimoablaaGreatDoorCards
import Derived.ProofKit
import Derived.LaidMore
import Derived.OpenShut
import Derived.Stop.Joined
import Derived.SevenTiedAt
import Derived.MakeChecks
import Derived.Lay
namespace Go.Proofs.YtjoljcoimoablaaGreatDoor
open Go Go.Det Go.ChangeShapes Go.WideShapes Go.ChangeAt Go.WideMaps Go.WideElems Go.RowKit

theorem own : ownKnob Tryz.prog.godebug = none := by kernel_rfl
theorem star : "*" ++ "errors.errorString" = "*errors.errorString" := by decide
theorem rowOf (u : TypeId) (h : Tryz.prog.typeName? 3 u = some "*errors.errorString") : u = 199 :=
  typeName_ptr_named (nm := "errors.errorString") (by rw [star]; kernel_rfl) (by kernel_rfl) (by decide) u (by rw [star]; exact h)
theorem errTypes : ErrTypes Tryz.prog 31 199 "*errors.errorString" := ⟨⟨_, Tryz.underlying31⟩, rowOf, ⟨_, _, _, Tryz.underlying199, Tryz.underlying201, rfl, rfl, Tryz.underlying9, by kernel_rfl, by kernel_rfl⟩⟩
def ys0 : List (Nat × Want) := [(8, .skip), (9, .skip), (5, .ints), (11, .skip), (7, .skip), (6, .skip), (1, .err 13), (0, .err 14), (3, .skip), (2, .ints), (10, .skip)]
theorem wants : ∃ ids, WantsOK Tryz.prog 31 199 "*errors.errorString" Rows.printTextsRow.laid ys0 ids ∧ ids = ids0 := by
  refine ⟨_, (.cons (.skip _ _) (.cons (.skip _ _) (.cons (.ints (t := 172) (e := 144) (k := .u64) (ns := tab5) (by kernel_rfl) (by kernel_rfl) (by kernel_rfl) (by kernel_rfl) (by kernel_rfl) (by kernel_rfl) (by decide) (by kernel_rfl)) (.cons (.skip _ _) (.cons (.skip _ _) (.cons (.skip _ _) (.cons (.err (by kernel_rfl) (by kernel_rfl) rfl) (.cons (.err (by kernel_rfl) (by kernel_rfl) rfl) (.cons (.skip _ _) (.cons (.ints (t := 140) (e := 5) (k := .u8) (ns := tab2) (by kernel_rfl) (by kernel_rfl) (by kernel_rfl) (by kernel_rfl) (by kernel_rfl) (by kernel_rfl) (by decide) (by kernel_rfl)) (.cons (.skip _ _) .nil))))))))))), ?_⟩
  kernel_rfl
theorem wants0 : WantsOK Tryz.prog 31 199 "*errors.errorString" Rows.printTextsRow.laid ys0 ids0 := by
  obtain ⟨ids, h, rfl⟩ := wants
  exact h
theorem gokAll : ∀ g ∈ [0, 1, 2, 5], (ys0.any fun y => Nat.beq y.1 g && (match y.2 with | .skip => false | _ => true)) = true := by decide
theorem start_of_row {W : World} (h : laidMetH Tryz.prog Rows.printTextsRow.laid W) : ∃ ρ : Inj, Go.Det.Start ρ H0 W ∧ Gok ρ G0 := by
  rw [MakeChecks.laidMetH_plain _ _ _ (by kernel_rfl)] at h
  obtain ⟨ρ, h1, h2⟩ := start_of_laidB errTypes wants0 (next := 15) (by kernel_rfl) (by kernel_rfl) h
  refine ⟨ρ, h1, fun g hg => h2 g (gokAll g ?_)⟩
  obtain ⟨x, hx, he⟩ := List.any_eq_true.1 hg
  have : g = x := by simpa using he
  rw [this]
  exact hx

theorem start_met (os : Os) (args : Array Value) : laidMetH Tryz.prog Rows.printTextsRow.laid ((World.laidAll Tryz.prog os Rows.printTextsRow.laid).forCall (fun _ _ => 0) ⟨#[], args, []⟩).memory := by
  rw [MakeChecks.laidMetH_plain _ _ _ (by kernel_rfl)]
  exact laidMet_laidAll _ (by kernel_rfl) (by kernel_rfl)

set_option maxRecDepth 100000 in
theorem lifted (os : Os) (started : os.Started) (H : Type) (enc : TypeId × Value → H) :
    ReturnsInHanded {} Tryz.checked os 3 .any (fun w args => (Rows.printTextsSpec.pre enc Tryz.prog Tryz.f3 [] false w args ∧ laidMetH Tryz.prog Rows.printTextsRow.laid w) ∧ sizedMet enc Tryz.prog Tryz.f3 (OpenSpec.ofChange Rows.printTextsSpec) false w args)
      (Rows.printTextsSpec.post enc Tryz.prog Tryz.f3 false true false false) := by
  refine returnsInHanded_of_change_and (C := Tryz.checked) (X := fun w _ => laidMetH Tryz.prog Rows.printTextsRow.laid w) (fun _ _ _ hh h => h.of_heap hh) own started (by kernel_rfl) Tryz.func3
    (ChangeSpec.witness_shaped (enc := enc) (C := Tryz.checked) (os := os) (X := fun w _ => laidMetH Tryz.prog Rows.printTextsRow.laid w) false (World.laidAll Tryz.prog os Rows.printTextsRow.laid) #[.int .i64 0] 8 (World.laidAll_os _ _ _) (World.shaped_of_ZipB (by kernel_rfl) (by kernel_rfl)) (by kernel_rfl) (by kernel_rfl) (by kernel_rfl) (start_met os _)) ?_
  intro W base args ds gs before hval0 hW _ _ hL _
  have hval : ∀ (j : Nat) t v, Tryz.f3.params[j]? = some t → args[j]? = some v → Value.okWide Tryz.prog W .any base t v := hval0
  have hW' := hW
  obtain ⟨p, q, hA0, hV, rfl, hfz, hnd⟩ := hW
  have hA : DataW.TrodAll enc Tryz.prog W 0 (fun _ => true) true Tryz.f3.params.toList args.toList ds p := hA0
  rw [Tryz.params3] at hA hval
  obtain ⟨v0, d0, rfl, rfl, h0⟩ := trodAll_one hA
  obtain ⟨rfl, rfl⟩ := trodVars_none hV
  obtain ⟨x, rfl, rfl, rfl, wx⟩ := open_int Tryz.underlying3 (hval 0 3 v0 rfl rfl) h0
  obtain ⟨ρ, hs, hg⟩ := start_of_row hL
  clear hA0 hval0
  simp only [List.append_nil] at hW'
  refine (walk x hs hg).mono fun e W' ⟨he, hk⟩ => ?_
  subst he
  exact ⟨_, rfl, post_of_kept hW' (fun _ _ _ => trodAll_mk1 (shut_bool Tryz.underlying4 _)) (fun _ => trodAll_mk1 (shut_int Tryz.underlying3 wx)) (fun _ => rfl) hk (ok_one (by kernel_rfl) rfl (okWide_bool_mk Tryz.underlying4 _))⟩

theorem row_holds : Rows.PrintTextsSaid :=
  OpenClaim.holds_of_wide 3 Tryz.f3 rfl rfl rfl rfl rfl rfl rfl ⟨rfl, rfl, rfl, rfl, rfl⟩ rfl rfl rfl rfl rfl (by kernel_rfl) Tryz.func3 (by kernel_rfl)
    (of_decide_eq_true (by kernel_rfl)) (by unfold Func.isWrapper; first | (rw [if_pos (by decide +kernel)]; kernel_rfl) | (rw [if_neg (by decide +kernel)]; exact ⟨rfl, rfl⟩))
    (fun os started H enc _ => lifted os started H enc)
theorem printTexts_holds : Rows.PrintTextsCardSaid :=
  Claim7.holds_tied_plain_at .later [] [.data, .data, .data, .data, .sentinel, .sentinel, .sentinel, .sentinel, .listed, .data, .pinned] true (true, "5f074aa611240643063d22464224e9b14b41edef0090fff90809998d1ae20e96") true
    row_holds (fun _ h => by cases h) (by kernel_rfl) (fun _ h => by cases h) printTexts_row_tie rfl ⟨rfl, rfl⟩ (by kernel_rfl) rfl
    (fun f fn hf hfn => by
      obtain rfl : f = 3 := Option.some.inj ((show Tryz.prog.funcNamed "glyphic/glyphiclaw11.PrintTexts" = some 3 by kernel_rfl).symm.trans hf) |>.symm
      obtain rfl : fn = Tryz.f3 := (Option.some.inj (Tryz.func3.symm.trans hfn)).symm
      exact ⟨by kernel_rfl, fun j t ht => by
        rw [Tryz.params3] at ht
        have hm : t ∈ [3] := by simpa using Array.mem_of_getElem? ht
        have hall : ([3].all fun u => !Tryz.prog.wantsStandIn u) = true := by kernel_rfl
        exact (show Tryz.prog.wantsStandIn t = false by simpa using List.all_eq_true.1 hall t hm)⟩)
    (by kernel_rfl)
#print axioms printTexts_holds
end Go.Proofs.YtjoljcoimoablaaGreatDoor
