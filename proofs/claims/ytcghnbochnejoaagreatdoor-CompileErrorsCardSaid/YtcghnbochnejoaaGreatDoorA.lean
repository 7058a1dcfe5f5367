/-
  CompileErrors over this seat: the plain machine's tables, the start, the first parts of the law's body, the region that reckons which case it is.
-/
import Derived.Test.YtcghnbochnejoaaGreatDoorProg
import Derived.Test.YtcghnbochnejoaaGreatDoorZd36
import Derived.KernelRfl
namespace Go.Proofs.YtcghnbochnejoaaGreatDoor
open Go Go.Det

def spaceNs : List Int := [0, 0, 0, 0, 0, 0, 0, 0, 0, 1, 1, 1, 1, 1, 0, 0, 0, 0, 0, 0, 0, 0, 0, 0, 0, 0, 0, 0, 0, 0, 0, 0, 1, 0, 0, 0, 0, 0, 0, 0, 0, 0, 0, 0, 0, 0, 0, 0, 0, 0, 0, 0, 0, 0, 0, 0, 0, 0, 0, 0, 0, 0, 0, 0, 0, 0, 0, 0, 0, 0, 0, 0, 0, 0, 0, 0, 0, 0, 0, 0, 0, 0, 0, 0, 0, 0, 0, 0, 0, 0, 0, 0, 0, 0, 0, 0, 0, 0, 0, 0, 0, 0, 0, 0, 0, 0, 0, 0, 0, 0, 0, 0, 0, 0, 0, 0, 0, 0, 0, 0, 0, 0, 0, 0, 0, 0, 0, 0, 0, 0, 0, 0, 0, 0, 0, 0, 0, 0, 0, 0, 0, 0, 0, 0, 0, 0, 0, 0, 0, 0, 0, 0, 0, 0, 0, 0, 0, 0, 0, 0, 0, 0, 0, 0, 0, 0, 0, 0, 0, 0, 0, 0, 0, 0, 0, 0, 0, 0, 0, 0, 0, 0, 0, 0, 0, 0, 0, 0, 0, 0, 0, 0, 0, 0, 0, 0, 0, 0, 0, 0, 0, 0, 0, 0, 0, 0, 0, 0, 0, 0, 0, 0, 0, 0, 0, 0, 0, 0, 0, 0, 0, 0, 0, 0, 0, 0, 0, 0, 0, 0, 0, 0, 0, 0, 0, 0, 0, 0, 0, 0, 0, 0, 0, 0, 0, 0, 0, 0, 0, 0, 0, 0, 0, 0, 0, 0]
noncomputable def G0 : Nat → Bool := fun g => Nat.ble g 13
noncomputable def D0 : FuncId → Option DFunc := tableOf Tryz.prog G0 [272]
noncomputable def X0 : FuncId → Option (List Value → Heap → Option Value) := extOf 105
noncomputable def ids0 : List (Nat × List Value) := [(2, [.iface 272 (.pointer (some ⟨24, 0, none⟩))]),
  (24, [.string ⟨⟨[110, 111, 116, 32, 97, 115, 32, 105, 116, 32, 105, 115, 32, 119, 114, 105, 116, 116, 101, 110]⟩⟩]),
  (3, [.iface 272 (.pointer (some ⟨25, 0, none⟩))]),
  (25, [.string ⟨⟨[97, 32, 110, 97, 109, 101, 32, 116, 104, 97, 116, 32, 105, 115, 32, 110, 111, 98, 111, 100, 121, 39, 115]⟩⟩]),
  (4, [.iface 272 (.pointer (some ⟨26, 0, none⟩))]),
  (26, [.string ⟨⟨[97, 32, 110, 97, 109, 101, 32, 116, 119, 105, 99, 101]⟩⟩]),
  (5, [.iface 272 (.pointer (some ⟨27, 0, none⟩))]),
  (27, [.string ⟨⟨[115, 116, 101, 112, 115, 32, 116, 104, 97, 116, 32, 97, 114, 101, 32, 110, 111, 32, 112, 97, 116, 104]⟩⟩]),
  (0, [.iface 272 (.pointer (some ⟨28, 0, none⟩))]),
  (28, [.string ⟨⟨[97, 32, 110, 117, 109, 98, 101, 114, 32, 111, 117, 116, 32, 111, 102, 32, 105, 116, 115, 32, 114, 97, 110, 103, 101]⟩⟩]),
  (1, [.iface 272 (.pointer (some ⟨29, 0, none⟩))]),
  (29, [.string ⟨⟨[109, 111, 114, 101, 32, 116, 104, 97, 110, 32, 109, 97, 121, 32, 98, 101]⟩⟩]),
  (6, [.iface 272 (.pointer (some ⟨30, 0, none⟩))]),
  (30, [.string ⟨⟨[108, 101, 115, 115, 32, 116, 104, 97, 110, 32, 104, 97, 115, 32, 116, 111, 32, 98, 101]⟩⟩]),
  (7, [.iface 272 (.pointer (some ⟨31, 0, none⟩))]),
  (31, [.string ⟨⟨[110, 111, 116, 32, 97, 110, 32, 105, 99, 111, 110]⟩⟩]),
  (8, [.iface 272 (.pointer (some ⟨32, 0, none⟩))]),
  (32, [.string ⟨⟨[97, 32, 110, 117, 109, 98, 101, 114, 32, 116, 104, 97, 116, 32, 105, 115, 32, 110, 111, 116, 32, 119, 114, 105, 116, 116, 101, 110, 32, 115, 104, 111, 114, 116, 108, 121]⟩⟩]),
  (9, [.iface 272 (.pointer (some ⟨33, 0, none⟩))]),
  (33, [.string ⟨⟨[110, 111, 116, 32, 116, 104, 101, 32, 111, 110, 101, 32, 102, 111, 114, 109]⟩⟩]),
  (10, [.iface 272 (.pointer (some ⟨34, 0, none⟩))]),
  (34, [.string ⟨⟨[98, 121, 116, 101, 115, 32, 98, 101, 104, 105, 110, 100, 32, 116, 104, 101, 32, 101, 110, 100]⟩⟩]),
  (11, [.iface 272 (.pointer (some ⟨35, 0, none⟩))]),
  (35, [.string ⟨⟨[97, 32, 119, 105, 100, 116, 104, 32, 116, 104, 97, 116, 32, 99, 97, 110, 39, 116, 32, 98, 101]⟩⟩]),
  (12, [.iface 272 (.pointer (some ⟨36, 0, none⟩))]),
  (36, [.string ⟨⟨[109, 111, 114, 101, 32, 101, 100, 103, 101, 115, 32, 116, 104, 97, 110, 32, 109, 97, 121, 32, 98, 101]⟩⟩]),
  (13, spaceNs.map fun m => .int .u8 m)]
noncomputable def H0 : Heap := entHeap ids0 37
noncomputable def body : DCode := match D0 3 with
  | some d => d.body
  | none => .fail
noncomputable def rs : List DRes := match D0 3 with
  | some d => d.results
  | none => []
theorem law_some : (D0 3).isSome = true := by kernel_rfl
theorem law_is : ∃ d, D0 3 = some d ∧ d.results = rs ∧ d.body = body := by
  have h := law_some
  unfold rs body
  cases hd : D0 3 with
  | none => rw [hd] at h; cases h
  | some d => exact ⟨d, rfl, rfl, rfl⟩
theorem env0 : Env Tryz.prog G0 [272] X0 D0 := env_of (by kernel_rfl) (by kernel_rfl) (by kernel_rfl) Tryz.func105 (by kernel_rfl) (by kernel_rfl) (by kernel_rfl)

noncomputable def pre (x : Int) : Option (DCode × Tmps × Heap) := runPre X0 D0 100000 6 body (PM.ofList [.int .i64 x]) H0
theorem pre_some (x : Int) : (pre x).isSome = true := by kernel_rfl
noncomputable def at7 (x : Int) : DCode × Tmps × Heap := (pre x).get (pre_some x)
theorem pre_is (x : Int) : runPre X0 D0 (99994 + 6) 6 body (PM.ofList [.int .i64 x]) H0 = some (at7 x) := (Option.some_get (pre_some x)).symm
theorem tmp0 (x : Int) : ev (at7 x).2.1 (.tmp 0) = .int .i64 x := by kernel_rfl
noncomputable def rest (x : Int) : DCode := match (at7 x).1 with
  | .seq _ b => b
  | _ => .fail
def isSlice (n : Nat) : Value → Bool
  | .slice _ m _ => Nat.beq m n
  | _ => false
theorem tmp4 (x : Int) : isSlice 13 (ev (at7 x).2.1 (.tmp 4)) = true := by kernel_rfl
def reckonOps : List DOper := [⟨some 16, .move (.tmp 0), none⟩, ⟨some 17, .move (.tmp 4), none⟩, ⟨some 18, .lenOf false (.tmp 17), none⟩, ⟨some 19, .bin .rem 3 (.tmp 16) (.tmp 18), none⟩, ⟨some 20, .move (.tmp 4), none⟩, ⟨some 21, .lenOf false (.tmp 20), none⟩, ⟨some 22, .bin .add 3 (.tmp 19) (.tmp 21), none⟩, ⟨some 23, .move (.tmp 4), none⟩, ⟨some 24, .lenOf false (.tmp 23), none⟩, ⟨some 25, .bin .rem 3 (.tmp 22) (.tmp 24), none⟩, ⟨some 7, .move (.tmp 25), none⟩]
theorem code7 (x : Int) : (at7 x).1 = .seq (.ops reckonOps) (rest x) := by kernel_rfl
noncomputable def T8 (x a b : Int) (j : Nat) : Tmps :=
  let T := (at7 x).2.1
  let s := ev T (.tmp 4)
  putT (putT (putT (putT (putT (putT (putT (putT (putT (putT (putT T (some 16) (.int .i64 x)) (some 17) s) (some 18) (.int .i64 13)) (some 19) (.int .i64 a)) (some 20) s) (some 21) (.int .i64 13)) (some 22) (.int .i64 b)) (some 23) s) (some 24) (.int .i64 13)) (some 25) (.int .i64 (Int.ofNat j))) (some 7) (.int .i64 (Int.ofNat j))
theorem reckon (x : Int) : ∃ (a b : Int) (j : Nat), j < 13 ∧ runOps (callF X0 D0 99992) reckonOps (at7 x).2.1 (at7 x).2.2 = some (T8 x a b j, (at7 x).2.2) := by
  obtain ⟨j, hj, hm⟩ := rem_rem x 13 (by decide) (by decide)
  have h0 := tmp0 x
  have h4 : ∃ p c, ev (at7 x).2.1 (.tmp 4) = .slice p 13 c := by
    have := tmp4 x
    unfold isSlice at this
    split at this
    · rename_i p m c e
      rw [Nat.beq_eq] at this
      subst this
      exact ⟨p, c, e⟩
    · cases this
  obtain ⟨p, c, h4⟩ := h4
  refine ⟨x.tmod 13, IntKind.i64.wrap (x.tmod 13 + 13), j, hj, ?_⟩
  unfold T8 reckonOps
  simp only
  generalize (at7 x).2.1 = T at *
  generalize (at7 x).2.2 = H at *
  rw [h4]
  have g : ∀ (T : Tmps) (d : Tmp) (v : Value) (t : Tmp), ev (putT T (some d) v) (.tmp t) = if d = t then v else ev T (.tmp t) := fun T d v t => by
    simp only [ev, putT, PM.get_set]
    split <;> simp
  refine ops_cons rfl (step_move h0) ?_
  refine ops_cons rfl (step_move (v := .slice p 13 c) (by simp [g, h4])) ?_
  refine ops_cons rfl (step_len (b := p) (n := 13) (c := c) (by simp [g])) ?_
  refine ops_cons rfl (step_rem (k := .i64) (a := x) (b := 13) (by simp [g]) (by simp [g]) (by decide)) ?_
  refine ops_cons rfl (step_move (v := .slice p 13 c) (by simp [g, h4])) ?_
  refine ops_cons rfl (step_len (b := p) (n := 13) (c := c) (by simp [g])) ?_
  refine ops_cons rfl (step_add (k := .i64) (a := x.tmod 13) (b := 13) (by simp [g]) (by simp [g])) ?_
  refine ops_cons rfl (step_move (v := .slice p 13 c) (by simp [g, h4])) ?_
  refine ops_cons rfl (step_len (b := p) (n := 13) (c := c) (by simp [g])) ?_
  refine ops_cons rfl (step_rem (k := .i64) (a := IntKind.i64.wrap (x.tmod 13 + 13)) (b := 13) (by simp [g]) (by simp [g]) (by decide)) ?_
  refine ops_cons rfl (step_move (v := .int .i64 (Int.ofNat j)) (by simp [g]; exact hm)) ?_
  simp only [runOps]
  rw [show (IntKind.i64.wrap (x.tmod 13 + 13)).tmod 13 = Int.ofNat j from hm]
  rfl
end Go.Proofs.YtcghnbochnejoaaGreatDoor
