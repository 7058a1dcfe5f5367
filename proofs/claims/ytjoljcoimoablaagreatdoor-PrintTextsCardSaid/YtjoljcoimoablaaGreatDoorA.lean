/-
  PrintTexts over this seat: the plain machine's tables, the start, the first parts of the law's body, the region that reckons which case it is.
-/
import Derived.Test.YtjoljcoimoablaaGreatDoorProg
import Derived.Test.YtjoljcoimoablaaGreatDoorZd38
import Derived.KernelRfl
namespace Go.Proofs.YtjoljcoimoablaaGreatDoor
open Go Go.Det

def tab5 : List Int := [1, 10, 100, 1000, 10000, 100000, 1000000, 10000000, 100000000, 1000000000, 10000000000, 100000000000, 1000000000000, 10000000000000, 100000000000000, 1000000000000000, 10000000000000000, 100000000000000000, 1000000000000000000, 10000000000000000000]
def tab2 : List Int := [0, 0, 0, 0, 0, 0, 0, 0, 0, 1, 1, 1, 1, 1, 0, 0, 0, 0, 0, 0, 0, 0, 0, 0, 0, 0, 0, 0, 0, 0, 0, 0, 1, 0, 0, 0, 0, 0, 0, 0, 0, 0, 0, 0, 0, 0, 0, 0, 0, 0, 0, 0, 0, 0, 0, 0, 0, 0, 0, 0, 0, 0, 0, 0, 0, 0, 0, 0, 0, 0, 0, 0, 0, 0, 0, 0, 0, 0, 0, 0, 0, 0, 0, 0, 0, 0, 0, 0, 0, 0, 0, 0, 0, 0, 0, 0, 0, 0, 0, 0, 0, 0, 0, 0, 0, 0, 0, 0, 0, 0, 0, 0, 0, 0, 0, 0, 0, 0, 0, 0, 0, 0, 0, 0, 0, 0, 0, 0, 0, 0, 0, 0, 0, 0, 0, 0, 0, 0, 0, 0, 0, 0, 0, 0, 0, 0, 0, 0, 0, 0, 0, 0, 0, 0, 0, 0, 0, 0, 0, 0, 0, 0, 0, 0, 0, 0, 0, 0, 0, 0, 0, 0, 0, 0, 0, 0, 0, 0, 0, 0, 0, 0, 0, 0, 0, 0, 0, 0, 0, 0, 0, 0, 0, 0, 0, 0, 0, 0, 0, 0, 0, 0, 0, 0, 0, 0, 0, 0, 0, 0, 0, 0, 0, 0, 0, 0, 0, 0, 0, 0, 0, 0, 0, 0, 0, 0, 0, 0, 0, 0, 0, 0, 0, 0, 0, 0, 0, 0, 0, 0, 0, 0, 0, 0, 0, 0, 0, 0, 0, 0, 0, 0, 0, 0, 0, 0]
noncomputable def G0 : Nat → Bool := fun g => [0, 1, 2, 5].any (Nat.beq g)
noncomputable def D0 : FuncId → Option DFunc := tableOf Tryz.prog G0 []
noncomputable def X0 : FuncId → Option (List Value → Heap → Option Value) := extL [(93, indexByteX), (21, joinX), (87, repeatX)]
noncomputable def ids0 : List (Nat × List Value) := [(5, tab5.map fun m => .int .u64 m),
  (1, [.iface 199 (.pointer (some ⟨13, 0, none⟩))]),
  (13, [.string ⟨⟨[110, 111, 116, 32, 97, 115, 32, 105, 116, 32, 105, 115, 32, 119, 114, 105, 116, 116, 101, 110]⟩⟩]),
  (0, [.iface 199 (.pointer (some ⟨14, 0, none⟩))]),
  (14, [.string ⟨⟨[109, 111, 114, 101, 32, 116, 104, 97, 110, 32, 109, 97, 121, 32, 98, 101]⟩⟩]),
  (2, tab2.map fun m => .int .u8 m)]
noncomputable def H0 : Heap := entHeap ids0 15
noncomputable def body : DCode := match D0 3 with
  | some d => d.body
  | none => .fail
noncomputable def rs : List DRes := match D0 3 with
  | some d => d.results
  | none => []
theorem law_some : (D0 3).isSome = true := by kernel_rfl
theorem law_is : ∃ d, D0 3 = some d ∧ d.results = rs ∧ d.body = body := by
  have h := law_some
  unfold rs body
  cases hd : D0 3 with
  | none => rw [hd] at h; cases h
  | some d => exact ⟨d, rfl, rfl, rfl⟩
noncomputable def pre (x : Int) : Option (DCode × Tmps × Heap) := runPre X0 D0 100000 4 body (PM.ofList [.int .i64 x]) H0
theorem pre_some (x : Int) : (pre x).isSome = true := by kernel_rfl
noncomputable def at7 (x : Int) : DCode × Tmps × Heap := (pre x).get (pre_some x)
theorem pre_is (x : Int) : runPre X0 D0 (99996 + 4) 4 body (PM.ofList [.int .i64 x]) H0 = some (at7 x) := (Option.some_get (pre_some x)).symm
theorem tmp0 (x : Int) : ev (at7 x).2.1 (.tmp 0) = .int .i64 x := by kernel_rfl
noncomputable def rest (x : Int) : DCode := match (at7 x).1 with
  | .seq _ b => b
  | _ => .fail
def isSlice (n : Nat) : Value → Bool
  | .slice _ m _ => Nat.beq m n
  | _ => false
theorem tmp4 (x : Int) : isSlice 5 (ev (at7 x).2.1 (.tmp 4)) = true := by kernel_rfl
def reckonOps : List DOper := [⟨some 14, .move (.tmp 0), none⟩, ⟨some 15, .move (.tmp 4), none⟩, ⟨some 16, .lenOf false (.tmp 15), none⟩, ⟨some 17, .bin .rem 3 (.tmp 14) (.tmp 16), none⟩, ⟨some 18, .move (.tmp 4), none⟩, ⟨some 19, .lenOf false (.tmp 18), none⟩, ⟨some 20, .bin .add 3 (.tmp 17) (.tmp 19), none⟩, ⟨some 21, .move (.tmp 4), none⟩, ⟨some 22, .lenOf false (.tmp 21), none⟩, ⟨some 23, .bin .rem 3 (.tmp 20) (.tmp 22), none⟩, ⟨some 5, .move (.tmp 23), none⟩]
theorem code7 (x : Int) : (at7 x).1 = .seq (.ops reckonOps) (rest x) := by kernel_rfl
noncomputable def T8 (x a b : Int) (j : Nat) : Tmps :=
  let T := (at7 x).2.1
  let s := ev T (.tmp 4)
  (putT (putT (putT (putT (putT (putT (putT (putT (putT (putT (putT T (some 14) (.int .i64 x)) (some 15) s) (some 16) (.int .i64 5)) (some 17) (.int .i64 a)) (some 18) s) (some 19) (.int .i64 5)) (some 20) (.int .i64 b)) (some 21) s) (some 22) (.int .i64 5)) (some 23) (.int .i64 (Int.ofNat j))) (some 5) (.int .i64 (Int.ofNat j)))
theorem reckon (x : Int) : ∃ (a b : Int) (j : Nat), j < 5 ∧ runOps (callF X0 D0 99994) reckonOps (at7 x).2.1 (at7 x).2.2 = some (T8 x a b j, (at7 x).2.2) := by
  obtain ⟨j, hj, hm⟩ := rem_rem x 5 (by decide) (by decide)
  have h0 := tmp0 x
  have h4 : ∃ p c, ev (at7 x).2.1 (.tmp 4) = .slice p 5 c := by
    have := tmp4 x
    unfold isSlice at this
    split at this
    · rename_i p m c e
      rw [Nat.beq_eq] at this
      subst this
      exact ⟨p, c, e⟩
    · cases this
  obtain ⟨p, c, h4⟩ := h4
  refine ⟨x.tmod 5, IntKind.i64.wrap (x.tmod 5 + 5), j, hj, ?_⟩
  unfold T8 reckonOps
  simp only
  generalize (at7 x).2.1 = T at *
  generalize (at7 x).2.2 = H at *
  rw [h4]
  have g : ∀ (T : Tmps) (d : Tmp) (v : Value) (t : Tmp), ev (putT T (some d) v) (.tmp t) = if d = t then v else ev T (.tmp t) := fun T d v t => by
    simp only [ev, putT, PM.get_set]
    split <;> simp
  refine ops_cons rfl (step_move (v := .int .i64 x) h0) ?_
  refine ops_cons rfl (step_move (v := .slice p 5 c) (by simp [g, h4])) ?_
  refine ops_cons rfl (step_len (b := p) (n := 5) (c := c) (by simp [g])) ?_
  refine ops_cons rfl (step_rem (k := .i64) (a := x) (b := 5) (by simp [g]) (by simp [g]) (by decide)) ?_
  refine ops_cons rfl (step_move (v := .slice p 5 c) (by simp [g, h4])) ?_
  refine ops_cons rfl (step_len (b := p) (n := 5) (c := c) (by simp [g])) ?_
  refine ops_cons rfl (step_add (k := .i64) (a := x.tmod 5) (b := 5) (by simp [g]) (by simp [g])) ?_
  refine ops_cons rfl (step_move (v := .slice p 5 c) (by simp [g, h4])) ?_
  refine ops_cons rfl (step_len (b := p) (n := 5) (c := c) (by simp [g])) ?_
  refine ops_cons rfl (step_rem (k := .i64) (a := IntKind.i64.wrap (x.tmod 5 + 5)) (b := 5) (by simp [g]) (by simp [g]) (by decide)) ?_
  refine ops_cons rfl (step_move (v := .int .i64 (Int.ofNat j)) (by simp [g]; exact hm)) ?_
  simp only [runOps]
  rw [show (IntKind.i64.wrap (x.tmod 5 + 5)).tmod 5 = Int.ofNat j from hm]
  rfl
end Go.Proofs.YtjoljcoimoablaaGreatDoor
