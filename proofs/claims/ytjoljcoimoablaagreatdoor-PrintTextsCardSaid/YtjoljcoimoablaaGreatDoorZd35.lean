/-
  The first so many parts of a body, run; the rest.
-/
import Derived.Test.YtjoljcoimoablaaGreatDoorZd34
namespace Go.Det
section
variable (ext : FuncId → Option (List Value → Heap → Option Value)) (D : FuncId → Option DFunc)

noncomputable def runPre : Nat → Nat → DCode → Tmps → Heap → Option (DCode × Tmps × Heap)
  | _, 0, c, T, H => some (c, T, H)
  | 0, _ + 1, _, _, _ => none
  | N + 1, k + 1, c, T, H => (match c with
    | .seq a b => (match execF ext D N a T H with
      | some (e, T', H') => (match e with
        | .norm => runPre N k b T' H'
        | _ => none)
      | none => none)
    | _ => none)
end
variable {ext : FuncId → Option (List Value → Heap → Option Value)} {D : FuncId → Option DFunc}
theorem Ok.pre {rs : List DRes} {c' : DCode} {T' : Tmps} {H' : Heap} : ∀ {k N : Nat} {c : DCode} {T : Tmps} {H : Heap}, runPre ext D (N + k) k c T H = some (c', T', H') → Ok ext D N rs c' T' H' → Ok ext D (N + k) rs c T H := by
  intro k
  induction k with
  | zero =>
    intro N c T H h h2
    have : runPre ext D (N + 0) 0 c T H = some (c, T, H) := by cases N <;> rfl
    rw [this] at h
    cases h
    exact h2
  | succ k ih =>
    intro N c T H h h2
    have e : N + (k + 1) = (N + k) + 1 := by omega
    rw [e] at h ⊢
    simp only [runPre] at h
    split at h
    · rename_i a b
      cases hx : execF ext D (N + k) a T H with
      | none => rw [hx] at h; cases h
      | some q =>
        obtain ⟨x, T1, H1⟩ := q
        rw [hx] at h
        cases x with
        | norm => exact Ok.seq hx (ih h h2)
        | exit i => cases h
        | ret => cases h
    · cases h

/-- The length of a slice. -/
theorem step_len {call : CallFn} {T : Tmps} {H : Heap} {id : Nat} {x : Operand} {b : Option Addr} {n c : Nat} (h : ev T x = .slice b n c) : stepOp call T H id (.lenOf false x) = some (.int .i64 n, H) := by
  simp [stepOp, evalOp, h]
end Go.Det
