/-
  A law's run: true comes back, step by step.
-/
import Derived.Test.YtjoljcoimoablaaGreatDoorZd31
namespace Go.Det
section
variable {ext : FuncId → Option (List Value → Heap → Option Value)} {D : FuncId → Option DFunc}

/-- The code's end: it goes on or returns, and its results are 'true'. -/
noncomputable def okRes (rs : List DRes) (r : Option (Ex × Tmps × Heap)) : Bool :=
  match r with
  | some (e, T, H) => (match e with
    | .exit _ => false
    | _ => (match resultsF T H rs with
      | some vs => (match vs with
        | v :: us => (match us with
          | [] => (match v with
            | .bool b => b
            | _ => false)
          | _ => false)
        | [] => false)
      | none => false))
  | none => false
theorem okRes_some {rs : List DRes} {r : Option (Ex × Tmps × Heap)} (h : okRes rs r = true) : ∃ e T H, r = some (e, T, H) ∧ (∀ i, e ≠ .exit i) ∧ resultsOf T H rs = some [.bool true] := by
  unfold okRes at h
  split at h
  · rename_i e T H
    split at h
    · cases h
    · rename_i hne
      split at h
      · rename_i vs hvs
        split at h
        · rename_i v us
          split at h
          · split at h
            · rename_i b
              subst h
              exact ⟨e, T, H, rfl, fun i hi => hne i hi, by rw [← resultsF_eq]; exact hvs⟩
            · cases h
          · cases h
        · cases h
      · cases h
  · cases h

/-- The rest of a body comes to 'true'. -/
def Ok (ext : FuncId → Option (List Value → Heap → Option Value)) (D : FuncId → Option DFunc) (N : Nat) (rs : List DRes) (c : DCode) (T : Tmps) (H : Heap) : Prop := okRes rs (execF ext D N c T H) = true

theorem Ok.call {N : Nat} {f : FuncId} {d : DFunc} {args : List Value} {H : Heap} (he : ext f = none) (hd : D f = some d) (h : Ok ext D N d.results d.body (PM.ofList args) H) : ∃ H', callF ext D N f args H = some (.bool true, H') := by
  unfold Ok at h
  rw [execF_eq] at h
  obtain ⟨e, T, H', h1, h2, h3⟩ := okRes_some h
  refine ⟨H', ?_⟩
  unfold callF
  simp only [he, hd, h1, h3]
  cases e with
  | exit i => exact absurd rfl (h2 i)
  | norm => rfl
  | ret => rfl

theorem Ok.seq {N : Nat} {rs : List DRes} {a b : DCode} {T T' : Tmps} {H H' : Heap} (h1 : execF ext D N a T H = some (.norm, T', H')) (h2 : Ok ext D N rs b T' H') : Ok ext D (N + 1) rs (.seq a b) T H := by
  unfold Ok at *
  have e : execF ext D (N + 1) (.seq a b) T H = (match execF ext D N a T H with
    | some (e, T', H') => (match e with
      | .norm => execF ext D N b T' H'
      | e => some (e, T', H'))
    | none => none) := rfl
  rw [e, h1]
  exact h2

/-- A region of sums of whole numbers, one by one. -/
theorem ops_nil {N : Nat} {T : Tmps} {H : Heap} : runOps (callF ext D N) [] T H = some (T, H) := rfl
theorem exec_of_ops {N : Nat} {os : List DOper} {T T' : Tmps} {H H' : Heap} (h : runOps (callF ext D N) os T H = some (T', H')) : execF ext D (N + 1) (.ops os) T H = some (.norm, T', H') := by
  rw [execF_eq, exec_ops, h]
theorem ops_cons {call : CallFn} {o : DOper} {os : List DOper} {T T' : Tmps} {H H' : Heap} {v : Value} {H1 : Heap} (hg : o.guard = none) (h1 : stepOp call T H H.next o.op = some (v, H1)) (h2 : runOps call os (putT T o.dst v) H1 = some (T', H')) : runOps call (o :: os) T H = some (T', H') := by
  simp only [runOps, hg, wantedT, h1]
  exact h2
theorem step_move {call : CallFn} {T : Tmps} {H : Heap} {id : Nat} {x : Operand} {v : Value} (h : ev T x = v) : stepOp call T H id (.move x) = some (v, H) := by
  simp [stepOp, evalOp, h]
theorem step_rem {call : CallFn} {T : Tmps} {H : Heap} {id : Nat} {t : TypeId} {x y : Operand} {k : IntKind} {a b : Int} (hx : ev T x = .int k a) (hy : ev T y = .int k b) (hb : b ≠ 0) : stepOp call T H id (.bin .rem t x y) = some (.int k (a.tmod b), H) := by
  simp [stepOp, evalOp, hx, hy, scalar, binOp, Op.intDiv, hb, pureOf, scalars, pure]
theorem step_add {call : CallFn} {T : Tmps} {H : Heap} {id : Nat} {t : TypeId} {x y : Operand} {k : IntKind} {a b : Int} (hx : ev T x = .int k a) (hy : ev T y = .int k b) : stepOp call T H id (.bin .add t x y) = some (.int k (k.wrap (a + b)), H) := by
  simp [stepOp, evalOp, hx, hy, scalar, binOp, Op.intArith, pureOf, scalars, pure]

/-- What remains, made to be from 0 on. -/
theorem rem_rem (x : Int) (m : Nat) (hm : 0 < m) (hM : m < 2 ^ 31) : ∃ j : Nat, j < m ∧ (IntKind.i64.wrap (x.tmod m + m)).tmod m = j := by
  have h1 : -(m : Int) < x.tmod m := by
    have := Int.lt_tmod_of_pos x (show (0 : Int) < m by omega)
    omega
  have h2 : x.tmod m < m := Int.tmod_lt_of_pos x (by omega)
  have h3 : IntKind.i64.wrap (x.tmod m + m) = x.tmod m + m := by
    generalize x.tmod m = r at *
    have e : r + m = Int.ofNat (r + m).toNat := (Int.toNat_of_nonneg (by omega)).symm
    rw [e]
    refine wrap_small .i64 _ ?_
    simp only [limOf]
    omega
  rw [h3]
  refine ⟨((x.tmod m + m).tmod m).toNat, ?_, ?_⟩
  · have h4 : (x.tmod m + m).tmod m < m := Int.tmod_lt_of_pos _ (by omega)
    have h5 : 0 ≤ (x.tmod m + m).tmod m := Int.tmod_nonneg _ (by omega)
    omega
  · have h5 : 0 ≤ (x.tmod m + m).tmod m := Int.tmod_nonneg _ (by omega)
    exact (Int.toNat_of_nonneg h5).symm
end
end Go.Det
