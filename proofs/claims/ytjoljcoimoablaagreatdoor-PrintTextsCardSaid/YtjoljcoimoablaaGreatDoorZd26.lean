/-
  The plain machine told so that the kernel reckons it quickly. Second part: operations.
-/
import Derived.Test.YtjoljcoimoablaaGreatDoorZd25
namespace Go.Det

def binG (op : BinOp) (t : TypeId) (a b : Value) : Option Value :=
  if scalar a && scalar b then (match pureOf (binOp op t a b) with
    | some u => if scalar u then some u else none
    | none => none) else none
theorem binG_eq (op : BinOp) (t : TypeId) (a b : Value) (H : Heap) : (if scalar a && scalar b then scalars (pureOf (binOp op t a b)) H else none) = (binG op t a b).map (·, H) := by
  unfold binG scalars
  split
  · cases pureOf (binOp op t a b) with
    | none => rfl
    | some u => simp only; split <;> rfl
  · rfl

def int2 (f : IntKind → Int → Int → Option Value) (k l : IntKind) (x y : Int) : Option Value :=
  match kindEqF k l with
  | true => f k x y
  | false => none
def pow2F (n : Nat) : Nat := Nat.pow 2 n
/-- What is worked out once: the kernel keeps what a closed one comes to. -/
structure Fn (α : Type) where
  run : α
noncomputable def binC : BinOp → TypeId → Fn (Value → Value → Option Value)
  | .add, t => ⟨fun a b => match a with
    | .int k x => (match b with
      | .int l y => int2 (fun k x y => some (.int k (wrapF k (addF x y)))) k l x y
      | b => binG .add t (.int k x) b)
    | .string s => (match b with
      | .string u => (match Nat.ble (Nat.add (sizeF s) (sizeF u)) 9223372036854775807 with
        | true => some (.string (concatF s u))
        | false => none)
      | b => binG .add t (.string s) b)
    | a => binG .add t a b⟩
  | .sub, t => ⟨fun a b => match a with
    | .int k x => (match b with
      | .int l y => int2 (fun k x y => some (.int k (wrapF k (subF x y)))) k l x y
      | b => binG .sub t (.int k x) b)
    | a => binG .sub t a b⟩
  | .mul, t => ⟨fun a b => match a with
    | .int k x => (match b with
      | .int l y => int2 (fun k x y => some (.int k (wrapF k (mulF x y)))) k l x y
      | b => binG .mul t (.int k x) b)
    | a => binG .mul t a b⟩
  | .lss, t => ⟨fun a b => match a with
    | .int k x => (match b with
      | .int l y => int2 (fun _ x y => some (.bool (ltF x y))) k l x y
      | b => binG .lss t (.int k x) b)
    | a => binG .lss t a b⟩
  | .leq, t => ⟨fun a b => match a with
    | .int k x => (match b with
      | .int l y => int2 (fun _ x y => some (.bool (leF x y))) k l x y
      | b => binG .leq t (.int k x) b)
    | a => binG .leq t a b⟩
  | .gtr, t => ⟨fun a b => match a with
    | .int k x => (match b with
      | .int l y => int2 (fun _ x y => some (.bool (ltF y x))) k l x y
      | b => binG .gtr t (.int k x) b)
    | a => binG .gtr t a b⟩
  | .geq, t => ⟨fun a b => match a with
    | .int k x => (match b with
      | .int l y => int2 (fun _ x y => some (.bool (leF y x))) k l x y
      | b => binG .geq t (.int k x) b)
    | a => binG .geq t a b⟩
  | .eql, t => ⟨fun a b => match a with
    | .int k x => (match b with
      | .int l y => int2 (fun _ x y => some (.bool (eqF x y))) k l x y
      | b => binG .eql t (.int k x) b)
    | .string s => (match b with
      | .string u => some (.bool (bytesEqF (strList s) (strList u)))
      | b => binG .eql t (.string s) b)
    | a => binG .eql t a b⟩
  | .neq, t => ⟨fun a b => match a with
    | .int k x => (match b with
      | .int l y => int2 (fun _ x y => some (.bool (!(eqF x y)))) k l x y
      | b => binG .neq t (.int k x) b)
    | .string s => (match b with
      | .string u => some (.bool (!(bytesEqF (strList s) (strList u))))
      | b => binG .neq t (.string s) b)
    | a => binG .neq t a b⟩
  | op, t => ⟨fun a b => binG op t a b⟩
noncomputable def binF (op : BinOp) (t : TypeId) : Value → Value → Option Value := (binC op t).run

theorem i64max : IntKind.i64.max = 9223372036854775807 := by decide
theorem int2_eq (op : BinOp) (t : TypeId) (g : IntKind → Int → Int → Option Value) (k l : IntKind) (x y : Int) (h : ∀ k x y, g k x y = binG op t (.int k x) (.int k y)) (hs : op ≠ .shl ∧ op ≠ .shr) : int2 g k l x y = binG op t (.int k x) (.int l y) := by
  unfold int2
  rw [kindEqF_eq]
  by_cases e : k = l
  · subst e
    simp only [decide_true]
    exact h k x y
  · simp only [e, decide_false]
    unfold binG
    cases op <;> simp [scalar, binOp, e, pureOf, stuck] at hs ⊢ <;> rfl
theorem binF_eq (op : BinOp) (t : TypeId) (a b : Value) : binF op t a b = binG op t a b := by
  cases op <;> first | rfl | skip
  all_goals (cases a <;> first | rfl | skip)
  all_goals (cases b <;> first | rfl | skip)
  all_goals simp only [binF, binC]
  all_goals first
    | (refine int2_eq _ t _ _ _ _ _ (fun k x y => ?_) ⟨by simp, by simp⟩
       simp [binG, scalar, binOp, pureOf, Op.intArith, Op.intCmp, pure, wrapF_eq, addF_eq, subF_eq, mulF_eq, ltF_eq, leF_eq, eqF_eq, bne]; done)
    | skip
  · rename_i s u
    have e : Nat.add (sizeF s) (sizeF u) = s.size + u.size := by rw [sizeF_eq, sizeF_eq]; rfl
    rw [e]
    simp only [binG, scalar, binOp, Op.stringOp, i64max, concatF_eq, Bool.and_self, if_true]
    by_cases h : s.size + u.size ≤ 9223372036854775807
    · have h1 : Nat.ble (s.size + u.size) 9223372036854775807 = true := by rw [Nat.ble_eq]; exact h
      rw [h1, if_neg (by omega)]
      rfl
    · have h1 : Nat.ble (s.size + u.size) 9223372036854775807 = false := by
        cases hb : Nat.ble (s.size + u.size) 9223372036854775807 with
        | false => rfl
        | true => rw [Nat.ble_eq] at hb; exact absurd hb h
      rw [h1, if_pos (by omega)]
      rfl
  · simp [binG, scalar, binOp, Op.stringOp, pureOf, pure, bytesEqF_eq, strList, ByteArray.toList_eq]
  · simp [binG, scalar, binOp, Op.stringOp, pureOf, pure, bytesEqF_eq, strList, ByteArray.toList_eq]
theorem binC_eq (op : BinOp) (t : TypeId) (a b : Value) : (binC op t).run a b = binG op t a b := binF_eq op t a b
end Go.Det
