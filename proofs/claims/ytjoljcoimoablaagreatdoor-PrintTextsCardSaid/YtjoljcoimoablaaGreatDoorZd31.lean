/-
  The place of a byte in a string: the one function without a body.
-/
import Derived.Test.YtjoljcoimoablaaGreatDoorZd30
import Derived.Laws.Externs
namespace Go.Det

noncomputable def firstF (c : UInt8) (l : List UInt8) : Nat → Int :=
  List.rec (motive := fun _ => Nat → Int) (fun _ => -1) (fun b _ ih i => Bool.rec (motive := fun _ => Int) (ih (Nat.succ i)) (Int.ofNat i) (byteEqF b c)) l

theorem firstF_find (s : ByteArray) (c : UInt8) : ∀ (l : List UInt8) (i : Nat), s.data.toList.drop i = l → firstF c l i = match (List.range' i l.length).find? fun j => s[j]! == c with
    | some j => (j : Int)
    | none => -1 := by
  intro l
  induction l with
  | nil => intro i _; rfl
  | cons b l ih =>
    intro i h
    have e : firstF c (b :: l) i = Bool.rec (motive := fun _ => Int) (firstF c l (i + 1)) (Int.ofNat i) (byteEqF b c) := rfl
    have hlt : i < s.data.toList.length := by
      rcases Nat.lt_or_ge i s.data.toList.length with h1 | h1
      · exact h1
      · rw [List.drop_eq_nil_of_le h1] at h; cases h
    have hb : s[i]! = b := by
      have h2 : s.data.toList[i]? = some b := by
        have := congrArg (fun x => x[0]?) h
        simpa using this
      have h3 : i < s.size := by simpa using hlt
      have h4 : s[i]! = s[i] := by simp [h3]
      rw [h4]
      have h5 : s.data.toList[i]? = some s.data.toList[i] := List.getElem?_eq_getElem hlt
      rw [h5] at h2
      exact Option.some.inj h2
    have hd : s.data.toList.drop (i + 1) = l := by
      rw [List.drop_eq_getElem_cons hlt] at h
      exact (List.cons.inj h).2
    rw [e, List.length_cons, List.range'_succ, List.find?_cons, hb, byteEqF_eq]
    cases hc : b == c with
    | true => rfl
    | false => exact ih (i + 1) hd
theorem firstF_eq (s : ByteArray) (c : UInt8) : firstF c (strList s) 0 = firstIdx s c := by
  have := firstF_find s c s.data.toList 0 (by simp)
  unfold strList
  rw [this]
  unfold firstIdx
  rw [List.range_eq_range']
  have e : s.data.toList.length = s.size := rfl
  rw [e]
  cases (List.range' 0 s.size).find? fun j => s[j]! == c <;> rfl

noncomputable def indexByteX : List Value → Heap → Option Value
  | a :: b :: [], _ => (match a with
    | .string s => (match b with
      | .int k c => (match k with
        | .u8 => some (.int .i64 (firstF c.toNat.toUInt8 (strList s) 0))
        | _ => none)
      | _ => none)
    | _ => none)
  | _, _ => none
theorem indexByteX_ok {P : Program} {f : FuncId} {fn : Func} (hf : P.funcs[f]? = some fn) (hname : (fn.name == "runtime.NumGoroutine") = false)
    (hb : fn.body.isNone = true) (hn : Extern.findNext fn = none) (he : Extern.find fn = some Extern.BytealgIndexByte.indexByte) {args : List Value} {H : Heap} {v : Value} (h : indexByteX args H = some v) {ρ : Inj} {w : World} {args' : Array Value} (hH : HeapRel ρ H w) (ha : VRL ρ args args'.toList) :
    Answers P f args' w fun v' w' => ∃ ρ', VR ρ' v v' ∧ Sim ρ H w ρ' H w' := by
  unfold indexByteX at h
  split at h
  · split at h
    · split at h
      · split at h
        · rename_i s _ c _
          cases h
          obtain ⟨y, ys, e1, h1, h2⟩ := ha.uncons
          obtain ⟨z, zs, e2, h3, h4⟩ := h2.uncons
          have e3 : zs = [] := List.length_eq_zero_iff.1 h4.1.symm
          subst e3; subst e2
          cases h1; cases h3
          have e4 : args' = #[.string s, .int .u8 c] := by
            cases args'; simp at e1; rw [e1]
          subst e4
          intro o a K Q hK
          rw [run_callFunc_extern hf hname hb hn he, run_indexByte_string]
          refine hK _ _ ⟨ρ, ?_, .refl hH⟩
          rw [firstF_eq]
          exact .int _ _
        · cases h
      · cases h
    · cases h
  · cases h
end Go.Det
