/-
  The tables that a law's run asks for, out of closed facts.
-/
import Derived.Test.YtjoljcoimoablaaGreatDoorZd33
namespace Go.Det

def eqTypesB (P : Program) (E : List TypeId) : Bool := E.all fun t => match P.underlying t with
  | some (.pointer e) => (match P.info? t, P.info? e with
    | some i, some q => i.comparable && q.size != 0
    | _, _ => false)
  | _ => false
theorem eqTypes_of {P : Program} {E : List TypeId} (h : eqTypesB P E = true) : EqTypes P E := by
  intro t ht
  have := List.all_eq_true.1 h t ht
  split at this
  · rename_i e he
    split at this
    · rename_i i q hi hq
      simp only [Bool.and_eq_true, bne_iff_ne] at this
      exact ⟨e, i, q, he, hi, this.1, hq, this.2⟩
    · cases this
  · cases this

noncomputable def tableOf (P : Program) (G : Nat → Bool) (E : List TypeId) : FuncId → Option DFunc := fun f => match P.funcs[f]? with
  | some fn => convFunc P G E fn
  | none => none
noncomputable def extOf (k : FuncId) : FuncId → Option (List Value → Heap → Option Value) := fun f => match Nat.beq f k with
  | true => some indexByteX
  | false => none

theorem env_of {P : Program} {G : Nat → Bool} {E : List TypeId} {k : FuncId} {fn : Func} (hd : P.follows .mixedOrders = true) (he : eqTypesB P E = true) (hn : (P.funcs.toList.all fun f => !(f.name == "runtime.NumGoroutine")) = true)
    (hk : P.funcs[k]? = some fn) (hb : fn.body.isNone = true) (hx : Extern.findNext fn = none) (hy : Extern.find fn = some Extern.BytealgIndexByte.indexByte) : Env P G E (extOf k) (tableOf P G E) := by
  have name : ∀ (f : Nat) (g : Func), P.funcs[f]? = some g → (g.name == "runtime.NumGoroutine") = false := fun f g h => by
    have := List.all_eq_true.1 hn g (by simpa using Array.mem_of_getElem? h)
    simpa using this
  refine ⟨hd, eqTypes_of he, fun f d _ h => ?_, fun f g h args H v hg ρ w args' hH ha _ => ?_⟩
  · unfold tableOf at h
    split at h
    · rename_i g hf
      exact ⟨g, hf, name f g hf, h⟩
    · cases h
  · unfold extOf at h
    split at h
    · rename_i e
      have : f = k := by rw [Nat.beq_eq] at e; exact e
      subst this
      cases h
      exact indexByteX_ok hk (name f fn hk) hb hx hy hg hH ha
    · cases h
end Go.Det
