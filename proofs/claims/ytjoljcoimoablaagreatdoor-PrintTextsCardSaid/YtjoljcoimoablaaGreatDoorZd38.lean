/-
  Functions that are told by a contract: what it says of a call, the plain machine takes.
-/
import Derived.Test.YtjoljcoimoablaaGreatDoorZd37
import Derived.Shelf.Strings.OnBuilder
import Derived.Shelf.Strings.Repeat
namespace Go.Det
open Go.Shelf Go.Proofs Go.RowKit
variable {ρ : Inj} {H : Heap} {w w' : World} {P : Program}

theorem HeapRel.of_below (h : HeapRel ρ H w) (hb : Below w.heap.size w w') : HeapRel ρ H w' :=
  { h with
    blk := fun k B I h1 h2 => (h.blk k B I h1 h2).of_heap (hb.block _ (h.img_lt h2))
    mp := fun k es r h1 h2 => by rw [hb.block _ (h.map_lt h2)]; exact h.mp k es r h1 h2 }
theorem Sim.below (h : HeapRel ρ H w) (hb : Below w.heap.size w w') : Sim ρ H w ρ H w' :=
  { Sim.refl h with rel := h.of_below hb, os := hb.os, tape := hb.tape, output := hb.output, keep := fun r hr _ => hb.block r hr, size := hb.size }

/-- What is taken of a function: its answers are those. -/
def ExtOK (P : Program) (G : Nat → Bool) (f : FuncId) (g : List Value → Heap → Option Value) : Prop :=
  ∀ args H v, g args H = some v → ∀ ρ w (args' : Array Value), HeapRel ρ H w → VRL ρ args args'.toList → Gok ρ G → Answers P f args' w fun v' w' => ∃ ρ', VR ρ' v v' ∧ Sim ρ H w ρ' H w'

theorem answers_below {f : FuncId} {fn : Func} {args' : Array Value} {v v' : Value} (hf : P.funcs[f]? = some fn) (hb : fn.body.isSome = true) (hn : (fn.name == "runtime.NumGoroutine") = false) (hH : HeapRel ρ H w) (hv : VR ρ v v')
    (h : Calls P f args' w fun e w' => e = .returned v' ∧ Below w.heap.size w w') : Answers P f args' w fun v' w' => ∃ ρ', VR ρ' v v' ∧ Sim ρ H w ρ' H w' :=
  Answers.of_calls hf hb hn (h.mono fun _ _ ⟨he, hw⟩ => ⟨v', he, ρ, hv, .below hH hw⟩)

/-! ### A table of such functions -/
noncomputable def extL (l : List (FuncId × (List Value → Heap → Option Value))) : FuncId → Option (List Value → Heap → Option Value) := fun f =>
  List.rec (motive := fun _ => Option (List Value → Heap → Option Value)) none (fun p _ ih => Bool.rec (motive := fun _ => Option (List Value → Heap → Option Value)) ih (some p.2) (Nat.beq f p.1)) l
theorem extL_mem {l : List (FuncId × (List Value → Heap → Option Value))} {f : FuncId} {g : List Value → Heap → Option Value} (h : extL l f = some g) : (f, g) ∈ l := by
  induction l with
  | nil => cases h
  | cons p l ih =>
    have e : extL (p :: l) f = Bool.rec (motive := fun _ => Option (List Value → Heap → Option Value)) (extL l f) (some p.2) (Nat.beq f p.1) := rfl
    rw [e] at h
    cases hb : Nat.beq f p.1 with
    | false => rw [hb] at h; exact List.mem_cons_of_mem _ (ih h)
    | true =>
      rw [hb] at h
      cases h
      have : f = p.1 := by rw [Nat.beq_eq] at hb; exact hb
      subst this
      exact List.mem_cons_self
theorem env_ofL {G : Nat → Bool} {E : List TypeId} {l : List (FuncId × (List Value → Heap → Option Value))} (hd : P.follows .mixedOrders = true) (he : eqTypesB P E = true) (hn : (P.funcs.toList.all fun f => !(f.name == "runtime.NumGoroutine")) = true)
    (hl : ∀ p ∈ l, ExtOK P G p.1 p.2) : Env P G E (extL l) (tableOf P G E) := by
  refine ⟨hd, eqTypes_of he, fun f d _ h => ?_, fun f g h args H v hg ρ w args' hH ha hG => ?_⟩
  · unfold tableOf at h
    split at h
    · rename_i g hf
      refine ⟨g, hf, ?_, h⟩
      have := List.all_eq_true.1 hn g (by simpa using Array.mem_of_getElem? hf)
      simpa using this
    · cases h
  · exact hl (f, g) (extL_mem h) args H v hg ρ w args' hH ha hG
theorem indexByteX_extOK {G : Nat → Bool} {f : FuncId} {fn : Func} (hf : P.funcs[f]? = some fn) (hname : (fn.name == "runtime.NumGoroutine") = false)
    (hb : fn.body.isNone = true) (hn : Extern.findNext fn = none) (he : Extern.find fn = some Extern.BytealgIndexByte.indexByte) : ExtOK P G f indexByteX :=
  fun _ _ _ h _ _ _ hH ha _ => indexByteX_ok hf hname hb hn he h hH ha

/-! ### strings.Join, strings.Repeat -/
def stringsOf : List Value → Option (List ByteArray)
  | [] => some []
  | v :: vs => (match v with
    | .string s => (match stringsOf vs with
      | some l => some (s :: l)
      | none => none)
    | _ => none)
theorem stringsOf_eq : ∀ {vs : List Value} {xs : List ByteArray}, stringsOf vs = some xs → vs = xs.map .string := by
  intro vs
  induction vs with
  | nil => intro xs h; cases h; rfl
  | cons v vs ih =>
    intro xs h
    simp only [stringsOf] at h
    split at h
    · split at h
      · rename_i l hl
        cases h
        rw [ih hl]; rfl
      · cases h
    · cases h

theorem args_two {x y : Value} {args' : Array Value} (ha : VRL ρ [x, y] args'.toList) : ∃ x' y', args' = #[x', y'] ∧ VR ρ x x' ∧ VR ρ y y' := by
  obtain ⟨x', ys, e1, h1, h2⟩ := ha.uncons
  obtain ⟨y', zs, e2, h3, h4⟩ := h2.uncons
  have e3 : zs = [] := List.length_eq_zero_iff.1 h4.1.symm
  subst e3; subst e2
  exact ⟨x', y', by cases args'; simp at e1; rw [e1], h1, h3⟩

noncomputable def joinOf (xs : List ByteArray) (sep : ByteArray) : List UInt8 := Lib.join (xs.map (·.data.toList)) sep.data.toList
noncomputable def joinV (n : Nat) (sep : ByteArray) (vs : List Value) : Option Value :=
  match stringsOf vs with
  | some xs => (match Nat.beq (lenF xs) n && Nat.ble n 1000000 && Nat.ble (lenF (joinOf xs sep)) 1000000000 with
    | true => some (.string ⟨⟨joinOf xs sep⟩⟩)
    | false => none)
  | none => none
noncomputable def joinX (args : List Value) (H : Heap) : Option Value :=
  match args with
  | [.slice a n c, .string sep] => (match H.elems 1 n (.slice a n c) with
    | some vs => joinV n sep vs
    | none => none)
  | _ => none
theorem joinV_some {n : Nat} {sep : ByteArray} {vs : List Value} {v : Value} (h : joinV n sep vs = some v) : ∃ xs : List ByteArray, vs = xs.map .string ∧ xs.length = n ∧ n ≤ 1000000 ∧ (joinOf xs sep).length ≤ 1000000000 ∧ v = .string ⟨⟨joinOf xs sep⟩⟩ := by
  unfold joinV at h
  split at h
  · rename_i xs hx
    split at h
    · rename_i hb
      cases h
      simp only [Bool.and_eq_true, Nat.beq_eq, Nat.ble_eq, lenF_eq] at hb
      exact ⟨xs, stringsOf_eq hx, hb.1.1, hb.1.2, hb.2, rfl⟩
    · cases h
  · cases h

theorem joinX_ok {G : Nat → Bool} {ren : Ren} {f : FuncId} {fn : Func} (L : Lays.n156 P ren) (X : Builder.Extra P ren) (hren : ren.f 156 = f) (hf : P.funcs[f]? = some fn) (hb : fn.body.isSome = true) (hn : (fn.name == "runtime.NumGoroutine") = false) : ExtOK P G f joinX := by
  intro args H v h ρ w args' hH ha _
  unfold joinX at h
  split at h
  · rename_i a n c sep
    split at h
    · rename_i vs hvs
      obtain ⟨xs, rfl, hlen, hn6, hl9, rfl⟩ := joinV_some h
      obtain ⟨x', y', rfl, hx, hy⟩ := args_two ha
      cases hy
      refine answers_below hf hb hn hH (.string _) ?_
      subst hren
      have none0 : ∀ (b : Option Addr) (c' : Nat), n = 0 → Calls P (ren.f 156) #[.slice b n c', .string sep] w fun e w' => e = .returned (.string ⟨⟨joinOf xs sep⟩⟩) ∧ Below w.heap.size w w' := fun b c' h0 => by
        subst h0
        have : xs = [] := List.length_eq_zero_iff.1 hlen
        subst this
        exact (Any.strings_Join_none L X b c' sep w).mono fun e w' ⟨he, hw⟩ => ⟨by rw [he]; rfl, hw ▸ Below.refl _ _⟩
      cases hx with
      | slice0 =>
        refine none0 _ _ ?_
        simp only [Heap.elems, Option.some.injEq] at hvs
        have : xs = [] := by simpa using hvs.symm
        rw [← hlen, this]; rfl
      | void => exact none0 _ _ rfl
      | @slice a a' _ _ c' hs =>
        obtain ⟨hspot, hle, I, hI, rfl, _, hcap⟩ := hs
        by_cases h0 : n = 0
        · exact none0 _ _ h0
        · have hne : ¬ n * 1 = 0 := by omega
          simp only [Heap.elems, hne, if_false] at hvs
          obtain ⟨cs', hv1, _, hv3⟩ := look_ok hH ⟨hspot, I, hI, rfl⟩ hvs
          have hc' : n ≤ c' := by rcases hcap with h | h <;> omega
          have := Any.strings_Join L X I.r (I.o + a.off) c' xs sep w (fun j x hj => by
            obtain ⟨u, hu1, hu2⟩ := hv1.get (i := j) (v := .string x) (by rw [List.getElem?_map, hj]; rfl)
            cases hu2
            have := hv3 j _ hu1
            rw [Addr.add_lit] at this
            exact this) (hH.img_lt hI) (by omega) (by omega) (by
            have : (Lib.join (xs.map (·.data.toList)) sep.data.toList).length ≤ 1000000000 := hl9
            omega)
          rw [hlen] at this
          exact this
    · cases h
  · cases h

noncomputable def repeatX (args : List Value) (_ : Heap) : Option Value :=
  match args with
  | [.string s, .int .i64 (.ofNat c)] => (match Nat.ble (Nat.mul (sizeF s) c) 1000000000 && Nat.ble c 1000000000 with
    | true => some (.string ⟨⟨Lib.repeatL s.data.toList c⟩⟩)
    | false => none)
  | _ => none
theorem repeatX_ok {G : Nat → Bool} {ren : Ren} {f : FuncId} {fn : Func} (L : Lays.n105 P ren) (X : Builder.Extra P ren) (hren : ren.f 105 = f) (hf : P.funcs[f]? = some fn) (hb : fn.body.isSome = true) (hn : (fn.name == "runtime.NumGoroutine") = false) : ExtOK P G f repeatX := by
  intro args H v h ρ w args' hH ha _
  unfold repeatX at h
  split at h
  · rename_i s c
    split at h
    · rename_i hc
      cases h
      simp only [Bool.and_eq_true, Nat.ble_eq, sizeF_eq] at hc
      obtain ⟨x', y', rfl, hx, hy⟩ := args_two ha
      cases hx
      cases hy
      refine answers_below hf hb hn hH (.string _) ?_
      subst hren
      have h1 : s.size * c ≤ 1000000000 := hc.1
      exact Any.strings_Repeat L X s c w (by omega) (by omega)
    · cases h
  · cases h
end Go.Det
