/-
  One operation: fifth part: builtins, text and bytes, made slices.
-/
import Derived.Test.YtjoljcoimoablaaGreatDoorZd12
namespace Go.Det
variable {ρ : Inj} {H : Heap} {w : World}
section
variable {P : Program} {ev ev' : Operand → Value} {id : Nat} {v : Value} {H' : Heap} {o : Oper}

/-- A builtin's call: what its own run gives. -/
theorem builtin_value {b : Builtin} {args : Array Operand} {argTypes : Array TypeId} {s : Sem Value} {v' : Value} {w' : World} (ho : o.op = .call { callee := .builtin b, args, argTypes })
    (hb : ∀ cs, builtin b argTypes o.type cs (args.map ev') = (do pure (.value (← s)))) (hr : s.run P w = .ok v' w') : (execOp ev' o).run P w = .ok (.value v') w' := by
  simp [execOp, ho, resolve, invoke, hb, hr]

theorem sim_lenStr (hH : HeapRel ρ H w) (argTypes : Array TypeId) (args : Array Operand) {t : TypeId} {x : Operand} (ht0 : argTypes[0]? = some t) (hx0 : args[0]? = some x) (ht : P.underlying t = some .string) (hx : VR ρ (ev x) (ev' x))
    (ho : o.op = .call { callee := .builtin .len, args, argTypes }) (h : evalOp ev H id (.lenOf true x) = some (v, H')) : OpSim P ρ H w ev' o v H' := by
  have hx1 : (args.map ev')[0]? = some (ev' x) := by simp [hx0]
  simp only [evalOp] at h
  cases e1 : ev x <;> simp [e1] at h
  rename_i s
  obtain ⟨rfl, rfl⟩ := h
  rw [e1] at hx
  have h1 := scalar_eq hx rfl
  refine .same hH (v' := .int .i64 s.size) (builtin_value ho (s := Builtin.len_ argTypes o.type (args.map ev')) (fun cs => rfl) ?_) (.int _ _)
  simp [Builtin.len_, ht0, hx1, run_underlying ht, h1, goInt]

theorem sim_lenSl (hH : HeapRel ρ H w) (argTypes : Array TypeId) (args : Array Operand) {t e : TypeId} {x : Operand} (ht0 : argTypes[0]? = some t) (hx0 : args[0]? = some x) (ht : P.underlying t = some (.slice e)) (hx : VR ρ (ev x) (ev' x))
    (ho : o.op = .call { callee := .builtin .len, args, argTypes }) (h : evalOp ev H id (.lenOf false x) = some (v, H')) : OpSim P ρ H w ev' o v H' := by
  have hx1 : (args.map ev')[0]? = some (ev' x) := by simp [hx0]
  simp only [evalOp] at h
  cases e1 : ev x <;> simp [e1] at h
  rename_i a n c
  obtain ⟨rfl, rfl⟩ := h
  rw [e1] at hx
  have h1 : ∃ a' c', ev' x = .slice a' n c' := by
    cases hx' : ev' x <;> rw [hx'] at hx <;> cases hx <;> exact ⟨_, _, rfl⟩
  obtain ⟨a', c', h1⟩ := h1
  refine .same hH (v' := .int .i64 n) (builtin_value ho (s := Builtin.len_ argTypes o.type (args.map ev')) (fun cs => rfl) ?_) (.int _ _)
  simp [Builtin.len_, ht0, hx1, run_underlying ht, h1, goInt]

theorem sim_append (hH : HeapRel ρ H w) (hid : H.blk.get id = none) (argTypes : Array TypeId) (args : Array Operand) {t u e : TypeId} {d : TypeDesc} {s x : Operand} (ht0 : argTypes[0]? = some t) (hu0 : argTypes[1]? = some u) (hs0 : args[0]? = some s) (hx0 : args[1]? = some x) (h2 : args.size = 2)
    (ht : P.underlying t = some (.slice e)) (hu : P.underlying u = some d) (hd : ∀ k, d ≠ .int k) {z : Value} (hz : zeroOf P e = some z) (hzs : z.cells.size = P.cellsOf e) (hs : VR ρ (ev s) (ev' s)) (hx : VR ρ (ev x) (ev' x))
    (ho : o.op = .call { callee := .builtin .append, args, argTypes }) (h : evalOp ev H id (.append (P.cellsOf e) (P.bytesOf e) s x) = some (v, H')) : OpSim P ρ H w ev' o v H' := by
  obtain ⟨i, hi, hiz, _⟩ := zeroOf_some hz
  rw [cellsOf_eq hi, bytesOf_eq hi] at h
  rw [cellsOf_eq hi] at hzs
  simp only [evalOp] at h
  have hargs : args.map ev' = #[ev' s, ev' x] := by
    obtain ⟨l⟩ := args
    match l, h2, hs0, hx0 with
    | [a, b], _, hs0, hx0 => simp at hs0 hx0; subst hs0; subst hx0; simp
  obtain ⟨v', w', ρ', r1, r2, r3⟩ := append_sim P ⟨⟨t, ht0, ht⟩, ⟨u, d, hu0, hu, hd⟩, hi, hiz⟩ hzs o.type hH hid hs hx h
  exact ⟨v', w', ρ', .inl (builtin_value ho (s := Builtin.append_ argTypes o.type (args.map ev')) (fun cs => rfl) (by rw [hargs]; exact r1)), r2, r3⟩

theorem elems_zero {esz n : Nat} (h0 : n * esz = 0) {x : Value} {cs : List Value} (h : H.elems esz n x = some cs) : cs = [] := by
  cases x <;> simp only [Heap.elems] at h <;> try cases h
  case string s =>
    split at h
    · rename_i h1
      have : n = 0 := by rw [h1] at h0; omega
      subst this
      simp at h; exact h
    · cases h
  case slice a m c =>
    cases a with
    | none => simp at h; exact h
    | some a => simp only at h; rw [if_pos h0] at h; cases h; rfl

theorem sim_copy (hH : HeapRel ρ H w) (argTypes : Array TypeId) (args : Array Operand) {t e : TypeId} {s x : Operand} (ht0 : argTypes[0]? = some t) (hs0 : args[0]? = some s) (hx0 : args[1]? = some x)
    (ht : P.underlying t = some (.slice e)) {q : TypeInfo} (hq : P.info? e = some q) (hs : VR ρ (ev s) (ev' s)) (hx : VR ρ (ev x) (ev' x))
    (ho : o.op = .call { callee := .builtin .copy, args, argTypes }) (h : evalOp ev H id (.copy (P.cellsOf e) s x) = some (v, H')) : OpSim P ρ H w ev' o v H' := by
  rw [cellsOf_eq hq] at h
  simp only [evalOp] at h
  have hs1 : (args.map ev')[0]? = some (ev' s) := by simp [hs0]
  have hx1 : (args.map ev')[1]? = some (ev' x) := by simp [hx0]
  cases e1 : ev s <;> simp only [e1] at h <;> try cases h
  rename_i base dLen dCap
  cases hm : sliceLen (ev x) with
  | none => simp [hm] at h
  | some m =>
    simp only [hm] at h
    have hl := hx.sliceLen hm P w
    cases hel : H.elems q.size (Nat.min m dLen) (ev x) with
    | none => simp [hel] at h
    | some cs =>
      simp only [hel] at h
      obtain ⟨cs', hv, hr⟩ := elems_run P hH hx hel
      have hr0 := hr w.drawn
      rw [e1] at hs
      cases base with
      | none =>
        simp only [Option.some.injEq, Prod.mk.injEq] at h
        obtain ⟨rfl, rfl⟩ := h
        have h1 : ev' s = .slice none dLen dCap := by cases hs' : ev' s <;> rw [hs'] at hs <;> cases hs; rfl
        refine .same hH (v' := .int .i64 ((Nat.min m dLen : Nat))) (builtin_value ho (s := Builtin.copy_ argTypes o.type (args.map ev')) (fun cs => rfl) ?_) (.int _ _)
        simp [Builtin.copy_, ht0, hs1, hx1, run_underlying ht, h1, hl, sizeOf, typeInfo, hq, hr0, goInt]
      | some a =>
        simp only at h
        by_cases h0 : Nat.min m dLen * q.size = 0
        · rw [if_pos h0] at h
          simp only [Option.some.injEq, Prod.mk.injEq] at h
          obtain ⟨rfl, rfl⟩ := h
          have hcs : cs' = [] := by
            have : cs = [] := elems_zero h0 hel
            have h2 := hv.1
            rw [this] at h2; exact List.length_eq_zero_iff.1 h2.symm
          subst hcs
          have h1 : ∃ a' c', ev' s = .slice (some a') dLen c' := by cases hs' : ev' s <;> rw [hs'] at hs <;> cases hs <;> exact ⟨_, _, rfl⟩
          obtain ⟨a', c', h1⟩ := h1
          refine .same hH (v' := .int .i64 ((Nat.min m dLen : Nat))) (builtin_value ho (s := Builtin.copy_ argTypes o.type (args.map ev')) (fun cs => rfl) ?_) (.int _ _)
          simp [Builtin.copy_, ht0, hs1, hx1, run_underlying ht, h1, hl, sizeOf, typeInfo, hq, hr0, goInt, storeCells]
        · rw [if_neg h0] at h
          cases hw : H.write a cs with
          | none => simp [hw] at h
          | some H1 =>
            simp [hw] at h
            obtain ⟨rfl, rfl⟩ := h
            cases hs' : ev' s <;> rw [hs'] at hs <;> cases hs
            case slice.slice c' a' hsl =>
              obtain ⟨s1, _, I, s3, rfl, _⟩ := hsl
              obtain ⟨w', h3, h4⟩ := write_sim P hH ⟨s1, I, s3, rfl⟩ hv hw
              refine ⟨_, w', ρ, .inl (builtin_value ho (s := Builtin.copy_ argTypes o.type (args.map ev')) (fun cs => rfl) (v' := .int .i64 ((Nat.min m dLen : Nat))) ?_), .int _ _, h4⟩
              simp [Builtin.copy_, ht0, hs1, hx1, run_underlying ht, hs', hl, sizeOf, typeInfo, hq, hr0, goInt, h3]
            case slice.void c' a' => exact absurd (by simp) h0

theorem extremeOf_run (mx : Bool) : ∀ (rest : List Value) (u v : Value), extremeOf mx u rest = some v → (∀ x ∈ u :: rest, scalar x = true) → (rest.foldlM (if mx then Builtin.max2 else Builtin.min2) u).run P w = .ok v w ∧ scalar v = true
  | [], u, v, h, hs => by
    have : v = u := by cases u <;> simp [extremeOf] at h <;> exact h.symm
    subst this
    exact ⟨by simp, hs v (by simp)⟩
  | y :: rest, u, v, h, hs => by
    cases u <;> cases y <;> simp [extremeOf] at h
    rename_i k a l b
    obtain ⟨rfl, h⟩ := h
    have hz : ∀ c : Int, ∀ x ∈ (Value.int k c) :: rest, scalar x = true := fun c x hx => by
      simp at hx
      rcases hx with rfl | hx
      · rfl
      · exact hs x (by simp [hx])
    obtain ⟨r1, r2⟩ := extremeOf_run mx rest _ v h (hz _)
    refine ⟨?_, r2⟩
    cases mx
    · simp at r1 ⊢
      simp [Builtin.min2, r1]
    · simp at r1 ⊢
      simp [Builtin.max2, r1]

theorem sim_extreme (hH : HeapRel ρ H w) (mx : Bool) (argTypes : Array TypeId) (args : Array Operand) (hx : ∀ x ∈ args, VR ρ (ev x) (ev' x))
    (ho : o.op = .call { callee := .builtin (if mx then .max else .min), args, argTypes }) (h : evalOp ev H id (.extreme mx args.toList) = some (v, H')) : OpSim P ρ H w ev' o v H' := by
  simp only [evalOp] at h
  cases hl : args.toList.map ev with
  | nil => simp [hl] at h
  | cons u rest =>
    simp only [hl] at h
    cases he : extremeOf mx u rest with
    | none => simp [he] at h
    | some r =>
      simp [he] at h
      obtain ⟨rfl, rfl⟩ := h
      have hall : ∀ (u : Value) (rest : List Value), extremeOf mx u rest = some r → rest ≠ [] → ∀ x ∈ u :: rest, scalar x = true := by
        intro u rest
        induction rest generalizing u with
        | nil => intro _ h; exact absurd rfl h
        | cons y rest ih =>
          intro h _ x hx
          cases u <;> cases y <;> simp [extremeOf] at h
          obtain ⟨rfl, h⟩ := h
          simp at hx
          rcases hx with rfl | rfl | hx
          · rfl
          · rfl
          · by_cases hr : rest = []
            · subst hr; cases hx
            · exact ih _ h hr x (by simp [hx])
      have heq : (scalar u = true ∧ ∀ x ∈ rest, scalar x = true) → args.toList.map ev' = u :: rest := by
        intro hs
        rw [← hl]
        apply List.map_congr_left
        intro x hx'
        refine scalar_eq (hx x (by simpa using hx')) ?_
        have hm : ev x ∈ u :: rest := by rw [← hl]; exact List.mem_map_of_mem hx'
        simp at hm
        rcases hm with e | e
        · rw [e]; exact hs.1
        · exact hs.2 _ e
      by_cases hr : rest = []
      · subst hr
        have : r = u := by cases u <;> simp [extremeOf] at he <;> exact he.symm
        subst this
        -- one argument alone
        match hargs : args.toList, hl with
        | [x], hl =>
          simp at hl
          subst hl
          have hxx := hx x (by simp [← Array.mem_toList_iff, hargs])
          refine .same hH (v' := ev' x) ?_ hxx
          have hm : (args.map ev').toList = [ev' x] := by simp [hargs]
          cases mx
          · exact builtin_value ho (s := Builtin.min_ argTypes o.type (args.map ev')) (fun cs => rfl) (by simp [Builtin.min_, hargs])
          · exact builtin_value ho (s := Builtin.max_ argTypes o.type (args.map ev')) (fun cs => rfl) (by simp [Builtin.max_, hargs])
      · have hs := hall u rest he hr
        have hm := heq ⟨hs u (by simp), fun x hx => hs x (by simp [hx])⟩
        obtain ⟨r1, r2⟩ := extremeOf_run (P := P) (w := w) mx rest u r he hs
        refine .same hH (v' := r) ?_ (scalar_vr r2)
        cases mx
        · refine builtin_value ho (s := Builtin.min_ argTypes o.type (args.map ev')) (fun cs => rfl) ?_
          simp [Builtin.min_, hm]; simpa using r1
        · refine builtin_value ho (s := Builtin.max_ argTypes o.type (args.map ev')) (fun cs => rfl) ?_
          simp [Builtin.max_, hm]; simpa using r1

theorem sim_makeSlice (hH : HeapRel ρ H w) (hid : H.blk.get id = none) (t e : TypeId) (ht : P.underlying t = some (.slice e)) {z : Value} (hz : zeroOf P e = some z) (hzs : z.cells.size = P.cellsOf e) (l c : Operand) (hl : VR ρ (ev l) (ev' l)) (hc : VR ρ (ev c) (ev' c)) (ho : o.op = .makeSlice t l c)
    (h : evalOp ev H id (.makeSlice (P.cellsOf e) (P.bytesOf e) z.cells.toList l c) = some (v, H')) : OpSim P ρ H w ev' o v H' := by
  obtain ⟨i, hi, hiz, _⟩ := zeroOf_some hz
  rw [cellsOf_eq hi, bytesOf_eq hi] at h
  rw [cellsOf_eq hi] at hzs
  simp only [evalOp] at h
  cases e1 : intOf? (ev l) with
  | none => simp [e1] at h
  | some n =>
    cases e2 : intOf? (ev c) with
    | none => simp [e1, e2] at h
    | some m =>
      simp only [e1, e2] at h
      split at h
      · rename_i hcond
        obtain ⟨c1, c2, c3, c4, c5, c6⟩ := hcond
        simp only [Option.some.injEq, Prod.mk.injEq] at h
        obtain ⟨rfl, rfl⟩ := h
        obtain ⟨p1, k1, p2⟩ := intOf_eq hl e1
        obtain ⟨q1, k2, q2⟩ := intOf_eq hc e2
        have hzc : VRL ρ z.cells.toList z.cells.toList := (zeroOf_vr hz).cells
        have hs := sim_new hH hid (zeros_vrl hzc m.toNat) [] .arr i.size e w.drawn [] (fun _ => rfl) (fun p hp => by cases hp)
        simp only [List.append_nil] at hs
        have hzl : (zeros z.cells.toList m.toNat).length = m.toNat * i.size := by
          rw [(zeros_get z.cells.toList (by simpa [hzs] using c6) m.toNat).1]; simp [hzs]
        refine ⟨_, _, _, .inl ?_, .slice ⟨rfl, by omega, _, Inj.with_self, rfl, fun _ => by simp [hzl], .inl rfl⟩, hs⟩
        have hzr := zeroOf_run hz w
        have w1 : IntKind.i64.wrap n = n := by simp [IntKind.wrap, IntKind.bits, IntKind.signed]; omega
        have w2 : IntKind.i64.wrap m = m := by simp [IntKind.wrap, IntKind.bits, IntKind.signed]; omega
        have hb1 : (0 : Int) ≤ i.bytes * m := Int.mul_nonneg (by omega) (by omega)
        have hb2 : (i.bytes : Int) * m ≤ 70368744177664 := by
          have : m * (i.bytes : Int) ≤ 2 ^ 46 := by exact_mod_cast c3
          rw [Int.mul_comm]; omega
        have t1 : ¬ m < 0 := by omega
        have t2 : ¬ (281474976710656 < (i.bytes : Int) * m) := by omega
        have t3 : ¬ n < 0 := by omega
        have t4 : ¬ m < n := by omega
        by_cases h0 : m.toNat * i.size = 0
        · have hm0 : m.toNat = 0 := by rcases Nat.mul_eq_zero.1 h0 with h | h <;> omega
          have hm0' : m = 0 := by omega
          subst hm0'
          have : n = 0 := by omega
          subst this
          simp [execOp, ho, Instr.makeSlice, run_underlying ht, typeInfo, hi, p1, q1, p2, q2, asInt, asIntOf, w1, sizeOf, newRow]
          congr 2
          exact Array.ext' (by simp [zeros])
        · have hzz := zeros_range z.cells m.toNat (by omega)
          rw [hzs] at hzz
          have h0a : m.toNat ≠ 0 := fun e => h0 (by simp [e])
          have h0b : i.size ≠ 0 := by omega
          simp [execOp, ho, Instr.makeSlice, run_underlying ht, typeInfo, hi, p1, q1, p2, q2, asInt, asIntOf, w1, w2, t1, t2, t3, t4, sizeOf, hzr, hzs, newRow]
          rw [if_neg h0, hzz]
      · cases h
end
end Go.Det
