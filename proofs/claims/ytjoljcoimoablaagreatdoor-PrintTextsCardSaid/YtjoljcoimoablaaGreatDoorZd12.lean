/-
  One operation: fourth part: places, cuts, lengths, text and bytes.
-/
import Derived.Test.YtjoljcoimoablaaGreatDoorZd11
namespace Go.Det
variable {ρ : Inj} {H : Heap} {w : World}
section
variable {P : Program} {ev ev' : Operand → Value} {id : Nat} {v : Value} {H' : Heap} {o : Oper}

theorem ar_add {a a' : Addr} (h : AR ρ a a') (n : Nat) : AR ρ (addA a n) (a'.add n) := by
  obtain ⟨h1, I, h2, rfl⟩ := h
  refine ⟨h1, I, h2, ?_⟩
  rw [Addr.add_lit]
  simp [addA, Nat.add_assoc]

theorem sim_fieldAddr (hH : HeapRel ρ H w) (s : TypeId) (i : Nat) {f : Field} (hf : fieldOf P s i = some f) (h0 : P.cellsOf f.type ≠ 0) (x : Operand) (hx : VR ρ (ev x) (ev' x)) (ho : o.op = .fieldAddr s x i)
    (h : evalOp ev H id (.fieldAddr f.offset x) = some (v, H')) : OpSim P ρ H w ev' o v H' := by
  simp only [evalOp] at h
  split at h
  · rename_i a e1
    simp only [Option.some.injEq, Prod.mk.injEq] at h
    obtain ⟨rfl, rfl⟩ := h
    rw [e1] at hx
    obtain ⟨a', h1, h2⟩ := vr_ptr hx
    have hinfo : ∃ q, P.info? f.type = some q := by
      unfold Program.cellsOf at h0
      cases hq : P.info? f.type with
      | none => simp [hq] at h0
      | some q => exact ⟨q, rfl⟩
    obtain ⟨q, hq⟩ := hinfo
    rw [cellsOf_eq hq] at h0
    unfold fieldOf at hf
    cases ht : P.underlying s with
    | none => simp [ht] at hf
    | some d =>
      cases d <;> simp [ht] at hf
      rename_i fs
      exact .same hH (v' := .pointer (some (a'.add f.offset))) (by simp [execOp, ho, Instr.fieldAt, run_underlying ht, hf, h1, Instr.sureAddr, fieldPlace, sizeOf, typeInfo, hq, h0]) (.ptr (ar_add h2 _))
  · cases h

theorem sim_idxArr (hH : HeapRel ρ H w) (t e : TypeId) (n : Nat) (ht : P.underlying t = some (.array n e)) {q : TypeInfo} (hq : P.info? e = some q) (x i : Operand) (hx : VR ρ (ev x) (ev' x)) (hi : VR ρ (ev i) (ev' i)) (ho : o.op = .indexAddr t x i)
    (h : evalOp ev H id (.idxArr n (P.cellsOf e) x i) = some (v, H')) : OpSim P ρ H w ev' o v H' := by
  simp only [evalOp, cellsOf_eq hq] at h
  split at h
  · rename_i a j e1 e2
    split at h
    · rename_i hj
      simp only [Option.some.injEq, Prod.mk.injEq] at h
      obtain ⟨rfl, rfl⟩ := h
      rw [e1] at hx
      obtain ⟨a', h1, h2⟩ := vr_ptr hx
      obtain ⟨q1, k, q2⟩ := intOf_eq hi e2
      exact .same hH (v' := .pointer (some (a'.add (j.toNat * q.size)))) (by simp [execOp, ho, Instr.indexAt, run_underlying ht, h1, q1, q2, asIntOf, Instr.sureAddr, hj, sizeOf, typeInfo, hq]) (.ptr (ar_add h2 _))
    · cases h
  · cases h

theorem sim_idxSl (hH : HeapRel ρ H w) (t e : TypeId) (ht : P.underlying t = some (.slice e)) {q : TypeInfo} (hq : P.info? e = some q) (x i : Operand) (hx : VR ρ (ev x) (ev' x)) (hi : VR ρ (ev i) (ev' i)) (ho : o.op = .indexAddr t x i)
    (h : evalOp ev H id (.idxSl (P.cellsOf e) x i) = some (v, H')) : OpSim P ρ H w ev' o v H' := by
  simp only [evalOp, cellsOf_eq hq] at h
  split at h
  · rename_i a len cap j e1 e2
    split at h
    · rename_i hj
      simp only [Option.some.injEq, Prod.mk.injEq] at h
      obtain ⟨rfl, rfl⟩ := h
      rw [e1] at hx
      obtain ⟨q1, k, q2⟩ := intOf_eq hi e2
      cases hx' : ev' x <;> rw [hx'] at hx <;> cases hx
      case slice.slice a' c' hs =>
        obtain ⟨s1, _, I, s2, rfl, _⟩ := hs
        exact .same hH (v' := .pointer (some ((⟨I.r, I.o + a.off, none⟩ : Addr).add (j.toNat * q.size)))) (by simp [execOp, ho, Instr.indexAt, run_underlying ht, hx', q1, q2, asIntOf, hj, sizeOf, typeInfo, hq]) (.ptr (ar_add ⟨s1, I, s2, rfl⟩ _))
      case slice.void a' c' => omega
    · cases h
  · cases h

theorem boundOf_run {most most' dflt : Nat} (hm : most ≤ most') {x : Option Operand} (hx : ∀ y ∈ x, VR ρ (ev y) (ev' y)) {r : Nat} (h : boundOf most dflt (x.map ev) = some r) :
    (x = none ∧ r = dflt) ∨ ∃ y, x = some y ∧ r ≤ most ∧ ∀ code, (Instr.sliceBound (ev' y) most' code).run P w = .ok r w := by
  cases x with
  | none => simp [boundOf] at h; exact .inl ⟨rfl, h.symm⟩
  | some y =>
    simp only [Option.map_some, boundOf] at h
    cases e : intOf? (ev y) with
    | none => simp [e] at h
    | some i =>
      simp only [e] at h
      split at h
      · rename_i hi
        simp at h; subst h
        obtain ⟨q1, k, q2⟩ := intOf_eq (hx y rfl) e
        have : 0 ≤ i ∧ i ≤ (most' : Int) := by omega
        exact .inr ⟨y, rfl, by omega, fun code => by simp [Instr.sliceBound, q1, q2, asIntOf, this]⟩
      · cases h

theorem bounds_run {len cap cap' : Nat} (hc : cap ≤ cap') {lo hi : Option Operand} (hlo : ∀ x ∈ lo, VR ρ (ev x) (ev' x)) (hhi : ∀ x ∈ hi, VR ρ (ev x) (ev' x)) {l h : Nat} (hb : bounds len cap (lo.map ev) (hi.map ev) = some (l, h)) (b : Bool) :
    (Instr.sliceBounds b len cap' (lo.map ev') (hi.map ev') none).run P w = .ok (l, h, cap') w ∧ l ≤ h ∧ (h ≤ cap ∨ h = len) := by
  unfold bounds at hb
  cases e1 : boundOf cap len (hi.map ev) with
  | none => simp [e1] at hb
  | some h0 =>
    simp only [e1] at hb
    cases e2 : boundOf h0 0 (lo.map ev) with
    | none => simp [e2] at hb
    | some l0 =>
      simp [e2] at hb
      obtain ⟨rfl, rfl⟩ := hb
      have r1 := boundOf_run (P := P) (w := w) hc hhi e1
      have r2 := boundOf_run (P := P) (w := w) (Nat.le_refl h0) hlo e2
      rcases r1 with ⟨rfl, rfl⟩ | ⟨y, rfl, s1, s2⟩
      · rcases r2 with ⟨rfl, rfl⟩ | ⟨z, rfl, t1, t2⟩
        · exact ⟨by simp [Instr.sliceBounds], Nat.zero_le _, .inr rfl⟩
        · exact ⟨by simp [Instr.sliceBounds, t2], t1, .inr rfl⟩
      · rcases r2 with ⟨rfl, rfl⟩ | ⟨z, rfl, t1, t2⟩
        · exact ⟨by simp [Instr.sliceBounds, s2], Nat.zero_le _, .inl s1⟩
        · exact ⟨by simp [Instr.sliceBounds, s2, t2], t1, .inl s1⟩

theorem sim_sliceStr (hH : HeapRel ρ H w) (t : TypeId) (ht : P.underlying t = some .string) (x : Operand) (lo hi : Option Operand) (hx : VR ρ (ev x) (ev' x)) (hlo : ∀ y ∈ lo, VR ρ (ev y) (ev' y)) (hhi : ∀ y ∈ hi, VR ρ (ev y) (ev' y)) (ho : o.op = .slice t x lo hi none)
    (h : evalOp ev H id (.sliceStr x lo hi) = some (v, H')) : OpSim P ρ H w ev' o v H' := by
  simp only [evalOp] at h
  cases e1 : ev x <;> simp only [e1] at h <;> try cases h
  rename_i s
  cases hb : bounds s.size s.size (lo.map ev) (hi.map ev) with
  | none => simp [hb] at h
  | some lh =>
    obtain ⟨l, hh⟩ := lh
    simp [hb] at h
    obtain ⟨rfl, rfl⟩ := h
    rw [e1] at hx
    have h1 := scalar_eq hx rfl
    have hr := (bounds_run (P := P) (w := w) (Nat.le_refl _) hlo hhi hb false).1
    exact .same hH (v' := .string (s.extract l hh)) (by simp [execOp, ho, Instr.sliceAt, Instr.slice, run_underlying ht, h1, hr]) (.string _)

theorem sim_sliceSl (hH : HeapRel ρ H w) (t e : TypeId) (ht : P.underlying t = some (.slice e)) {q : TypeInfo} (hq : P.info? e = some q) (_hq0 : 0 < P.cellsOf e) (x : Operand) (lo hi : Option Operand) (hx : VR ρ (ev x) (ev' x)) (hlo : ∀ y ∈ lo, VR ρ (ev y) (ev' y)) (hhi : ∀ y ∈ hi, VR ρ (ev y) (ev' y)) (ho : o.op = .slice t x lo hi none)
    (h : evalOp ev H id (.sliceSl (P.cellsOf e) x lo hi) = some (v, H')) : OpSim P ρ H w ev' o v H' := by
  rw [cellsOf_eq hq] at h
  simp only [evalOp] at h
  cases e1 : ev x <;> simp only [e1] at h <;> try cases h
  rename_i base len cap
  rw [e1] at hx
  cases base with
  | none =>
    simp only at h
    split at h
    · rename_i h0
      obtain ⟨rfl, rfl⟩ := h0
      cases hb : bounds 0 0 (lo.map ev) (hi.map ev) with
      | none => simp [hb] at h
      | some lh =>
        obtain ⟨l, hh⟩ := lh
        simp [hb] at h
        obtain ⟨rfl, rfl⟩ := h
        cases hx' : ev' x <;> rw [hx'] at hx <;> cases hx
        obtain ⟨hr, r1, r2⟩ := bounds_run (P := P) (w := w) (cap' := 0) (Nat.le_refl _) hlo hhi hb true
        have hh0 : hh = 0 := by rcases r2 with h | h <;> omega
        have l0 : l = 0 := by omega
        subst hh0; subst l0
        exact .same hH (v' := .slice none 0 0) (by simp [execOp, ho, Instr.sliceAt, Instr.slice, run_underlying ht, hx', hr, sizeOf, typeInfo, hq]) (.slice0 0 0)
    · cases h
  | some a =>
    simp only at h
    cases hb : bounds len cap (lo.map ev) (hi.map ev) with
    | none => simp [hb] at h
    | some lh =>
      obtain ⟨l, hh⟩ := lh
      simp only [hb] at h
      -- what the real slice is
      have real : ∃ a' c', ev' x = .slice (some a') len c' ∧ cap ≤ c' ∧ len ≤ cap := by
        cases hx' : ev' x <;> rw [hx'] at hx <;> cases hx
        case slice.slice c' a' hs =>
          obtain ⟨s1, s2, I, s3, s4, s5, s6⟩ := hs
          exact ⟨a', c', rfl, by rcases s6 with s6 | ⟨_, s6, _⟩ <;> omega, s2⟩
        case slice.void c' a' => exact ⟨a', c', rfl, Nat.zero_le _, Nat.le_refl _⟩
      obtain ⟨a', c', hx', hcc, hlc⟩ := real
      obtain ⟨hr, r1, r2⟩ := bounds_run (P := P) (w := w) hcc hlo hhi hb true
      have hhc : hh ≤ cap := by rcases r2 with h | h <;> omega
      have hrun : (execOp ev' o).run P w = .ok (.value (.slice (some (if c' = l then a' else a'.add (l * q.size))) (hh - l) (c' - l))) w := by
        by_cases hcl : c' = l
        · subst hcl
          simp [execOp, ho, Instr.sliceAt, Instr.slice, run_underlying ht, hx', hr, sizeOf, typeInfo, hq]
        · simp [execOp, ho, Instr.sliceAt, Instr.slice, run_underlying ht, hx', hr, sizeOf, typeInfo, hq, hcl]
      by_cases hl : l = cap
      · rw [if_pos hl] at h
        simp only [Option.some.injEq, Prod.mk.injEq] at h
        obtain ⟨rfl, rfl⟩ := h
        refine .same hH hrun ?_
        have : hh - l = 0 := by omega
        rw [this]
        exact .void _ _
      · rw [if_neg hl] at h
        cases hs0 : a.spot with
        | some z => simp [hs0] at h
        | none =>
          cases hB : H.blk.get a.block with
          | none => simp [hs0, hB] at h
          | some B =>
            simp only [hs0, hB] at h
            split at h
            · rename_i hkind
              simp only [Option.some.injEq, Prod.mk.injEq] at h
              obtain ⟨rfl, rfl⟩ := h
              rw [hx'] at hx
              cases hx with
              | void => cases hs0
              | slice hs =>
                obtain ⟨s1, s2, I, s3, rfl, s5, s6⟩ := hs
                refine .same hH hrun ?_
                rw [if_neg (by omega), Addr.add_lit]
                refine .slice ⟨s1, by omega, I, s3, by simp [addA, Nat.add_assoc], fun hk => ?_, ?_⟩
                · have hez : I.esz = q.size := by
                    have hR := hH.blk _ B I hB s3
                    rcases hkind with h | h
                    · rw [hR.kind] at h; exact absurd h hk
                    · rw [← hR.esz]; exact h
                  have := s5 hk
                  simp only [addA]
                  rw [hez] at this ⊢
                  rw [Nat.sub_mul]
                  have : l * q.size ≤ cap * q.size := Nat.mul_le_mul_right _ (by omega)
                  omega
                · rcases s6 with s6 | ⟨t1, t2, t3, t4⟩
                  · exact .inl (by omega)
                  · refine .inr ⟨t1, by omega, ?_, ?_⟩
                    · have hez : I.esz = q.size := by
                        have hR := hH.blk _ B I hB s3
                        rcases hkind with h | h
                        · rw [hR.kind, t1] at h; cases h
                        · rw [← hR.esz]; exact h
                      simp only [addA]
                      rw [hez] at t3 ⊢
                      rw [Nat.sub_mul]
                      have : l * q.size ≤ cap * q.size := Nat.mul_le_mul_right _ (by omega)
                      omega
                    · have hez : I.esz = q.size := by
                        have hR := hH.blk _ B I hB s3
                        rcases hkind with h | h
                        · rw [hR.kind, t1] at h; cases h
                        · rw [← hR.esz]; exact h
                      simp only [addA]
                      rw [hez] at t4 ⊢
                      rw [Nat.sub_mul]
                      have : l * q.size ≤ c' * q.size := Nat.mul_le_mul_right _ (by omega)
                      omega
            · cases h

theorem sim_sliceArr (hH : HeapRel ρ H w) (t e : TypeId) (n : Nat) (ht : P.underlying t = some (.array n e)) {q : TypeInfo} (hq : P.info? e = some q) (x : Operand) (lo hi : Option Operand) (hx : VR ρ (ev x) (ev' x)) (hlo : ∀ y ∈ lo, VR ρ (ev y) (ev' y)) (hhi : ∀ y ∈ hi, VR ρ (ev y) (ev' y)) (ho : o.op = .slice t x lo hi none)
    (h : evalOp ev H id (.sliceArr n (P.cellsOf e) x lo hi) = some (v, H')) : OpSim P ρ H w ev' o v H' := by
  rw [cellsOf_eq hq] at h
  simp only [evalOp] at h
  cases e1 : ev x <;> simp only [e1] at h <;> try cases h
  rename_i base
  cases base with
  | none => cases h
  | some a =>
    simp only at h
    rw [e1] at hx
    obtain ⟨a', hx', s1, I, s3, rfl⟩ := vr_ptr hx
    cases hb : bounds n n (lo.map ev) (hi.map ev) with
    | none => simp [hb] at h
    | some lh =>
      obtain ⟨l, hh⟩ := lh
      simp only [hb] at h
      obtain ⟨hr, r1, r2⟩ := bounds_run (P := P) (w := w) (Nat.le_refl n) hlo hhi hb false
      have hhc : hh ≤ n := by rcases r2 with h | h <;> omega
      have hrun : (execOp ev' o).run P w = .ok (.value (.slice (some (if n = l then ⟨I.r, I.o + a.off, none⟩ else (⟨I.r, I.o + a.off, none⟩ : Addr).add (l * q.size))) (hh - l) (n - l))) w := by
        by_cases hcl : n = l
        · subst hcl
          simp [execOp, ho, Instr.sliceAt, run_underlying ht, hx', Instr.sureAddr, hr, sizeOf, typeInfo, hq]
        · simp [execOp, ho, Instr.sliceAt, run_underlying ht, hx', Instr.sureAddr, hr, sizeOf, typeInfo, hq, hcl]
      by_cases hl : l = n
      · rw [if_pos hl] at h
        simp only [Option.some.injEq, Prod.mk.injEq] at h
        obtain ⟨rfl, rfl⟩ := h
        refine .same hH hrun ?_
        have : hh - l = 0 := by omega
        rw [this]
        exact .void _ _
      · rw [if_neg hl] at h
        rw [s1] at h
        cases hB : H.blk.get a.block with
        | none => simp [hB] at h
        | some B =>
          simp only [hB] at h
          split at h
          · rename_i hkind
            simp only [Option.some.injEq, Prod.mk.injEq] at h
            obtain ⟨rfl, rfl⟩ := h
            refine .same hH hrun ?_
            rw [if_neg (by omega), Addr.add_lit]
            refine .slice ⟨s1, by omega, I, s3, by simp [addA, Nat.add_assoc], fun hk => ?_, .inl rfl⟩
            rw [(hH.blk _ B I hB s3).kind] at hkind
            exact absurd hkind hk
          · cases h
end
end Go.Det
