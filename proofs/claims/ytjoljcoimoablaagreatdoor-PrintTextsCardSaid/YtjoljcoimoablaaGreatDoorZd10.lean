/-
  One operation: second part: memory.
-/
import Derived.Test.YtjoljcoimoablaaGreatDoorZd9
namespace Go.Det
variable {ρ : Inj} {H : Heap} {w : World}
section
variable {P : Program} {ev ev' : Operand → Value} {id : Nat} {v : Value} {H' : Heap} {o : Oper}

theorem info_of_under {t : TypeId} {d : TypeDesc} (h : P.underlying t = some d) : ∃ i, P.info? t = some i := by
  unfold Program.underlying at h
  cases hi : P.info? t with
  | none => simp [hi] at h
  | some i => exact ⟨i, rfl⟩
theorem cellsOf_eq {t : TypeId} {i : TypeInfo} (h : P.info? t = some i) : P.cellsOf t = i.size := by simp [Program.cellsOf, h]
theorem bytesOf_eq {t : TypeId} {i : TypeInfo} (h : P.info? t = some i) : P.bytesOf t = i.bytes := by simp [Program.bytesOf, h]
theorem zeroOf_some {t : TypeId} {z : Value} (h : zeroOf P t = some z) : ∃ i, P.info? t = some i ∧ i.zero = some z ∧ plainV 30 z = true := by
  unfold zeroOf at h
  cases hi : P.info? t with
  | none => simp [hi] at h
  | some i =>
    cases hiz : i.zero with
    | none => simp [hi, hiz] at h
    | some y =>
      simp only [hi, Option.bind_some, hiz] at h
      split at h
      · rename_i hp; cases h; exact ⟨i, rfl, hiz, hp⟩
      · cases h
theorem zeroOf_run {t : TypeId} {z : Value} (h : zeroOf P t = some z) (w : World) : (zeroValue t).run P w = .ok z w := by
  obtain ⟨i, h1, h2, _⟩ := zeroOf_some h
  simp [zeroValue, typeInfo, h1, h2]
theorem zeroOf_vr {t : TypeId} {z : Value} (h : zeroOf P t = some z) : VR ρ z z := by
  obtain ⟨i, _, _, h3⟩ := zeroOf_some h
  exact plain_vr ρ 30 z h3

theorem vr_ptr {a : Addr} {v' : Value} (h : VR ρ (.pointer (some a)) v') : ∃ a', v' = .pointer (some a') ∧ AR ρ a a' := by
  cases h; exact ⟨_, rfl, by assumption⟩
theorem vr_agg {xs : Array Value} {v' : Value} (h : VR ρ (.agg xs) v') : ∃ ys, v' = .agg ys ∧ VRL ρ xs.toList ys.toList := by
  cases h; rename_i ys h1 h2; exact ⟨ys, rfl, VRL.of_arr h1 h2⟩

theorem ar_new {id : Nat} {I : Img} (ho : I.o = 0) : AR (ρ.with id I) ⟨id, 0, none⟩ ⟨I.r, 0, none⟩ := ⟨rfl, I, Inj.with_self, by simp [ho]⟩

/-! ### Making -/
theorem newBox_sim (hH : HeapRel ρ H w) (hid : H.blk.get id = none) {cs cs' : List Value} (hc : VRL ρ cs cs') (ty : TypeId) (ho : (execOp ev' o).run P w = .ok (.value (.pointer (some ⟨w.heap.size, 0, none⟩))) { w with heap := w.heap.push (.cells cs'.toArray ty) }) :
    OpSim P ρ H w ev' o (ptr id) (H.make id (mkBlk .box 0 cs)) := by
  have hs := sim_new hH hid hc [] .box 0 ty w.drawn [] (fun _ => rfl) (fun p hp => by cases hp)
  simp only [List.append_nil] at hs
  exact ⟨_, _, _, .inl ho, .ptr (ar_new rfl), hs⟩

theorem sim_new_op (hH : HeapRel ρ H w) (hid : H.blk.get id = none) (e : TypeId) {z : Value} (hz : zeroOf P e = some z) (ho : o.op = .alloc e) (h : evalOp ev H id (.new z.cells.toList) = some (v, H')) : OpSim P ρ H w ev' o v H' := by
  simp only [evalOp] at h
  split at h
  · simp only [Option.some.injEq, Prod.mk.injEq] at h
    obtain ⟨rfl, rfl⟩ := h
    refine newBox_sim hH hid (zeroOf_vr hz).cells e ?_
    have hr := zeroOf_run hz w
    simp [execOp, ho, Instr.alloc, hr, newVar, newRow]
  · cases h

theorem sim_box (hH : HeapRel ρ H w) (hid : H.blk.get id = none) (e : TypeId) (x : Operand) (hx : VR ρ (ev x) (ev' x)) (ho : o.op = .box e x) (h : evalOp ev H id (.box x) = some (v, H')) : OpSim P ρ H w ev' o v H' := by
  simp only [evalOp] at h
  split at h
  · simp only [Option.some.injEq, Prod.mk.injEq] at h
    obtain ⟨rfl, rfl⟩ := h
    refine newBox_sim hH hid hx.cells e ?_
    simp [execOp, ho, Instr.box, newVar, newRow]
  · cases h

/-! ### Laying parts -/
theorem foldl_set_list : ∀ (vs : List Value) (off : Nat) (k : Nat) (cs : Array Value), off + k + vs.length ≤ cs.size →
    ((vs.zipIdx k).foldl (fun cs (c, j) => cs.setIfInBounds (off + j) c) cs) = (cs.toList.take (off + k) ++ (vs ++ cs.toList.drop (off + k + vs.length))).toArray
  | [], off, k, cs, h => by simp
  | x :: vs, off, k, cs, h => by
    simp only [List.zipIdx_cons, List.foldl_cons]
    rw [foldl_set_list vs off (k + 1) _ (by simp at h ⊢; omega)]
    congr 1
    have hlt : off + k < cs.toList.length := by simp at h ⊢; omega
    rw [Array.toList_setIfInBounds]
    have e1 : (cs.toList.set (off + k) x).take (off + (k + 1)) = cs.toList.take (off + k) ++ [x] := by
      rw [show off + (k + 1) = off + k + 1 by omega, List.take_succ_eq_append_getElem (by simpa using hlt), List.take_set_of_le (Nat.le_refl _)]
      simp
    have e2 : (cs.toList.set (off + k) x).drop (off + (k + 1) + vs.length) = cs.toList.drop (off + k + (vs.length + 1)) := by
      rw [List.drop_set_of_lt (by omega)]
      congr 1; omega
    rw [e1, e2]
    simp

theorem fill_lay (place : Nat → Option (Nat × Nat)) : ∀ (parts : List (Nat × Operand)) (ps : List (Nat × Nat × Operand)) (cs cs' out : List Value),
    ps.length = parts.length → (∀ (i : Nat) (q : Nat × Operand) (p : Nat × Nat × Operand), parts[i]? = some q → ps[i]? = some p → place q.1 = some (p.1, p.2.1) ∧ p.2.2 = q.2) → (∀ q ∈ parts, VR ρ (ev q.2) (ev' q.2)) →
    VRL ρ cs cs' → lay ev cs ps = some out → ∃ out', VRL ρ out out' ∧ Instr.fill place cs'.toArray (parts.map fun (i, x) => (i, ev' x)) = some out'.toArray
  | [], ps, cs, cs', out, hl, hp, hv, hc, h => by
    simp at hl; subst hl
    simp [lay] at h; subst h
    exact ⟨cs', hc, rfl⟩
  | q :: parts, ps, cs, cs', out, hl, hp, hv, hc, h => by
    cases ps with
    | nil => simp at hl
    | cons p ps =>
      obtain ⟨off, size, x⟩ := p
      obtain ⟨h1, h2⟩ := hp 0 q (off, size, x) rfl rfl
      simp only at h1 h2
      simp only [lay] at h
      split at h
      · rename_i hcond
        simp only [Bool.and_eq_true, beq_iff_eq, decide_eq_true_eq] at hcond
        have hx := (hv q (by simp)).cells
        rw [h2] at h hcond
        have hlen := hx.1
        have hcl := hc.1
        have hc2 : VRL ρ (cs.take off ++ ((ev q.2).cells.toList ++ cs.drop (off + size))) (cs'.take off ++ ((ev' q.2).cells.toList ++ cs'.drop (off + size))) := (hc.take off).append (hx.append (hc.drop (off + size)))
        obtain ⟨out', o1, o2⟩ := fill_lay place parts ps _ _ out (by simpa using hl) (fun i a b e1 e2 => hp (i + 1) a b (by simpa using e1) (by simpa using e2)) (fun a ha => hv a (by simp [ha])) hc2 h
        refine ⟨out', o1, ?_⟩
        simp only [List.map_cons, Instr.fill, h1]
        have e1 : ¬ ((ev' q.2).cells.size ≠ size ∨ off + (ev' q.2).cells.size > cs'.toArray.size) := by
          simp at hlen ⊢; simp at hcond; omega
        simp only [Bool.or_eq_true, decide_eq_true_eq] at e1 ⊢
        rw [if_neg (by simpa using e1)]
        rw [← o2]
        congr 1
        have := foldl_set_list (ev' q.2).cells.toList off 0 cs'.toArray (by simp at hlen hcond ⊢; omega)
        simp only [Nat.add_zero] at this
        rw [← Array.foldl_toList, Array.toList_zipIdx, this]
        have e3 : (ev' q.2).cells.toList.length = size := by simp at hlen hcond ⊢; omega
        rw [e3]
      · cases h
end
end Go.Det
