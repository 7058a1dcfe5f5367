/-
  One operation: eighth part: maps with keys of text.
-/
import Derived.Test.YtjoljcoimoablaaGreatDoorZd15
namespace Go.Det
variable {ρ : Inj} {H : Heap} {w : World}

def Inj.withM (ρ : Inj) (id r : Nat) : Inj := { ρ with m := fun k => if k = id then some r else ρ.m k }
theorem Inj.withM_le {id r : Nat} (h : ρ.m id = none) : ρ.le (ρ.withM id r) :=
  ⟨fun _ _ h => h, fun k x hk => by
    unfold Inj.withM
    by_cases e : k = id
    · subst e; rw [h] at hk; cases hk
    · simp [e, hk]⟩
theorem Inj.withM_self {id r : Nat} : (ρ.withM id r).m id = some r := by simp [Inj.withM]
theorem Inj.withM_ne {id k r : Nat} (h : k ≠ id) : (ρ.withM id r).m k = ρ.m k := by simp [Inj.withM, h]

theorem sim_newMap (hH : HeapRel ρ H w) {id : Nat} (hid : H.mp.get id = none) :
    Sim ρ H w (ρ.withM id w.heap.size) { H with mp := H.mp.set id [], next := Nat.max H.next (id + 1) } { w with heap := w.heap.push (.map #[] 0) } := by
  have hn := hH.not_mdom hid
  have hle := Inj.withM_le (r := w.heap.size) hn
  have hold : ∀ r, r < w.heap.size → (w.heap.push (Obj.map #[] 0))[r]? = w.heap[r]? := fun r hr => by
    rw [Array.getElem?_push, if_neg (by omega)]
  refine { le := hle, rel := ?_, os := rfl, tape := rfl, output := rfl, size := by simp, keep := fun r hr _ => hold r hr, fresh := ?_, newB := fun k I h h0 => (by have h' : ρ.b k = some I := h; rw [h0] at h'; cases h'), newM := ?_, still := fun _ _ h _ => h, stillM := ?_, next := Nat.le_max_left _ _, grow := fun k B h => ⟨B, h⟩, growM := ?_ }
  · refine { blk := fun k B I h1 h2 => ((hH.blk k B I h1 h2).mono hle).of_heap (hold _ (hH.img_lt h2)), dom := hH.dom, lt := fun k B h => Nat.lt_of_lt_of_le (hH.lt k B h) (Nat.le_max_left _ _), share := hH.share, ros := hH.ros, boxInj := hH.boxInj, anc := hH.anc, mp := ?_, mdom := ?_, mlt := ?_, minj := ?_ }
    · intro k es r h1 h2
      by_cases e : k = id
      · subst e
        rw [Inj.withM_self] at h2; cases h2
        rw [PM.get_set_same] at h1; cases h1
        exact ⟨#[], 0, by simp, trivial⟩
      · rw [Inj.withM_ne e] at h2
        rw [PM.get_set_ne _ _ (Ne.symm e)] at h1
        obtain ⟨es', cl, h3, h4⟩ := hH.mp k es r h1 h2
        exact ⟨es', cl, by simp only; rw [hold r (hH.map_lt h2)]; exact h3, h4.mono hle⟩
    · intro k r h
      by_cases e : k = id
      · subst e; exact ⟨_, PM.get_set_same _ _ _⟩
      · rw [Inj.withM_ne e] at h
        obtain ⟨es, he⟩ := hH.mdom k r h
        exact ⟨es, by rw [PM.get_set_ne _ _ (Ne.symm e)]; exact he⟩
    · intro k es h
      by_cases e : k = id
      · subst e; exact Nat.lt_of_lt_of_le (Nat.lt_succ_self _) (Nat.le_max_right _ _)
      · rw [PM.get_set_ne _ _ (Ne.symm e)] at h
        exact Nat.lt_of_lt_of_le (hH.mlt k es h) (Nat.le_max_left _ _)
    · intro k₁ k₂ r h1 h2
      by_cases e1 : k₁ = id
      · subst e1
        rw [Inj.withM_self] at h1; cases h1
        by_cases e2 : k₂ = k₁
        · exact e2.symm
        · rw [Inj.withM_ne e2] at h2
          have := hH.map_lt h2; omega
      · rw [Inj.withM_ne e1] at h1
        by_cases e2 : k₂ = id
        · subst e2
          rw [Inj.withM_self] at h2; cases h2
          have := hH.map_lt h1; omega
        · rw [Inj.withM_ne e2] at h2
          exact hH.minj k₁ k₂ r h1 h2
  · rintro r (⟨k, I, h1, h2, h3⟩ | ⟨k, h1⟩) hr
    · exact .inl ⟨k, I, h1, h2, h3⟩
    · by_cases e : k = id
      · subst e; rw [Inj.withM_self] at h1; cases h1; omega
      · rw [Inj.withM_ne e] at h1; exact .inr ⟨k, h1⟩
  · intro k r h h0
    by_cases e : k = id
    · subst e; exact hid
    · rw [Inj.withM_ne e, h0] at h; cases h
  · intro k es h h0
    simp only
    rw [PM.get_set_ne _ _ (fun e => by subst e; rw [hid] at h; cases h)]; exact h
  · intro k es h
    exact ⟨es, by simp only; rw [PM.get_set_ne _ _ (fun e => by subst e; rw [hid] at h; cases h)]; exact h⟩

/-- A map's entries are changed. -/
theorem sim_setMap (hH : HeapRel ρ H w) {k r : Nat} {es es2 : List (Value × Value)} {es' : Array MapEntry} {cl cl2 : Nat} {es2' : Array MapEntry} (hk : H.mp.get k = some es) (hr : ρ.m k = some r) (hw : w.heap[r]? = some (.map es' cl)) (he : EntR ρ es2 es2'.toList) :
    Sim ρ H w ρ { H with mp := H.mp.set k es2 } { w with heap := w.heap.setIfInBounds r (.map es2' cl2) } := by
  have hlt := hH.map_lt hr
  have hoth : ∀ j, j ≠ r → (w.heap.setIfInBounds r (Obj.map es2' cl2))[j]? = w.heap[j]? := fun j hj => by
    rw [Array.getElem?_setIfInBounds, if_neg (Ne.symm hj)]
  have hself : (w.heap.setIfInBounds r (Obj.map es2' cl2))[r]? = some (.map es2' cl2) := by simp [hlt]
  refine { le := .refl ρ, rel := ?_, os := rfl, tape := rfl, output := rfl, size := by simp, keep := fun j hj hm => hoth j (fun e => hm (.inr ⟨k, e ▸ hr⟩)), fresh := fun _ h _ => h, newB := fun k I h h0 => (by rw [h0] at h; cases h), newM := fun k I h h0 => (by rw [h0] at h; cases h), still := fun _ _ h _ => h, stillM := ?_, next := Nat.le_refl _, grow := fun k B h => ⟨B, h⟩, growM := ?_ }
  · refine { blk := ?_, dom := hH.dom, lt := hH.lt, share := hH.share, ros := hH.ros, boxInj := hH.boxInj, anc := hH.anc, mp := ?_, mdom := ?_, mlt := ?_, minj := hH.minj }
    · intro j B I h1 h2
      refine (hH.blk j B I h1 h2).of_heap (hoth _ (fun e => ?_))
      obtain ⟨c, ty, fr, g1, _⟩ := (hH.blk j B I h1 h2).row
      rw [e, hw] at g1; cases g1
    · intro j es3 r3 h1 h2
      by_cases e : j = k
      · subst e
        rw [hr] at h2; cases h2
        rw [PM.get_set_same] at h1; cases h1
        exact ⟨es2', cl2, hself, he⟩
      · rw [PM.get_set_ne _ _ (Ne.symm e)] at h1
        obtain ⟨es4, cl4, h3, h4⟩ := hH.mp j es3 r3 h1 h2
        refine ⟨es4, cl4, ?_, h4⟩
        simp only
        rw [hoth r3 (fun e' => e (by subst e'; exact hH.minj j k _ h2 hr))]; exact h3
    · intro j r3 h
      obtain ⟨es3, h3⟩ := hH.mdom j r3 h
      by_cases e : j = k
      · subst e; exact ⟨_, PM.get_set_same _ _ _⟩
      · exact ⟨es3, by rw [PM.get_set_ne _ _ (Ne.symm e)]; exact h3⟩
    · intro j es3 h
      by_cases e : j = k
      · subst e; exact hH.mlt _ es hk
      · rw [PM.get_set_ne _ _ (Ne.symm e)] at h; exact hH.mlt j es3 h
  · intro j es3 h h0
    simp only
    rw [PM.get_set_ne _ _ (fun e => by subst e; rw [hr] at h0; cases h0)]; exact h
  · intro j es3 h
    simp only
    rw [PM.get_set]
    by_cases e : k = j
    · simp [e]
    · simp [e, h]

section
variable {P : Program} {ev ev' : Operand → Value} {id : Nat} {v : Value} {H' : Heap} {o : Oper}

theorem keyEq_beq (a b : ByteArray) : keyEq (.string a) (.string b) = (a == b) := by
  rw [beq_toListBytes, ByteArray.toList_eq, ByteArray.toList_eq]; rfl
theorem keyOk_some {k : Value} (h : keyOk k = true) : ∃ s, k = .string s := by
  cases k <;> simp [keyOk] at h
  exact ⟨_, rfl⟩

theorem findNow_ok (s : ByteArray) : ∀ (es : List (Value × Value)) (es' : List MapEntry) (i : Nat), EntR ρ es es' →
    ∃ r, Instr.findNow .string (.string s) es' i = some r ∧ (match mapFind (.string s) es with
      | none => r = none
      | some v => ∃ v' j, r = some (j, v') ∧ VR ρ v v')
  | [], [], i, _ => ⟨none, rfl, rfl⟩
  | (k, v) :: es, e :: es', i, h => by
    obtain ⟨h1, h2, h3, h4⟩ := h
    obtain ⟨b, rfl⟩ := keyOk_some h1
    simp only [Instr.findNow, h2, Instr.sameNow, mapFind, keyEq_beq]
    by_cases hb : (s == b) = true
    · simp only [hb, if_true]
      exact ⟨_, rfl, e.val, i, rfl, h3⟩
    · simp only [Bool.not_eq_true] at hb
      simp only [hb, Bool.false_eq_true, if_false]
      exact findNow_ok s es es' (i + 1) h4
  | [], _ :: _, _, h => h.elim
  | _ :: _, [], _, h => h.elim

theorem checkKey_string (b : Bool) (d : Nat) {t : TypeId} (ht : P.underlying t = some .string) (s : ByteArray) : (Instr.checkKey b (d + 1) t (.string s)).run P w = .ok () w := by
  simp [Instr.checkKey, run_underlying ht]

theorem run_getObj_map' (r : Nat) (es : Array MapEntry) (cl : Nat) (h : w.heap[r]? = some (.map es cl)) : (getObj r).run P w = .ok (.map es cl) w := by
  simp [getObj, Sem.run, h]

theorem sim_makeMap (hH : HeapRel ρ H w) (hid : H.mp.get id = none) (t : TypeId) (ho : o.op = .makeMap t none) (h : evalOp ev H id .makeMap = some (v, H')) : OpSim P ρ H w ev' o v H' := by
  simp only [evalOp, Option.some.injEq, Prod.mk.injEq] at h
  obtain ⟨rfl, rfl⟩ := h
  exact ⟨.map (some w.heap.size), _, _, .inl (by simp [execOp, ho, Instr.makeMap, -World.alloc_eq]; rfl), .map Inj.withM_self, sim_newMap hH hid⟩

theorem sim_lookup (hH : HeapRel ρ H w) (t kt e : TypeId) (ht : P.underlying t = some (.map kt e)) (hkt : P.underlying kt = some .string) {z : Value} (hz : zeroOf P e = some z) (ok : Bool) (m k : Operand) (hm : VR ρ (ev m) (ev' m)) (hk : VR ρ (ev k) (ev' k)) (ho : o.op = .lookup t m k ok)
    (h : evalOp ev H id (.lookup z ok m k) = some (v, H')) : OpSim P ρ H w ev' o v H' := by
  have hzr := zeroOf_run hz w
  have hzv : VR ρ z z := zeroOf_vr hz
  simp only [evalOp] at h
  have two : ∀ (a b : Value) (c : Bool), VR ρ a b → VR ρ (.tuple #[a, .bool c]) (.tuple #[b, .bool c]) := fun a b c hab => VRL.tuple (VRL.cons hab (VRL.cons (.bool c) (VRL.nil ρ)))
  cases hko : keyOk (ev k) with
  | false => cases hm' : ev m <;> simp only [hm', hko] at h <;> (try (cases h; done)) <;> (rename_i r; cases r <;> cases h)
  | true =>
    obtain ⟨s, e2⟩ := keyOk_some hko
    rw [e2] at hk
    have h2 := scalar_eq hk rfl
    have hck : ∀ b, (Instr.checkKey b 10000 kt (.string s)).run P w = .ok () w := fun b => checkKey_string b 9999 hkt s
    cases e1 : ev m <;> simp only [e1, hko] at h <;> (try (cases h; done))
    rename_i r
    rw [e1] at hm
    cases r with
    | none =>
      simp only [Option.some.injEq, Prod.mk.injEq] at h
      obtain ⟨rfl, rfl⟩ := h
      have h1 : ev' m = .map none := by cases hm' : ev' m <;> rw [hm'] at hm <;> cases hm; rfl
      refine .same hH (v' := if ok then .tuple #[z, .bool false] else z) ?_ (by cases ok <;> simp [hzv, two])
      have hf : (Instr.findKey kt (.string s) []).run P w = .ok none w := by simp [Instr.findKey, run_underlying hkt, Instr.findNow]
      cases ok <;> simp [execOp, ho, Instr.lookup, run_underlying ht, h1, h2, hck, hf, hzr]
    | some r =>
      simp only at h
      cases hes : H.mp.get r with
      | none => simp [hes] at h
      | some es =>
        simp only [hes] at h
        have h1 : ∃ r', ev' m = .map (some r') ∧ ρ.m r = some r' := by cases hm' : ev' m <;> rw [hm'] at hm <;> cases hm; exact ⟨_, rfl, by assumption⟩
        obtain ⟨r', h1, h3⟩ := h1
        obtain ⟨es', cl, h4, h5⟩ := hH.mp r es r' hes h3
        obtain ⟨res, f1, f2⟩ := findNow_ok s es es'.toList 0 h5
        have hf : (Instr.findKey kt (.string s) es'.toList).run P w = .ok res w := by simp [Instr.findKey, run_underlying hkt, f1]
        have hg := run_getObj_map' (P := P) r' es' cl h4
        rw [e2] at h
        cases hmf : mapFind (.string s) es with
        | none =>
          simp only [hmf, Option.some.injEq, Prod.mk.injEq] at h f2
          obtain ⟨rfl, rfl⟩ := h
          subst f2
          refine .same hH (v' := if ok then .tuple #[z, .bool false] else z) ?_ (by cases ok <;> simp [hzv, two])
          cases ok <;> simp [execOp, ho, Instr.lookup, run_underlying ht, h1, h2, hg, hck, hf, hzr]
        | some u =>
          simp only [hmf, Option.some.injEq, Prod.mk.injEq] at h f2
          obtain ⟨rfl, rfl⟩ := h
          obtain ⟨u', j, rfl, hu⟩ := f2
          refine .same hH (v' := if ok then .tuple #[u', .bool true] else u') ?_ (by cases ok <;> simp [hu, two])
          cases ok <;> simp [execOp, ho, Instr.lookup, run_underlying ht, h1, h2, hg, hck, hf]

theorem findNow_at (s : ByteArray) : ∀ (es : List (Value × Value)) (es' : List MapEntry) (i : Nat), EntR ρ es es' → ∀ x x', VR ρ x x' →
    (mapFind (.string s) es = none ∧ Instr.findNow .string (.string s) es' i = some none ∧ mapPut (.string s) x es = es ++ [(.string s, x)]) ∨
    ∃ n v', n < es'.length ∧ Instr.findNow .string (.string s) es' i = some (some (i + n, v')) ∧ ∃ e, es'[n]? = some e ∧ (∃ b, e.key = .string b ∧ (s == b) = true) ∧ EntR ρ (mapPut (.string s) x es) (es'.modify n fun e => { e with key := .string s, val := x' })
  | [], [], i, _, x, x', _ => .inl ⟨rfl, rfl, rfl⟩
  | (k, v) :: es, e :: es', i, h, x, x', hx => by
    obtain ⟨h1, h2, h3, h4⟩ := h
    obtain ⟨b, rfl⟩ := keyOk_some h1
    simp only [Instr.findNow, h2, Instr.sameNow, mapFind, mapPut, keyEq_beq]
    by_cases hb : (s == b) = true
    · right
      refine ⟨0, e.val, by simp, by simp [hb], e, rfl, ⟨b, h2, hb⟩, ?_⟩
      simp only [hb, if_true, List.modify_zero_cons]
      have : s = b := by
        rw [beq_toListBytes, ByteArray.toList_eq, ByteArray.toList_eq, beq_iff_eq] at hb
        obtain ⟨⟨s⟩⟩ := s
        obtain ⟨⟨b⟩⟩ := b
        simp at hb
        rw [hb]
      subst this
      exact ⟨rfl, rfl, hx, h4⟩
    · simp only [Bool.not_eq_true] at hb
      simp only [hb, Bool.false_eq_true, if_false]
      rcases findNow_at s es es' (i + 1) h4 x x' hx with ⟨a1, a2, a3⟩ | ⟨n, v', a1, a2, e', a3, a4, a5⟩
      · exact .inl ⟨a1, a2, by rw [a3]; rfl⟩
      · refine .inr ⟨n + 1, v', by simp; omega, ?_, e', by simpa using a3, a4, ?_⟩
        · rw [a2]; congr 3; omega
        · simp only [List.modify_succ_cons]
          exact ⟨h1, h2, h3, a5⟩
  | [], _ :: _, _, h, _, _, _ => h.elim
  | _ :: _, [], _, h, _, _, _ => h.elim

theorem EntR.snoc {x x' : Value} {s : ByteArray} (hx : VR ρ x x') {n : Nat} : ∀ {es : List (Value × Value)} {es' : List MapEntry}, EntR ρ es es' → EntR ρ (es ++ [(.string s, x)]) (es' ++ [{ key := .string s, val := x', born := n }])
  | [], [], _ => ⟨rfl, rfl, hx, trivial⟩
  | (_, _) :: _, _ :: _, h => ⟨h.1, h.2.1, h.2.2.1, EntR.snoc hx h.2.2.2⟩
  | [], _ :: _, h => h.elim
  | _ :: _, [], h => h.elim

theorem sim_mapUpdate (hH : HeapRel ρ H w) (t kt e : TypeId) (ht : P.underlying t = some (.map kt e)) (hkt : P.underlying kt = some .string) (m k x : Operand) (hm : VR ρ (ev m) (ev' m)) (hk : VR ρ (ev k) (ev' k)) (hx : VR ρ (ev x) (ev' x)) (ho : o.op = .mapUpdate t m k x)
    (h : evalOp ev H id (.mapUpdate m k x) = some (v, H')) : OpSim P ρ H w ev' o v H' := by
  simp only [evalOp] at h
  cases hko : keyOk (ev k) with
  | false => cases hm' : ev m <;> simp only [hm', hko] at h <;> (try (cases h; done)) <;> (rename_i r; cases r <;> cases h)
  | true =>
    obtain ⟨s, e2⟩ := keyOk_some hko
    rw [e2] at hk
    have h2 := scalar_eq hk rfl
    have hck : ∀ b, (Instr.checkKey b 10000 kt (.string s)).run P w = .ok () w := fun b => checkKey_string b 9999 hkt s
    cases e1 : ev m <;> simp only [e1, hko] at h <;> (try (cases h; done))
    rename_i r
    rw [e1] at hm
    cases r with
    | none => simp only at h; cases h
    | some r =>
      simp only at h
      cases hes : H.mp.get r with
      | none => simp [hes] at h
      | some es =>
        simp only [hes, Option.some.injEq, Prod.mk.injEq] at h
        obtain ⟨rfl, rfl⟩ := h
        have h1 : ∃ r', ev' m = .map (some r') ∧ ρ.m r = some r' := by cases hm' : ev' m <;> rw [hm'] at hm <;> cases hm; exact ⟨_, rfl, by assumption⟩
        obtain ⟨r', h1, h3⟩ := h1
        obtain ⟨es', cl, h4, h5⟩ := hH.mp r es r' hes h3
        have hg := run_getObj_map' (P := P) r' es' cl h4
        rw [e2]
        rcases findNow_at s es es'.toList 0 h5 (ev x) (ev' x) hx with ⟨a1, a2, a3⟩ | ⟨n, v', a1, a2, en, a3, ⟨b, a4, a5⟩, a6⟩
        · have hf : (Instr.findKey kt (.string s) es'.toList).run P w = .ok none w := by simp [Instr.findKey, run_underlying hkt, a2]
          have hs := sim_setMap (cl2 := cl + 1) (es2' := es'.push { key := .string s, val := ev' x, born := cl }) hH hes h3 h4 (es2 := es ++ [(.string s, ev x)]) (by rw [Array.toList_push]; exact EntR.snoc hx h5)
          rw [a3]
          refine ⟨undef, _, ρ, .inr ⟨?_, rfl⟩, vr_undef, hs⟩
          simp [execOp, ho, Instr.mapUpdate, run_underlying ht, h1, h2, hg, hck, hf, setObj, Sem.run, h4]
        · have hf : (Instr.findKey kt (.string s) es'.toList).run P w = .ok (some (n, v')) w := by simp [Instr.findKey, run_underlying hkt, a2]
          have hs := sim_setMap (cl2 := cl) (es2' := es'.modify n fun e => { e with key := .string s, val := ev' x }) hH hes h3 h4 (es2 := mapPut (.string s) (ev x) es) (by simpa using a6)
          refine ⟨undef, _, ρ, .inr ⟨?_, rfl⟩, vr_undef, hs⟩
          have hgetd : ((es'[n]?).map (·.key)).getD (.string s) = .string b := by
            have : es'[n]? = some en := by simpa using a3
            simp [this, a4]
          have hstay : (Instr.keyThatStays (.string b) (.string s)).run P w = .ok (.string s) w := by
            have : (b == s) = true := by
              rw [beq_toListBytes, beq_iff_eq] at a5 ⊢; exact a5.symm
            simp [Instr.keyThatStays, Instr.sameBits, this]
          simp [execOp, ho, Instr.mapUpdate, run_underlying ht, h1, h2, hg, hck, hf, hgetd, hstay, setObj, Sem.run, h4]
end
end Go.Det
