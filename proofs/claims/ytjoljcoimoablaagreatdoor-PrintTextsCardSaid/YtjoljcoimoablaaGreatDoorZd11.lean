/-
  One operation: third part: structs, loads, stores, places.
-/
import Derived.Test.YtjoljcoimoablaaGreatDoorZd10
namespace Go.Det
variable {ρ : Inj} {H : Heap} {w : World}
section
variable {P : Program} {ev ev' : Operand → Value} {id : Nat} {v : Value} {H' : Heap} {o : Oper}

theorem map_pair (parts : Array (Nat × Operand)) : (parts.map fun (i, x) => (i, ev' x)).toList = parts.toList.map fun (i, x) => (i, ev' x) := by simp

theorem mapM_some {α β : Type} {f : α → Option β} : ∀ {l : List α} {r : List β}, l.mapM f = some r → r.length = l.length ∧ ∀ (i : Nat) a b, l[i]? = some a → r[i]? = some b → f a = some b
  | [], r, h => by simp at h; subst h; simp
  | a :: l, r, h => by
    simp only [List.mapM_cons, Option.bind_eq_bind, Option.bind_eq_some_iff, Option.pure_def, Option.some.injEq] at h
    obtain ⟨b, hb, bs, hbs, rfl⟩ := h
    obtain ⟨h1, h2⟩ := mapM_some hbs
    refine ⟨by simp [h1], fun i x y e1 e2 => ?_⟩
    cases i with
    | zero => simp at e1 e2; subst e1; subst e2; exact hb
    | succ i => simp at e1 e2; exact h2 i x y e1 e2

theorem sim_build (hH : HeapRel ρ H w) (t : TypeId) {z : Value} (hz : zeroOf P t = some z) (parts : Array (Nat × Operand)) {ps : List (Nat × Nat × Operand)} (hp : places P t parts = some ps) (hv : ∀ q ∈ parts, VR ρ (ev q.2) (ev' q.2))
    (ho : o.op = .build t parts) (h : evalOp ev H id (.build z.cells.toList ps) = some (v, H')) : OpSim P ρ H w ev' o v H' := by
  simp only [evalOp] at h
  cases hl : lay ev z.cells.toList ps with
  | none => simp [hl] at h
  | some cs =>
    simp [hl] at h
    obtain ⟨rfl, rfl⟩ := h
    have hzr := zeroOf_run hz w
    have hzc : VRL ρ z.cells.toList z.cells.toList := (zeroOf_vr hz).cells
    unfold places at hp
    cases ht : P.underlying t with
    | none => simp [ht] at hp
    | some d =>
      cases d <;> simp only [ht] at hp <;> try cases hp
      case array n e =>
        cases hq : P.info? e with
        | none => simp [hq] at hp
        | some q =>
          simp only [hq, Option.some.injEq] at hp
          subst hp
          obtain ⟨out', o1, o2⟩ := fill_lay (ρ := ρ) (ev := ev) (ev' := ev') (fun i => some (i * q.size, q.size)) parts.toList _ _ _ cs (by simp) (fun i a b e1 e2 => by
            simp only [List.getElem?_map, e1, Option.map_some, Option.some.injEq] at e2; subst e2; exact ⟨rfl, rfl⟩) (fun a ha => hv a (by simpa using ha)) hzc hl
          refine .same hH (v' := .agg out'.toArray) ?_ o1.agg
          simp [execOp, ho, Instr.build, hzr, run_underlying ht, sizeOf, typeInfo, hq]
          simp at o2
          rw [o2]
          simp
      case struct fs =>
        cases hpl : fs.toList.mapM (fun f => (P.info? f.type).map fun i => (f.offset, i.size)) with
        | none => simp only [hpl] at hp; cases hp
        | some pl =>
          simp only [hpl] at hp
          obtain ⟨m1, m2⟩ := mapM_some hp
          obtain ⟨out', o1, o2⟩ := fill_lay (ρ := ρ) (ev := ev) (ev' := ev') (fun i => pl[i]?) parts.toList _ _ _ cs m1 (fun i a b e1 e2 => by
            have := m2 i a b e1 e2
            cases hpp : pl[a.1]? with
            | none => rw [hpp] at this; cases this
            | some y => rw [hpp] at this; simp at this; subst this; exact ⟨rfl, rfl⟩) (fun a ha => hv a (by simpa using ha)) hzc hl
          refine .same hH (v' := .agg out'.toArray) ?_ o1.agg
          have hrp := run_places (P := P) w fs.toList pl hpl
          simp [execOp, ho, Instr.build, hzr, run_underlying ht, Array.mapM_eq_mapM_toList, hrp]
          simp at o2
          rw [o2]
          simp

theorem zeros_get (zero : List Value) (hz : 0 < zero.length) : ∀ (n : Nat), (zeros zero n).length = n * zero.length ∧ ∀ i, i < n * zero.length → (zeros zero n)[i]? = zero[i % zero.length]?
  | 0 => ⟨by simp [zeros], fun i hi => by omega⟩
  | n + 1 => by
    obtain ⟨h1, h2⟩ := zeros_get zero hz n
    have hm : (n + 1) * zero.length = zero.length + n * zero.length := by rw [Nat.add_mul]; omega
    refine ⟨by simp [zeros, h1, hm], fun i hi => ?_⟩
    simp only [zeros]
    by_cases hlt : i < zero.length
    · rw [List.getElem?_append_left hlt, Nat.mod_eq_of_lt hlt]
    · rw [List.getElem?_append_right (by omega), h2 _ (by omega)]
      congr 1
      conv => rhs; rw [show i = (i - zero.length) + zero.length by omega]
      rw [Nat.add_mod_right]
theorem zeros_range (z : Array Value) (n : Nat) (hz : 0 < z.size) : ((Array.range (n * z.size)).map (z[· % z.size]!)) = (zeros z.toList n).toArray := by
  apply Array.ext'
  obtain ⟨h1, h2⟩ := zeros_get z.toList (by simpa using hz) n
  apply List.ext_getElem?
  intro i
  by_cases hi : i < n * z.size
  · have := h2 i (by simpa using hi)
    rw [this]
    have hlt : i % z.size < z.size := Nat.mod_lt _ hz
    simp [hi, hlt]
  · rw [List.getElem?_eq_none (by simpa using Nat.le_of_not_lt hi), List.getElem?_eq_none (by rw [h1]; simpa using Nat.le_of_not_lt hi)]
theorem zeros_vrl {zs : List Value} (h : VRL ρ zs zs) : ∀ n, VRL ρ (zeros zs n) (zeros zs n)
  | 0 => VRL.nil ρ
  | n + 1 => h.append (zeros_vrl h n)

theorem row_slice {I : Img} {id len cap esz : Nat} (_hk : I.kind = .row) (ho : I.o = 0) (hn0 : I.n0 = cap * esz) (hez : I.esz = esz) (hle : len ≤ cap) (_hcs : cap * esz ≤ I.cs) : VR (ρ.with id I) (.slice (some ⟨id, 0, none⟩) len cap) (.slice (some ⟨I.r, 0, none⟩) len cap) :=
  .slice ⟨rfl, hle, I, Inj.with_self, by simp [ho], fun _ => by simp [hn0, hez], .inl rfl⟩

theorem sim_buildSlice (hH : HeapRel ρ H w) (hid : H.blk.get id = none) (t e : TypeId) (ht : P.underlying t = some (.slice e)) {z : Value} (hz : zeroOf P e = some z) (len : Nat) (hlim : len * P.cellsOf e ≤ 2 ^ 24) (hzs : z.cells.size = P.cellsOf e) (hpos : 0 < P.cellsOf e)
    (parts : Array (Nat × Operand)) (hv : ∀ q ∈ parts, VR ρ (ev q.2) (ev' q.2)) (ho : o.op = .buildSlice t len parts)
    (h : evalOp ev H id (.buildSlice len (P.cellsOf e) z.cells.toList (parts.toList.map fun q => (q.1 * P.cellsOf e, P.cellsOf e, q.2))) = some (v, H')) : OpSim P ρ H w ev' o v H' := by
  obtain ⟨i, hi, hiz, _⟩ := zeroOf_some hz
  have hsz := cellsOf_eq hi
  rw [hsz] at h hlim hzs hpos
  simp only [evalOp] at h
  cases hl : lay ev (zeros z.cells.toList len) (parts.toList.map fun q => (q.1 * i.size, i.size, q.2)) with
  | none => simp [hl] at h
  | some cs =>
    simp only [hl] at h
    split at h
    · rename_i hc
      simp only [Bool.and_eq_true, decide_eq_true_eq] at hc
      simp only [Option.some.injEq, Prod.mk.injEq] at h
      obtain ⟨rfl, rfl⟩ := h
      have hzc : VRL ρ z.cells.toList z.cells.toList := (zeroOf_vr hz).cells
      obtain ⟨out', o1, o2⟩ := fill_lay (ρ := ρ) (ev := ev) (ev' := ev') (fun k => some (k * i.size, i.size)) parts.toList _ _ _ cs (by simp) (fun k a b e1 e2 => by
            simp only [List.getElem?_map, e1, Option.map_some, Option.some.injEq] at e2; subst e2; exact ⟨rfl, rfl⟩) (fun a ha => hv a (by simpa using ha)) (zeros_vrl hzc len) hl
      have hs := sim_new hH hid o1 [] .row i.size e w.drawn [] (fun _ => rfl) (fun p hp => by cases hp)
      simp only [List.append_nil] at hs
      have hlen : out'.length = len * i.size := by rw [← o1.1, ← hc.2]
      refine ⟨_, _, _, .inl ?_, row_slice rfl rfl (by rw [← hc.2]) rfl (Nat.le_refl _) (by simp [hlen]), hs⟩
      have hzr := zeroOf_run hz w
      have hrange : (if len * i.size = 0 then (#[] : Array Value) else z.cells) = z.cells ∨ len * i.size = 0 := by
        by_cases h0 : len * i.size = 0
        · exact .inr h0
        · exact .inl (by rw [if_neg h0])
      have hne : ¬ (2 ^ 24 < len * i.size) := by omega
      simp at o2
      by_cases h0 : len * i.size = 0
      · have hl0 : len = 0 := by rcases Nat.mul_eq_zero.1 h0 with h | h <;> omega
        subst hl0
        simp [zeros] at o2
        simp [execOp, ho, Instr.buildSlice, run_underlying ht, sizeOf, typeInfo, hi]
        rw [show Array.map (fun _ => (default : Value)) (Array.range 0) = #[] from Array.ext' (by simp), o2]
        simp [newRow]
      · have hzz := zeros_range z.cells len (by omega)
        rw [hzs] at hzz
        have h0a : len ≠ 0 := fun e => h0 (by simp [e])
        have h0b : i.size ≠ 0 := by omega
        have hne' : ¬ (16777216 < len * i.size) := by omega
        simp [execOp, ho, Instr.buildSlice, run_underlying ht, sizeOf, typeInfo, hi, hzr, hne', hzs]
        rw [hzz]
        rw [o2]
        simp [newRow]
        exact fun hh => absurd hh h0
    · cases h

/-! ### Loads and stores -/
theorem loadVar_run {t : TypeId} {n : Option Nat} (hn : aggN P t = some n) (hH : HeapRel ρ H w) {a a' : Addr} (ha : AR ρ a a') {u : Value}
    (h : H.loadN a n = some u) :
    ∃ u', VR ρ u u' ∧ (loadVar t a').run P w = .ok u' w := by
  unfold aggN at hn
  cases ht : P.underlying t with
  | none => simp [ht] at hn
  | some d =>
    simp only [ht] at hn
    obtain ⟨i, hi⟩ := info_of_under ht
    by_cases hd : isAggD d = true
    · rw [if_pos hd] at hn
      cases hn
      simp only [Heap.loadN, cellsOf_eq hi] at h
      cases hl : H.look a i.size with
      | none => simp [hl] at h
      | some cs =>
        simp [hl] at h
        subst h
        obtain ⟨cs', h1, h2, _⟩ := look_run P hH ha hl
        have hag : (isAgg t).run P w = .ok true w := by
          cases d <;> simp [isAggD] at hd <;> simp [isAgg, run_underlying ht]
        refine ⟨.agg cs'.toArray, h1.agg, ?_⟩
        simp [loadVar, hag, sizeOf, typeInfo, hi, h2]
    · rw [if_neg hd] at hn
      cases hn
      simp only [Heap.loadN] at h
      cases hl : H.look a 1 with
      | none => simp [hl] at h
      | some cs =>
        obtain ⟨cs', h1, h2, h3⟩ := look_ok hH ha hl
        match cs, h2, hl, h with
        | [u0], _, hl, h =>
          simp [hl] at h
          subst h
          obtain ⟨u', ys, rfl, h4, h5⟩ := h1.uncons
          have h0 := h3 0 u' rfl
          obtain ⟨_, I, _, rfl⟩ := ha
          have hag : (isAgg t).run P w = .ok false w := by
            cases d <;> simp [isAggD] at hd <;> simp [isAgg, run_underlying ht]
          refine ⟨u', h4, ?_⟩
          rw [Addr.add_lit] at h0
          simp at h0
          simp [loadVar, hag, h0]

theorem sim_load (hH : HeapRel ρ H w) (t : TypeId) {n : Option Nat} (hn : aggN P t = some n) (a : Operand) (ha : VR ρ (ev a) (ev' a)) (ho : o.op = .load t a) (h : evalOp ev H id (.load n a) = some (v, H')) : OpSim P ρ H w ev' o v H' := by
  simp only [evalOp] at h
  cases e1 : ev a <;> simp only [e1] at h <;> try cases h
  rename_i p
  cases p with
  | none => cases h
  | some p =>
    simp only at h
    rw [e1] at ha
    obtain ⟨a', h1, h2⟩ := vr_ptr ha
    cases hv : H.loadN p n with
    | none => simp [hv] at h
    | some u =>
    simp only [hv, Option.map_some, Option.some.injEq, Prod.mk.injEq] at h
    obtain ⟨rfl, rfl⟩ := h
    obtain ⟨u', h3, h4⟩ := loadVar_run hn hH h2 hv
    exact .same hH (v' := u') (by simp [execOp, ho, Instr.loadAt, h1, Instr.sureAddr, h4]) h3

theorem sim_store (hH : HeapRel ρ H w) (t : TypeId) {i : TypeInfo} (hi : P.info? t = some i) (a x : Operand) (ha : VR ρ (ev a) (ev' a)) (hx : VR ρ (ev x) (ev' x)) (ho : o.op = .store t a x) (h : evalOp ev H id (.store (P.cellsOf t) a x) = some (v, H')) : OpSim P ρ H w ev' o v H' := by
  simp only [evalOp] at h
  cases e1 : ev a <;> simp only [e1] at h <;> try cases h
  rename_i p
  cases p with
  | none => cases h
  | some p =>
    simp only [cellsOf_eq hi] at h
    split at h
    · rename_i hlen
      cases hw : H.write p (ev x).cells.toList with
      | none => simp [hw] at h
      | some H1 =>
        simp [hw] at h
        obtain ⟨rfl, rfl⟩ := h
        rw [e1] at ha
        obtain ⟨a', h1, h2⟩ := vr_ptr ha
        obtain ⟨w', h3, h4⟩ := write_sim P hH h2 hx.cells hw
        refine ⟨undef, w', ρ, .inr ⟨?_, rfl⟩, vr_undef, h4⟩
        have hsz : (ev' x).cells.size = i.size := by
          have := hx.cells.1
          simp at this hlen; omega
        simp [execOp, ho, Instr.storeAt, h1, Instr.sureAddr, storeVar, sizeOf, typeInfo, hi, hsz, h3]
    · cases h
end
end Go.Det
