/-
  One operation: the plain machine and the real one. First part: values alone.
-/
import Derived.Test.YtjoljcoimoablaaGreatDoorZd8
namespace Go.Det
variable {ρ : Inj} {H : Heap} {w : World}

theorem plain_vr (ρ : Inj) : ∀ (n : Nat) (v : Value), plainV n v = true → VR ρ v v := by
  intro n
  induction n with
  | zero => intro v h; simp [plainV] at h
  | succ n ih =>
    intro v h
    have hall : ∀ (xs : Array Value), xs.toList.all (plainV n) = true → ∀ (i : Nat) u u', xs[i]? = some u → xs[i]? = some u' → VR ρ u u' := fun xs hx i u u' a b => by
      rw [a] at b; cases b
      exact ih u (List.all_eq_true.1 hx u (by simpa using Array.mem_of_getElem? a))
    cases v with
    | bool b => exact .bool b
    | int k m => exact .int k m
    | float k m => exact .float k m
    | complex k a b => exact .complex k a b
    | string s => exact .string s
    | pointer a => cases a with
      | none => exact .ptr0
      | some a => simp [plainV] at h
    | slice a m c => cases a with
      | none => exact .slice0 m c
      | some a => simp [plainV] at h
    | map r => cases r with
      | none => exact .map0
      | some r => simp [plainV] at h
    | chan r => cases r with
      | none => exact .chan0
      | some r => simp [plainV] at h
    | func f a b => simp [plainV] at h
    | nilFunc => exact .nilFunc
    | iface t v => exact .iface t (ih v (by simpa [plainV] using h))
    | nilIface => exact .nilIface
    | agg xs => exact .agg rfl (hall xs (by simpa only [plainV] using h))
    | tuple xs => exact .tuple rfl (hall xs (by simpa only [plainV] using h))

/-- What an operation yields: a value; or nothing, and 'undef' is put. -/
def Yields (P : Program) (o : Oper) (ev' : Operand → Value) (w : World) (v' : Value) (w' : World) : Prop :=
  (execOp ev' o).run P w = .ok (.value v') w' ∨ ((execOp ev' o).run P w = .ok .skip w' ∧ v' = undef)

/-- The goal of one operation. -/
def OpSim (P : Program) (ρ : Inj) (H : Heap) (w : World) (ev' : Operand → Value) (o : Oper) (v : Value) (H' : Heap) : Prop :=
  ∃ v' w' ρ', Yields P o ev' w v' w' ∧ VR ρ' v v' ∧ Sim ρ H w ρ' H' w'

theorem OpSim.same {P : Program} {ev' : Operand → Value} {o : Oper} {v v' : Value} (hH : HeapRel ρ H w) (h : (execOp ev' o).run P w = .ok (.value v') w) (hv : VR ρ v v') : OpSim P ρ H w ev' o v H :=
  ⟨v', w, ρ, .inl h, hv, Sim.refl hH⟩
theorem pureOf_run {P : Program} {s : Sem Value} {v : Value} (h : pureOf s = some v) (w : World) : s.run P w = .ok v w := by
  cases s <;> simp [pureOf] at h
  subst h; rfl
theorem scalar_eq {v v' : Value} (h : VR ρ v v') (hs : scalar v = true) : v' = v := by
  cases h <;> first | rfl | simp [scalar] at hs
theorem intOf_eq {v v' : Value} (h : VR ρ v v') {n : Int} (hn : intOf? v = some n) : v' = v ∧ ∃ k, v = .int k n := by
  cases h <;> simp [intOf?] at hn
  subst hn; exact ⟨rfl, _, rfl⟩
theorem scalar_vr {v : Value} (h : scalar v = true) : VR ρ v v := by cases v <;> simp [scalar] at h <;> constructor
theorem scalars_some {r : Option Value} {H H' : Heap} {v : Value} (h : scalars r H = some (v, H')) : ∃ u, r = some u ∧ scalar u = true ∧ u = v ∧ H = H' := by
  unfold scalars at h
  cases r with
  | none => cases h
  | some u =>
    simp only at h
    split at h
    · rename_i hs
      simp only [Option.some.injEq, Prod.mk.injEq] at h
      exact ⟨u, rfl, hs, h.1, h.2⟩
    · cases h
theorem vr_undef : VR ρ undef undef := VRL.tuple (VRL.nil ρ)

section
variable {P : Program} {ev ev' : Operand → Value} {id : Nat} {v : Value} {H' : Heap} {o : Oper}

theorem sim_move (hH : HeapRel ρ H w) (x : Operand) (hx : VR ρ (ev x) (ev' x)) (ho : o.op = .move x ∨ o.op = .assign x) (h : evalOp ev H id (.move x) = some (v, H')) : OpSim P ρ H w ev' o v H' := by
  simp only [evalOp, Option.some.injEq, Prod.mk.injEq] at h
  obtain ⟨rfl, rfl⟩ := h
  refine .same hH (v' := ev' x) ?_ hx
  rcases ho with ho | ho <;> simp [execOp, ho]

theorem sim_pick (hH : HeapRel ρ H w) (c a b : Operand) (hc : VR ρ (ev c) (ev' c)) (ha : VR ρ (ev a) (ev' a)) (hb : VR ρ (ev b) (ev' b)) (ho : o.op = .pick c a b) (h : evalOp ev H id (.pick c a b) = some (v, H')) : OpSim P ρ H w ev' o v H' := by
  simp only [evalOp] at h
  cases e : ev c <;> simp [e] at h
  rename_i t
  obtain ⟨rfl, rfl⟩ := h
  have hc' : ev' c = .bool t := by rw [e] at hc; exact scalar_eq hc rfl
  refine .same hH (v' := if t then ev' a else ev' b) ?_ (by cases t <;> simp [ha, hb])
  cases t <;> simp [execOp, ho, hc', asBool]

theorem sim_bin (hH : HeapRel ρ H w) (op : BinOp) (t yt : TypeId) (x y : Operand) (hx : VR ρ (ev x) (ev' x)) (hy : VR ρ (ev y) (ev' y)) (ho : o.op = .binOp op t x y yt) (h : evalOp ev H id (.bin op t x y) = some (v, H')) : OpSim P ρ H w ev' o v H' := by
  simp only [evalOp] at h
  split at h
  · rename_i hs
    simp only [Bool.and_eq_true] at hs
    have h1 := scalar_eq hx hs.1
    have h2 := scalar_eq hy hs.2
    obtain ⟨u, hp, hu, rfl, rfl⟩ := scalars_some h
    have hr := pureOf_run (P := P) hp w
    have hg : (eqGuard op t x y (ev x) (ev y)).run P w = .ok () w := by
      generalize ev x = a at hs
      generalize ev y = b at hs
      cases a <;> simp [scalar] at hs <;> cases b <;> simp at hs <;> cases op <;> simp [eqGuard]
    exact .same hH (v' := u) (by simp [execOp, ho, h1, h2, hg, hr]) (scalar_vr hu)
  · cases h

theorem sim_un (hH : HeapRel ρ H w) (op : UnOp) (t : TypeId) (x : Operand) (hx : VR ρ (ev x) (ev' x)) (ho : o.op = .unOp op t x) (h : evalOp ev H id (.un op x) = some (v, H')) : OpSim P ρ H w ev' o v H' := by
  simp only [evalOp] at h
  split at h
  · rename_i hs
    have h1 := scalar_eq hx hs
    obtain ⟨u, hp, hu, rfl, rfl⟩ := scalars_some h
    have hr := pureOf_run (P := P) hp w
    exact .same hH (v' := u) (by simp [execOp, ho, h1, hr]) (scalar_vr hu)
  · cases h

theorem run_equalIn_bool (d : Nat) {t : TypeId} (ht : P.underlying t = some .bool) (a b : Bool) : (Op.equalIn (d + 1) t (.bool a) (.bool b)).run P w = .ok (a == b) w := by
  simp [Op.equalIn, run_underlying ht]
theorem run_equal_bool {t : TypeId} (ht : P.underlying t = some .bool) (a b : Bool) : (Op.equal t (.bool a) (.bool b)).run P w = .ok (a == b) w := run_equalIn_bool 9999 ht a b

theorem sim_eqBool (hH : HeapRel ρ H w) (op : BinOp) (t yt : TypeId) (hop : op = .eql ∨ op = .neq) (ht : P.underlying t = some .bool) (x y : Operand) (hx : VR ρ (ev x) (ev' x)) (hy : VR ρ (ev y) (ev' y)) (ho : o.op = .binOp op t x y yt)
    (h : evalOp ev H id (.eqBool (isNeq op) x y) = some (v, H')) : OpSim P ρ H w ev' o v H' := by
  simp only [evalOp] at h
  cases e1 : ev x <;> simp [e1] at h
  cases e2 : ev y <;> simp [e2] at h
  rename_i a b
  obtain ⟨rfl, rfl⟩ := h
  rw [e1] at hx; rw [e2] at hy
  have h1 := scalar_eq hx rfl
  have h2 := scalar_eq hy rfl
  rcases hop with rfl | rfl
  · refine .same hH (v' := .bool (a == b)) ?_ (.bool _)
    have hr := run_equal_bool (w := w) ht a b
    simp [execOp, ho, h1, h2, eqGuard, binOp, hr]
  · refine .same hH (v' := .bool (!(a == b))) ?_ (.bool _)
    have hr := run_equal_bool (w := w) ht a b
    simp [execOp, ho, h1, h2, eqGuard, binOp, hr]

theorem sim_convInt (hH : HeapRel ρ H w) (k : IntKind) (s t : TypeId) (j : IntKind) (hs : P.underlying s = some (.int j)) (ht : P.underlying t = some (.int k)) (x : Operand) (hx : VR ρ (ev x) (ev' x)) (ho : o.op = .convert s t x)
    (h : evalOp ev H id (.convInt k x) = some (v, H')) : OpSim P ρ H w ev' o v H' := by
  simp only [evalOp] at h
  cases e1 : ev x <;> simp [e1] at h
  rename_i l n
  obtain ⟨rfl, rfl⟩ := h
  rw [e1] at hx
  have h1 := scalar_eq hx rfl
  exact .same hH (v' := .int k (k.wrap n)) (by simp [execOp, ho, h1, convert, run_underlying hs, run_underlying ht, Conv.intToInt]) (.int _ _)

theorem sim_intToStr (hH : HeapRel ρ H w) (s t : TypeId) (j : IntKind) (hs : P.underlying s = some (.int j)) (ht : P.underlying t = some .string) (x : Operand) (hx : VR ρ (ev x) (ev' x)) (ho : o.op = .convert s t x)
    (h : evalOp ev H id (.intToStr x) = some (v, H')) : OpSim P ρ H w ev' o v H' := by
  simp only [evalOp] at h
  cases e1 : ev x <;> simp [e1] at h
  rename_i l n
  obtain ⟨rfl, rfl⟩ := h
  rw [e1] at hx
  have h1 := scalar_eq hx rfl
  exact .same hH (v' := .string (Utf8.encode n)) (by simp [execOp, ho, h1, convert, run_underlying hs, run_underlying ht, Conv.intToString]) (.string _)

theorem sim_strStr (hH : HeapRel ρ H w) (s t : TypeId) (hs : P.underlying s = some .string) (ht : P.underlying t = some .string) (x : Operand) (hx : VR ρ (ev x) (ev' x)) (ho : o.op = .convert s t x)
    (h : evalOp ev H id (.strStr x) = some (v, H')) : OpSim P ρ H w ev' o v H' := by
  simp only [evalOp] at h
  cases e1 : ev x <;> simp [e1] at h
  rename_i b
  obtain ⟨rfl, rfl⟩ := h
  rw [e1] at hx
  have h1 := scalar_eq hx rfl
  exact .same hH (v' := .string b) (by simp [execOp, ho, h1, convert, run_underlying hs, run_underlying ht]) (.string _)

theorem sim_iface (hH : HeapRel ρ H w) (t : TypeId) {d : TypeDesc} (ht : P.underlying t = some d) (hd : ∀ ms, d ≠ .interface ms) (x : Operand) (hx : VR ρ (ev x) (ev' x)) (ho : o.op = .makeInterface t x)
    (h : evalOp ev H id (.iface t x) = some (v, H')) : OpSim P ρ H w ev' o v H' := by
  simp only [evalOp, Option.some.injEq, Prod.mk.injEq] at h
  obtain ⟨rfl, rfl⟩ := h
  refine .same hH (v' := .iface t (ev' x)) ?_ (.iface t hx)
  cases d <;> first | exact absurd rfl (hd _) | simp [execOp, ho, Instr.makeInterface, run_underlying ht]

theorem sim_func (hH : HeapRel ρ H w) (f : FuncId) (first captured : Array Operand) (h1 : ∀ x ∈ first, VR ρ (ev x) (ev' x)) (h2 : ∀ x ∈ captured, VR ρ (ev x) (ev' x)) (ho : o.op = .makeFunc (.func f) first captured)
    (h : evalOp ev H id (.func f first.toList captured.toList) = some (v, H')) : OpSim P ρ H w ev' o v H' := by
  simp only [evalOp, Option.some.injEq, Prod.mk.injEq] at h
  obtain ⟨rfl, rfl⟩ := h
  have key : ∀ (xs : Array Operand), (∀ x ∈ xs, VR ρ (ev x) (ev' x)) → ∀ (i : Nat) u u', (xs.toList.map ev).toArray[i]? = some u → (xs.map ev')[i]? = some u' → VR ρ u u' := fun xs hx i u u' a b => by
    simp at a b
    obtain ⟨y, hy, rfl⟩ := a
    rw [hy] at b
    simp at b
    subst b
    exact hx y (Array.mem_of_getElem? hy)
  refine .same hH (v' := .func (.func f) (first.map ev') (captured.map ev')) ?_ (.func _ (by simp) (key first h1) (by simp) (key captured h2))
  simp [execOp, ho, Instr.makeFunc]

theorem sim_extract (hH : HeapRel ρ H w) (i : Nat) (x : Operand) (hx : VR ρ (ev x) (ev' x)) (ho : o.op = .extract x i) (h : evalOp ev H id (.extract i x) = some (v, H')) : OpSim P ρ H w ev' o v H' := by
  simp only [evalOp] at h
  cases e1 : ev x <;> simp [e1] at h
  rename_i vs
  obtain ⟨u, hu, rfl, rfl⟩ := h
  rw [e1] at hx
  cases hx' : ev' x <;> rw [hx'] at hx <;> cases hx
  rename_i ys h1 h2
  have hlt : i < ys.size := by rw [← h1]; exact (Array.getElem?_eq_some_iff.1 hu).1
  exact .same hH (v' := ys[i]) (by simp [execOp, ho, Instr.extract, hx', hlt]) (h2 i _ _ hu (by simp [hlt]))

theorem sim_nilCheck (hH : HeapRel ρ H w) (x : Operand) (hx : VR ρ (ev x) (ev' x)) (ho : o.op = .nilCheck x) (h : evalOp ev H id (.nilCheck x) = some (v, H')) : OpSim P ρ H w ev' o v H' := by
  simp only [evalOp] at h
  split at h
  · rename_i p e1
    simp only [Option.some.injEq, Prod.mk.injEq] at h
    obtain ⟨rfl, rfl⟩ := h
    rw [e1] at hx
    cases hx' : ev' x <;> rw [hx'] at hx <;> cases hx
    rename_i a' ha
    exact .same hH (v' := .pointer (some a')) (by simp [execOp, ho, hx']) (.ptr ha)
  · rename_i f a b e1
    simp only [Option.some.injEq, Prod.mk.injEq] at h
    obtain ⟨rfl, rfl⟩ := h
    rw [e1] at hx
    cases hx' : ev' x <;> rw [hx'] at hx <;> cases hx
    rename_i h1 h2 h3 h4
    exact .same hH (v' := .func (.func f) _ _) (by simp [execOp, ho, hx']) (.func _ h1 h2 h3 h4)
  · cases h

theorem partOf_run {t : TypeId} {n : Option Nat} (hn : aggN P t = some n) {cs cs' : Array Value} (hc : VRL ρ cs.toList cs'.toList) {off : Nat} {u : Value} (h : partOf cs.toList off n = some u) :
    ∃ u', VR ρ u u' ∧ (part t cs' off).run P w = .ok u' w := by
  unfold aggN at hn
  cases ht : P.underlying t with
  | none => simp [ht] at hn
  | some d =>
    simp only [ht] at hn
    have hinfo : ∃ i, P.info? t = some i := by
      unfold Program.underlying at ht
      cases hi : P.info? t with
      | none => simp [hi] at ht
      | some i => exact ⟨i, rfl⟩
    obtain ⟨i, hi⟩ := hinfo
    have hsz : P.cellsOf t = i.size := by simp [Program.cellsOf, hi]
    by_cases ha : isAggD d = true
    · rw [if_pos ha] at hn
      cases hn
      simp only [partOf, hsz] at h
      split at h
      · rename_i hle
        simp only [Option.some.injEq] at h
        subst h
        have hag : (isAgg t).run P w = .ok true w := by
          cases d <;> simp [isAggD] at ha <;> simp [isAgg, run_underlying ht]
        refine ⟨.agg (cs'.extract off (off + i.size)), ?_, ?_⟩
        · have := ((hc.drop off).take i.size).agg
          have e2 : cs'.extract off (off + i.size) = ((cs'.toList.drop off).take i.size).toArray := by
            apply Array.ext'
            simp
          rw [e2]; exact this
        · simp [part, hag, sizeOf, typeInfo, hi]
      · cases h
    · rw [if_neg ha] at hn
      cases hn
      simp only [partOf] at h
      obtain ⟨u', h1, h2⟩ := hc.get h
      refine ⟨u', h2, ?_⟩
      have hag : (isAgg t).run P w = .ok false w := by
        cases d <;> simp [isAggD] at ha <;> simp [isAgg, run_underlying ht]
      have h1' : cs'[off]? = some u' := by simpa using h1
      simp [part, hag, h1']

theorem sim_field (hH : HeapRel ρ H w) (s : TypeId) (i : Nat) {f : Field} (hf : fieldOf P s i = some f) {n : Option Nat} (hn : aggN P f.type = some n) (x : Operand) (hx : VR ρ (ev x) (ev' x)) (ho : o.op = .field s x i)
    (h : evalOp ev H id (.field f.offset n x) = some (v, H')) : OpSim P ρ H w ev' o v H' := by
  simp only [evalOp] at h
  cases e1 : ev x <;> simp [e1] at h
  rename_i cs
  obtain ⟨u, hu, rfl, rfl⟩ := h
  rw [e1] at hx
  cases hx' : ev' x <;> rw [hx'] at hx <;> cases hx
  rename_i ys h1 h2
  obtain ⟨u', hv, hr⟩ := partOf_run (P := P) (w := w) hn (VRL.of_arr h1 h2) hu
  unfold fieldOf at hf
  cases ht : P.underlying s with
  | none => simp [ht] at hf
  | some d =>
    cases d <;> simp [ht] at hf
    rename_i fs
    exact .same hH (v' := u') (by simp [execOp, ho, Instr.field, run_underlying ht, hf, hx', asAgg, hr]) hv

theorem sim_indexArr (hH : HeapRel ρ H w) (t e : TypeId) (len : Nat) (ht : P.underlying t = some (.array len e)) {n : Option Nat} (hn : aggN P e = some n) (x i : Operand) (hx : VR ρ (ev x) (ev' x)) (hi : VR ρ (ev i) (ev' i)) (ho : o.op = .index t x i)
    (h : evalOp ev H id (.indexArr len (P.cellsOf e) n x i) = some (v, H')) : OpSim P ρ H w ev' o v H' := by
  simp only [evalOp] at h
  cases e1 : ev x <;> simp [e1] at h
  rename_i cs
  cases e2 : intOf? (ev i) with
  | none => simp [e2] at h
  | some j =>
    simp only [e2] at h
    split at h
    · rename_i hj
      simp at h
      obtain ⟨u, hu, rfl, rfl⟩ := h
      obtain ⟨q1, k, q2⟩ := intOf_eq hi e2
      rw [e1] at hx
      cases hx' : ev' x <;> rw [hx'] at hx <;> cases hx
      rename_i ys h1 h2
      obtain ⟨u', hv, hr⟩ := partOf_run (P := P) (w := w) hn (VRL.of_arr h1 h2) hu
      have hinfo : ∃ q, P.info? e = some q := by
        unfold aggN Program.underlying at hn
        cases hq : P.info? e with
        | none => simp [hq] at hn
        | some q => exact ⟨q, rfl⟩
      obtain ⟨q, hq⟩ := hinfo
      have hsz : P.cellsOf e = q.size := by simp [Program.cellsOf, hq]
      rw [hsz] at hr
      exact .same hH (v' := u') (by simp [execOp, ho, Instr.index, run_underlying ht, hx', q1, q2, asIntOf, hj, sizeOf, typeInfo, hq, hr]) hv
    · cases h

theorem sim_indexStr (hH : HeapRel ρ H w) (t : TypeId) (ht : P.underlying t = some .string) (x i : Operand) (hx : VR ρ (ev x) (ev' x)) (hi : VR ρ (ev i) (ev' i)) (ho : o.op = .index t x i)
    (h : evalOp ev H id (.indexStr x i) = some (v, H')) : OpSim P ρ H w ev' o v H' := by
  simp only [evalOp] at h
  cases e1 : ev x <;> simp [e1] at h
  rename_i s
  cases e2 : intOf? (ev i) with
  | none => simp [e2] at h
  | some j =>
    simp only [e2] at h
    split at h
    · rename_i hj
      cases e3 : s.data.toList[j.toNat]? with
      | none => simp at e3; simp [Array.getElem?_eq_none e3] at h
      | some b =>
        have e3' : s.data[j.toNat]? = some b := by simpa using e3
        simp [e3'] at h
        obtain ⟨rfl, rfl⟩ := h
        obtain ⟨q1, k, q2⟩ := intOf_eq hi e2
        rw [e1] at hx
        have h1 := scalar_eq hx rfl
        have hb : s[j.toNat]? = some b := by
          have hlt := (Array.getElem?_eq_some_iff.1 e3').1
          have hlt' : j.toNat < s.size := hlt
          rw [getElem?_pos s j.toNat hlt']
          congr 1
          exact (Array.getElem?_eq_some_iff.1 e3').2
        exact .same hH (v' := .int .u8 b.toNat) (by simp [execOp, ho, Instr.index, run_underlying ht, h1, q1, q2, asIntOf, hj, hb]) (.int _ _)
    · cases h

theorem sim_assertT (hH : HeapRel ρ H w) (xt t : TypeId) {d : TypeDesc} (ht : P.underlying t = some d) (hd : ∀ ms, d ≠ .interface ms) {z : Value} (hz : zeroOf P t = some z) (x : Operand) (hx : VR ρ (ev x) (ev' x)) (ho : o.op = .typeAssert x xt t true)
    (h : evalOp ev H id (.assertT t z x) = some (v, H')) : OpSim P ρ H w ev' o v H' := by
  have hzi : (zeroValue t).run P w = .ok z w ∧ VR ρ z z := by
    unfold zeroOf at hz
    cases hi : P.info? t with
    | none => simp [hi] at hz
    | some i =>
      cases hiz : i.zero with
      | none => simp [hi, hiz] at hz
      | some y =>
        simp only [hi, Option.bind_some, hiz] at hz
        split at hz
        · rename_i hp
          cases hz
          exact ⟨by simp [zeroValue, typeInfo, hi, hiz], plain_vr ρ 30 _ hp⟩
        · cases hz
  have two : ∀ (a b : Value) (c : Bool), VR ρ a b → VR ρ (.tuple #[a, .bool c]) (.tuple #[b, .bool c]) := fun a b c hab => VRL.tuple (VRL.cons hab (VRL.cons (.bool c) (VRL.nil ρ)))
  simp only [evalOp] at h
  cases e1 : ev x <;> simp [e1] at h
  case iface u y =>
    obtain ⟨rfl, rfl⟩ := h
    rw [e1] at hx
    cases hx' : ev' x <;> rw [hx'] at hx <;> cases hx
    rename_i y' hy
    by_cases hu : u = t
    · subst hu
      refine .same hH (v' := .tuple #[y', .bool true]) ?_ (by simp; exact two _ _ _ hy)
      cases d <;> first | exact absurd rfl (hd _) | simp [execOp, ho, Instr.typeAssert, run_underlying ht, hx']
    · refine .same hH (v' := .tuple #[z, .bool false]) ?_ (by simp [hu]; exact two _ _ _ hzi.2)
      cases d <;> first | exact absurd rfl (hd _) | simp [execOp, ho, Instr.typeAssert, run_underlying ht, hx', hu, hzi.1]
  case nilIface =>
    obtain ⟨rfl, rfl⟩ := h
    rw [e1] at hx
    cases hx' : ev' x <;> rw [hx'] at hx <;> cases hx
    refine .same hH (v' := .tuple #[z, .bool false]) ?_ (two _ _ _ hzi.2)
    cases d <;> first | exact absurd rfl (hd _) | simp [execOp, ho, Instr.typeAssert, run_underlying ht, hx', hzi.1]
end
end Go.Det
