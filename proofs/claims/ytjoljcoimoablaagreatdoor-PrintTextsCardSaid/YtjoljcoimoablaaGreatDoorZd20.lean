/-
  What a region that draws is asked for: the order that was put, and heaps with one block more.
-/
import Derived.Test.YtjoljcoimoablaaGreatDoorZd19
namespace Go.Det
variable {ρ : Inj} {H : Heap} {w : World}

theorem veqN_eq : ∀ (n : Nat) (a b : Value), veqN n a b = true → a = b := by
  intro n
  induction n with
  | zero => intro a b h; simp [veqN] at h
  | succ n ih =>
    have all : ∀ (xs ys : List Value), veqN.all n xs ys = true → xs = ys := by
      intro xs
      induction xs with
      | nil => intro ys h; cases ys <;> simp [veqN.all] at h; rfl
      | cons x xs ihx =>
        intro ys h
        cases ys with
        | nil => simp [veqN.all] at h
        | cons y ys =>
          simp only [veqN.all, Bool.and_eq_true] at h
          rw [ih _ _ h.1, ihx _ h.2]
    intro a b h
    cases a <;> cases b <;> first | (simp [veqN] at h; done) | skip
    case bool => simp [veqN] at h; rw [h]
    case int => simp [veqN] at h; rw [h.1, h.2]
    case string x y =>
      simp only [veqN, beq_iff_eq] at h
      congr 1
      cases x; cases y
      simp at h
      exact congrArg ByteArray.mk h
    case pointer => simp [veqN] at h; rw [h]
    case slice => simp [veqN] at h; rw [h.1.1, h.1.2, h.2]
    case map => simp [veqN] at h; rw [h]
    case nilFunc => rfl
    case nilIface => rfl
    case iface t x u y =>
      simp only [veqN, Bool.and_eq_true, beq_iff_eq] at h
      rw [h.1, ih _ _ h.2]
    case agg x y =>
      simp only [veqN] at h
      have := all _ _ h
      cases x; cases y; simp at this; rw [this]
    case tuple x y =>
      simp only [veqN] at h
      have := all _ _ h
      cases x; cases y; simp at this; rw [this]

/-! ### Heaps -/
structure Heap.same (H H2 : Heap) : Prop where
  blk : ∀ k, H.blk.get k = H2.blk.get k
  mp : ∀ k, H.mp.get k = H2.mp.get k
theorem HeapRel.ext {H2 : Heap} (h : HeapRel ρ H w) (e : H.same H2) (hn : H.next ≤ H2.next) : HeapRel ρ H2 w where
  blk := fun k B I h1 h2 => h.blk k B I (by rw [e.blk]; exact h1) h2
  dom := fun k I h1 => by rw [← e.blk]; exact h.dom k I h1
  lt := fun k B h1 => Nat.lt_of_lt_of_le (h.lt k B (by rw [e.blk]; exact h1)) hn
  share := fun k₁ k₂ B₁ B₂ I₁ I₂ hk a b => h.share k₁ k₂ B₁ B₂ I₁ I₂ hk (by rw [e.blk]; exact a) (by rw [e.blk]; exact b)
  ros := h.ros
  boxInj := h.boxInj
  anc := fun k B I p a => h.anc k B I p (by rw [e.blk]; exact a)
  mp := fun k es r a => h.mp k es r (by rw [e.mp]; exact a)
  mdom := fun k r a => by rw [← e.mp]; exact h.mdom k r a
  mlt := fun k es a => Nat.lt_of_lt_of_le (h.mlt k es (by rw [e.mp]; exact a)) hn
  minj := h.minj

def Heap.del (H : Heap) (id : Nat) : Heap := { H with blk := H.blk.del id }
theorem del_get {id k : Nat} {B : Blk} : (H.del id).blk.get k = some B ↔ id ≠ k ∧ H.blk.get k = some B := by
  simp only [Heap.del, PM.get_del]
  split <;> simp_all
theorem HeapRel.del (h : HeapRel ρ H w) {id : Nat} (hid : ρ.b id = none) : HeapRel ρ (H.del id) w where
  blk := fun k B I h1 h2 => h.blk k B I (del_get.1 h1).2 h2
  dom := fun k I h1 => by
    obtain ⟨B, hB⟩ := h.dom k I h1
    exact ⟨B, del_get.2 ⟨(fun e => by subst e; rw [hid] at h1; cases h1), hB⟩⟩
  lt := fun k B h1 => h.lt k B (del_get.1 h1).2
  share := fun k₁ k₂ B₁ B₂ I₁ I₂ hk a b => h.share k₁ k₂ B₁ B₂ I₁ I₂ hk (del_get.1 a).2 (del_get.1 b).2
  ros := h.ros
  boxInj := h.boxInj
  anc := fun k B I p a => h.anc k B I p (del_get.1 a).2
  mp := h.mp
  mdom := h.mdom
  mlt := h.mlt
  minj := h.minj

theorem make_get {id k : Nat} {b B : Blk} : (H.make id b).blk.get k = some B ↔ (id = k ∧ b = B) ∨ (id ≠ k ∧ H.blk.get k = some B) := by
  simp only [Heap.make, PM.get_set]
  split <;> simp_all
theorem HeapRel.make_un (h : HeapRel ρ H w) {id : Nat} (b : Blk) (hid : H.blk.get id = none) : HeapRel ρ (H.make id b) w := by
  have hr := h.not_dom hid
  have old : ∀ k B I, (H.make id b).blk.get k = some B → ρ.b k = some I → H.blk.get k = some B := fun k B I h1 h2 => by
    rcases make_get.1 h1 with ⟨e, _⟩ | ⟨_, e⟩
    · subst e; rw [hr] at h2; cases h2
    · exact e
  exact {
    blk := fun k B I h1 h2 => h.blk k B I (old k B I h1 h2) h2
    dom := fun k I h1 => by
      obtain ⟨B, hB⟩ := h.dom k I h1
      exact ⟨B, make_get.2 (.inr ⟨(fun e => by subst e; rw [hr] at h1; cases h1), hB⟩)⟩
    lt := fun k B h1 => by
      rcases make_get.1 h1 with ⟨e, _⟩ | ⟨_, e⟩
      · subst e; exact Nat.lt_of_lt_of_le (Nat.lt_succ_self _) (Nat.le_max_right _ _)
      · exact Nat.lt_of_lt_of_le (h.lt k B e) (Nat.le_max_left _ _)
    share := fun k₁ k₂ B₁ B₂ I₁ I₂ hk a b c d => h.share k₁ k₂ B₁ B₂ I₁ I₂ hk (old _ _ _ a c) (old _ _ _ b d) c d
    ros := h.ros
    boxInj := h.boxInj
    anc := fun k B I p a c => h.anc k B I p (old _ _ _ a c) c
    mp := h.mp
    mdom := h.mdom
    mlt := fun k es a => Nat.lt_of_lt_of_le (h.mlt k es a) (Nat.le_max_left _ _)
    minj := h.minj }

section
variable {ρ₀ : Inj} {H₀ : Heap} {w₀ : World}
theorem Sim.del (h : Sim ρ₀ H₀ w₀ ρ H w) {id : Nat} (hid : ρ.b id = none) (h0 : H₀.blk.get id = none) : Sim ρ₀ H₀ w₀ ρ (H.del id) w :=
  { h with
    rel := h.rel.del hid
    still := fun k B a b => del_get.2 ⟨(fun e => by subst e; rw [h0] at a; cases a), h.still k B a b⟩
    stillM := h.stillM
    next := h.next
    grow := fun k B a => let ⟨B', b⟩ := h.grow k B a; ⟨B', del_get.2 ⟨(fun e => by subst e; rw [h0] at a; cases a), b⟩⟩
    growM := h.growM }
theorem Sim.make_un (h : Sim ρ₀ H₀ w₀ ρ H w) {id : Nat} (b : Blk) (hid : H.blk.get id = none) : Sim ρ₀ H₀ w₀ ρ (H.make id b) w :=
  { h with
    rel := h.rel.make_un b hid
    still := fun k B a c => make_get.2 (.inr ⟨(fun e => by have := h.still k B a c; subst e; rw [hid] at this; cases this), h.still k B a c⟩)
    stillM := h.stillM
    next := Nat.le_trans h.next (Nat.le_max_left _ _)
    grow := fun k B a => let ⟨B', c⟩ := h.grow k B a; ⟨B', make_get.2 (.inr ⟨(fun e => by subst e; rw [hid] at c; cases c), c⟩)⟩
    growM := h.growM }
theorem Sim.ext {H2 : Heap} (h : Sim ρ₀ H₀ w₀ ρ H w) (e : H.same H2) (hn : H.next ≤ H2.next) : Sim ρ₀ H₀ w₀ ρ H2 w :=
  { h with
    rel := h.rel.ext e hn
    still := fun k B a c => by rw [← e.blk]; exact h.still k B a c
    stillM := fun k B a c => by rw [← e.mp]; exact h.stillM k B a c
    next := Nat.le_trans h.next hn
    grow := fun k B a => by rw [← e.blk]; exact h.grow k B a
    growM := fun k B a => by rw [← e.mp]; exact h.growM k B a }

/-- A block that the plain machine made before: it is made now. -/
theorem link {P : Program} {E : List TypeId} (hE : EqTypes P E) {o : Oper} {T : Tmps} {a : Act} {id : Nat} {b : Blk} {v : Value} (h : Sim ρ₀ H₀ w₀ ρ H w) (hid : ρ.b id = none) (h0 : H₀.blk.get id = none) (hm : H.mp.get id = none) (hb : H.blk.get id = some b)
    (hev : ∀ x ∈ o.op.operands, VR ρ (ev T x) (a.eval x)) (he : ∀ H2 : Heap, evalOp (ev T) H2 id (convOp P E o.op) = some (v, H2.make id b)) :
    ∃ v' w' ρ', Yields P o a.eval w v' w' ∧ VR ρ' v v' ∧ Sim ρ₀ H₀ w₀ ρ' H w' ∧ ρ.le ρ' ∧ ∀ k, k ≠ id → H.blk.get k ≠ none → ρ.b k = none → ρ'.b k = none := by
  have h1 := h.del hid h0
  have hn : (H.del id).blk.get id = none := by simp [Heap.del, PM.get_del]
  obtain ⟨v', w', ρ', hy, hv, hs⟩ := op_sim h1.rel hE hn hm hev (he (H.del id))
  have hlt : id < H.next := h.rel.lt _ _ hb
  have hsame : ((H.del id).make id b).same H := ⟨fun k => by
    simp only [Heap.make, Heap.del, PM.get_set, PM.get_del]
    by_cases e : id = k
    · subst e; simp [hb]
    · simp [e], fun k => rfl⟩
  have hnx : ((H.del id).make id b).next ≤ H.next := Nat.max_le.2 ⟨Nat.le_refl _, hlt⟩
  refine ⟨v', w', ρ', hy, hv, (h1.trans hs).ext hsame hnx, hs.le, fun k hk hk2 hk3 => ?_⟩
  cases hk4 : ρ'.b k with
  | none => rfl
  | some I =>
    have h5 := hs.newB k I hk4 hk3
    cases hk6 : H.blk.get k with
    | none => exact absurd hk6 hk2
    | some B =>
      rw [del_get.2 ⟨Ne.symm hk, hk6⟩] at h5
      cases h5
end

/-! ### The order that was put -/
section
variable {m : Nat} {ops : Array Oper} {dops : Array DOper}

/-- Closed under the edges. -/
def Closed (ops : Array Oper) (D : Nat → Prop) : Prop := ∀ i r, ops[i]? = some r → D i → ∀ j ∈ aheadOf r, D j

structure SInv (m : Nat) (ops : Array Oper) (dops : Array DOper) (seen : List Put) (mask : Nat) : Prop where
  bits : ∀ j, mask.testBit j = true ↔ ∃ t ∈ seen, t.i = j
  at_ : ∀ t ∈ seen, ops[t.i]? = some t.r ∧ dops[t.i]? = some t.o ∧ t.i < m
  uniq : ∀ t ∈ seen, ∀ t' ∈ seen, t.i = t'.i → t = t'
  far : ∀ t ∈ seen, ∀ D, Closed ops D → (∀ j ∈ aheadOf t.r, D j) → ∀ k, t.b.testBit k = true → D k
  dst : ∀ t ∈ seen, ∀ t' ∈ seen, ∀ d, t.r.dst = some d → t'.r.dst = some d → t = t'
  order : ∀ D : Nat → Prop, (∀ t ∈ seen, (∀ j ∈ aheadOf t.r, D j) → D t.i) → ∀ t ∈ seen, D t.i

theorem SInv.nil : SInv m ops dops [] 0 where
  bits := fun j => by simp
  at_ := fun t h => by simp at h
  uniq := fun t h => by simp at h
  far := fun t h => by simp at h
  dst := fun t h => by simp at h
  order := fun D _ t h => by simp at h

theorem maskOf_bits {seen : List Put} {j k : Nat} (h : (maskOf j seen).testBit k = true) : ∃ t ∈ seen, t.i = j ∧ t.b.testBit k = true := by
  induction seen with
  | nil => simp [maskOf] at h
  | cons t ts ih =>
    simp only [maskOf] at h
    split at h
    · exact ⟨t, by simp, by assumption, h⟩
    · obtain ⟨q, h1, h2⟩ := ih h
      exact ⟨q, by simp [h1], h2⟩
theorem befOf_bits {seen : List Put} {js : List Nat} {k : Nat} (h : (befOf seen js).testBit k = true) : k ∈ js ∨ ∃ j ∈ js, ∃ t ∈ seen, t.i = j ∧ t.b.testBit k = true := by
  induction js with
  | nil => simp [befOf] at h
  | cons j js ih =>
    simp only [befOf, Nat.testBit_or, Bool.or_eq_true] at h
    rcases h with (h | h) | h
    · rcases ih h with h | ⟨q, h1, h2⟩
      · exact .inl (by simp [h])
      · exact .inr ⟨q, by simp [h1], h2⟩
    · exact .inr ⟨j, by simp, maskOf_bits h⟩
    · rw [Nat.testBit_two_pow] at h
      exact .inl (by simp at h; simp [h])

theorem SInv.cons {seen : List Put} {mask i : Nat} {r : Oper} {o : DOper} (h : SInv m ops dops seen mask) (hr : ops[i]? = some r) (ho : dops[i]? = some o)
    (hok : putOk m ops seen mask i r o (befOf seen (aheadOf r)) = true) : SInv m ops dops (⟨i, r, o, befOf seen (aheadOf r)⟩ :: seen) (mask ||| 2 ^ i) := by
  unfold putOk at hok
  simp only [Bool.and_eq_true, decide_eq_true_eq, Bool.not_eq_true'] at hok
  obtain ⟨⟨⟨⟨h1, h2⟩, h3⟩, h4⟩, _⟩ := hok
  have hnew : ∀ t ∈ seen, t.i ≠ i := fun t ht e => by
    have := (h.bits i).2 ⟨t, ht, e⟩
    rw [h2] at this; cases this
  have hahead : ∀ j ∈ aheadOf r, ∃ t ∈ seen, t.i = j := fun j hj => (h.bits j).1 (List.all_eq_true.1 h3 j hj)
  have hd : ∀ t ∈ seen, ∀ d, r.dst = some d → t.r.dst ≠ some d := fun t ht d e => by
    have := List.all_eq_true.1 h4 t ht
    rw [e] at this
    simp only [Bool.and_eq_true, bne_iff_ne] at this
    exact this.2.1
  refine ⟨fun j => ?_, fun t ht => ?_, fun t ht t' ht' e => ?_, fun t ht D hD hj k hk => ?_, fun t ht t' ht' d e e' => ?_, fun D hD t ht => ?_⟩
  · rw [Nat.testBit_or, Bool.or_eq_true, Nat.testBit_two_pow, h.bits]
    constructor
    · rintro (⟨t, ht, e⟩ | e)
      · exact ⟨t, by simp [ht], e⟩
      · exact ⟨_, by simp; left; rfl, by simpa using e⟩
    · rintro ⟨t, ht, e⟩
      rcases List.mem_cons.1 ht with rfl | ht
      · exact .inr (by simpa using e)
      · exact .inl ⟨t, ht, e⟩
  · rcases List.mem_cons.1 ht with rfl | ht
    · exact ⟨hr, ho, h1⟩
    · exact h.at_ t ht
  · rcases List.mem_cons.1 ht with rfl | ht <;> rcases List.mem_cons.1 ht' with rfl | ht'
    · rfl
    · exact absurd e.symm (hnew _ ht')
    · exact absurd e (hnew _ ht)
    · exact h.uniq t ht t' ht' e
  · rcases List.mem_cons.1 ht with rfl | ht
    · rcases befOf_bits hk with h5 | ⟨j, h5, q, h6, h7, h8⟩
      · exact hj k h5
      · refine h.far q h6 D hD (fun j' hj' => ?_) k h8
        exact hD q.i q.r (h.at_ q h6).1 (h7 ▸ hj j h5) j' hj'
    · exact h.far t ht D hD hj k hk
  · rcases List.mem_cons.1 ht with rfl | ht <;> rcases List.mem_cons.1 ht' with rfl | ht'
    · rfl
    · exact absurd e' (hd _ ht' d e)
    · exact absurd e (hd _ ht d e')
    · exact h.dst t ht t' ht' d e e'
  · have hold := h.order D fun t ht => hD t (by simp [ht])
    rcases List.mem_cons.1 ht with rfl | ht
    · refine hD _ (by simp) fun j hj => ?_
      obtain ⟨q, h5, rfl⟩ := hahead j hj
      exact hold q h5
    · exact hold t ht
end
end Go.Det
