/-
  Looking, making, writing: the plain heap and a world.
-/
import Derived.Test.YtjoljcoimoablaaGreatDoorZd3
namespace Go.Det
variable {ρ : Inj} {H : Heap} {w : World}

theorem BlkRel.lt {B : Blk} {I : Img} (h : BlkRel ρ B I w) : I.r < w.heap.size := by
  obtain ⟨c, ty, fr, h1, _⟩ := h.row
  exact (Array.getElem?_eq_some_iff.1 h1).1
theorem HeapRel.img_lt (hH : HeapRel ρ H w) {k : Nat} {I : Img} (h : ρ.b k = some I) : I.r < w.heap.size := by
  obtain ⟨B, hB⟩ := hH.dom k I h
  exact (hH.blk k B I hB h).lt
theorem HeapRel.map_lt (hH : HeapRel ρ H w) {k r : Nat} (h : ρ.m k = some r) : r < w.heap.size := by
  obtain ⟨es, he⟩ := hH.mdom k r h
  obtain ⟨es', cl, h1, _⟩ := hH.mp k es r he h
  exact (Array.getElem?_eq_some_iff.1 h1).1
theorem HeapRel.not_dom (hH : HeapRel ρ H w) {k : Nat} (h : H.blk.get k = none) : ρ.b k = none := by
  cases e : ρ.b k with
  | none => rfl
  | some I => obtain ⟨B, hB⟩ := hH.dom k I e; rw [h] at hB; cases hB
theorem HeapRel.not_mdom (hH : HeapRel ρ H w) {k : Nat} (h : H.mp.get k = none) : ρ.m k = none := by
  cases e : ρ.m k with
  | none => rfl
  | some I => obtain ⟨B, hB⟩ := hH.mdom k I e; rw [h] at hB; cases hB

/-! ### Looking -/
theorem look_ok (hH : HeapRel ρ H w) {a a' : Addr} (ha : AR ρ a a') {n : Nat} {cs : List Value} (h : H.look a n = some cs) :
    ∃ cs', VRL ρ cs cs' ∧ cs.length = n ∧ ∀ j v, cs'[j]? = some v → w.cell? (a'.add j) = some v := by
  obtain ⟨hs, I, hI, rfl⟩ := ha
  unfold Heap.look at h
  rw [hs] at h
  cases hB : H.blk.get a.block with
  | none => simp [hB] at h
  | some B =>
    simp only [hB] at h
    split at h
    · rename_i hle
      obtain ⟨hl, hg⟩ := PM.getN_some h
      have hR := hH.blk _ B I hB hI
      obtain ⟨c, ty, fr, hc, hcs, hcell, _, _⟩ := hR.row
      have hin : ∀ i, i < n → ∃ v v', cs[i]? = some v ∧ c[I.o + a.off + i]? = some v' ∧ VR ρ v v' := fun i hi => by
        obtain ⟨v, v', h1, h2, h3⟩ := hcell (a.off + i) (by omega)
        exact ⟨v, v', by rw [← hg i hi]; exact h1, by rw [Nat.add_assoc]; exact h2, h3⟩
      have hsz : I.o + a.off + n ≤ c.size := by
        have := hR.size; have := hR.fits; omega
      refine ⟨(c.toList.drop (I.o + a.off)).take n, ⟨?_, fun i v v' h1 h2 => ?_⟩, hl, fun j v hj => ?_⟩
      · simp [hl]; omega
      · have hi : i < n := by rw [← hl]; exact (List.getElem?_eq_some_iff.1 h1).1
        obtain ⟨u, u', e1, e2, e3⟩ := hin i hi
        rw [e1] at h1; cases h1
        rw [List.getElem?_take, if_pos hi, List.getElem?_drop] at h2
        have : c[I.o + a.off + i]? = some v' := by simpa using h2
        rw [e2] at this; cases this; exact e3
      · have hi : j < n := by
          have := (List.getElem?_eq_some_iff.1 hj).1
          simp at this; omega
        rw [List.getElem?_take, if_pos hi, List.getElem?_drop] at hj
        have hj' : c[I.o + a.off + j]? = some v := by simpa using hj
        rw [Addr.add_lit]
        simp [World.cell?, hc, hj']
    · simp at h

theorem look_run (P : Program) (hH : HeapRel ρ H w) {a a' : Addr} (ha : AR ρ a a') {n : Nat} {cs : List Value} (h : H.look a n = some cs) :
    ∃ cs', VRL ρ cs cs' ∧ (loadCells a' n).run P w = .ok cs'.toArray w ∧ ∀ j v, cs'[j]? = some v → w.cell? (a'.add j) = some v := by
  obtain ⟨cs', h1, h2, h3⟩ := look_ok hH ha h
  refine ⟨cs', h1, ?_, h3⟩
  have := run_loadCells_list (P := P) w a' cs' h3
  rwa [← h1.1, h2] at this

/-! ### Making -/
def Inj.with (ρ : Inj) (id : Nat) (I : Img) : Inj := { ρ with b := fun k => if k = id then some I else ρ.b k }
theorem Inj.with_le {id : Nat} {I : Img} (h : ρ.b id = none) : ρ.le (ρ.with id I) :=
  ⟨fun k J hk => by
    unfold Inj.with
    by_cases e : k = id
    · subst e; rw [h] at hk; cases hk
    · simp [e, hk], fun _ _ h => h⟩
theorem Inj.with_self {id : Nat} {I : Img} : (ρ.with id I).b id = some I := by simp [Inj.with]
theorem Inj.with_ne {id k : Nat} {I : Img} (h : k ≠ id) : (ρ.with id I).b k = ρ.b k := by simp [Inj.with, h]

theorem EntR.mono {ρ ρ' : Inj} (hl : ρ.le ρ') : ∀ {es : List (Value × Value)} {es' : List MapEntry}, EntR ρ es es' → EntR ρ' es es'
  | [], [], _ => trivial
  | (_, _) :: _, _ :: _, h => ⟨h.1, h.2.1, h.2.2.1.mono hl, EntR.mono hl h.2.2.2⟩
  | [], _ :: _, h => h.elim
  | _ :: _, [], h => h.elim

theorem BlkRel.mono {ρ ρ' : Inj} (hl : ρ.le ρ') {B : Blk} {I : Img} (h : BlkRel ρ B I w) : BlkRel ρ' B I w := by
  refine { h with row := ?_ }
  obtain ⟨c, ty, fr, h1, h2, h3, h4, h5⟩ := h.row
  exact ⟨c, ty, fr, h1, h2, fun i hi => let ⟨v, v', a, b, d⟩ := h3 i hi; ⟨v, v', a, b, d.mono hl⟩, h4, h5⟩

/-- A new block, in a row of its own; it may be held for a part of others. -/
theorem sim_new (hH : HeapRel ρ H w) {id : Nat} (hid : H.blk.get id = none) {cs cs' : List Value} (hv : VRL ρ cs cs') (more : List Value) (kind : Kind) (esz : Nat) (ty : TypeId) (d : Nat) (anc : List Nat) (hk : kind ≠ .row → anc = []) (hanc : ∀ p ∈ anc, ∃ J, ρ.b p = some J ∧ J.ro = false ∧ J.kind ≠ .box) (fr : Nat × Nat := (0, 0)) (hfr : fr = (0, 0) ∨ kind ≠ .box ∧ (cs' ++ more).length ≤ fr.1 := by exact .inl rfl) :
    Sim ρ H w (ρ.with id ⟨w.heap.size, 0, (cs' ++ more).length, cs.length, esz, kind, false⟩) (H.make id { mkBlk kind esz cs with anc := anc }) { w with heap := w.heap.push (.cells (cs' ++ more).toArray ty fr), drawn := d } := by
  have hn := hH.not_dom hid
  have hfrz : ∀ (x : false = false), ∀ j, j < (cs' ++ more).length → ¬ (fr.1 ≤ j ∧ j < fr.2) := fun _ j hj => by
    rcases hfr with h | ⟨_, h⟩
    · subst h; omega
    · omega
  have hfrb : kind = .box → fr = (0, 0) := fun hb => by
    rcases hfr with h | ⟨h, _⟩
    · exact h
    · exact absurd hb h
  have hle : ρ.le (ρ.with id ⟨w.heap.size, 0, (cs' ++ more).length, cs.length, esz, kind, false⟩) := Inj.with_le hn
  have hold : ∀ r, r < w.heap.size → (w.heap.push (.cells (cs' ++ more).toArray ty fr))[r]? = w.heap[r]? := fun r hr => by
    rw [Array.getElem?_push, if_neg (by omega)]
  have hnew : (w.heap.push (Obj.cells (cs' ++ more).toArray ty fr))[w.heap.size]? = some (.cells (cs' ++ more).toArray ty fr) := by simp
  have hget : ∀ k B, (H.make id { mkBlk kind esz cs with anc := anc }).blk.get k = some B → (k = id ∧ B = { mkBlk kind esz cs with anc := anc }) ∨ (k ≠ id ∧ H.blk.get k = some B) := fun k B h => by
    simp only [Heap.make, PM.get_set] at h
    by_cases e : id = k
    · subst e; simp at h; exact .inl ⟨rfl, h.symm⟩
    · rw [if_neg e] at h; exact .inr ⟨fun e' => e e'.symm, h⟩
  have hset : ∀ k, k ≠ id → (H.make id { mkBlk kind esz cs with anc := anc }).blk.get k = H.blk.get k := fun k h => by
    simp only [Heap.make]; exact PM.get_set_ne _ _ (fun e => h e.symm)
  refine { le := hle, rel := ?_, os := rfl, tape := rfl, output := rfl, size := by simp, keep := fun r hr _ => hold r hr, fresh := ?_, newB := ?_, newM := ?_, still := ?_, stillM := fun _ _ h _ => h, next := Nat.le_max_left _ _, grow := ?_, growM := fun k B h => ⟨B, h⟩ }
  · refine { blk := ?_, dom := ?_, lt := ?_, share := ?_, ros := ?_, boxInj := ?_, anc := ?_, mp := ?_, mdom := hH.mdom, mlt := fun k es h => Nat.lt_of_lt_of_le (hH.mlt k es h) (Nat.le_max_left _ _), minj := hH.minj }
    · intro k B I h1 h2
      rcases hget k B h1 with ⟨rfl, rfl⟩ | ⟨hne, hk⟩
      · rw [Inj.with_self] at h2
        cases h2
        refine { row := ⟨_, ty, fr, hnew, by simp, fun i hi => ?_, hfrz, hfrb⟩, size := Nat.le_refl _, fits := ?_, kind := rfl, esz := rfl, ro := rfl, anc := hk, ext := fun _ _ => rfl }
        · have hi' : i < cs.length := hi
          obtain ⟨v', e1, e2⟩ := hv.get (List.getElem?_eq_getElem hi')
          refine ⟨cs[i], v', by simp [mkBlk, PM.get_ofList, hi'], ?_, e2.mono hle⟩
          have hlt : i < cs'.length := by rw [← hv.1]; exact hi'
          simp only [Nat.zero_add, List.getElem?_toArray]
          rw [List.getElem?_append_left hlt]; exact e1
        · simp [hv.1]
      · rw [Inj.with_ne hne] at h2
        exact ((hH.blk k B I hk h2).mono hle).of_heap (hold _ (hH.img_lt h2))
    · intro k I h
      by_cases e : k = id
      · subst e; exact ⟨_, PM.get_set_same _ _ _⟩
      · rw [Inj.with_ne e] at h
        obtain ⟨B, hB⟩ := hH.dom k I h
        exact ⟨B, by rw [hset k e]; exact hB⟩
    · intro k B h
      rcases hget k B h with ⟨rfl, _⟩ | ⟨_, hk⟩
      · exact Nat.lt_of_lt_of_le (Nat.lt_succ_self _) (Nat.le_max_right _ _)
      · exact Nat.lt_of_lt_of_le (hH.lt k B hk) (Nat.le_max_left _ _)
    · intro k₁ k₂ B₁ B₂ I₁ I₂ hne h1 h2 g1 g2 hr he hro
      rcases hget k₁ B₁ h1 with ⟨rfl, rfl⟩ | ⟨n1, e1⟩
      · rcases hget k₂ B₂ h2 with ⟨rfl, rfl⟩ | ⟨n2, e2⟩
        · exact absurd rfl hne
        · rw [Inj.with_self] at g1; rw [Inj.with_ne n2] at g2
          cases g1
          have := hH.img_lt g2
          simp only at hr; omega
      · rcases hget k₂ B₂ h2 with ⟨rfl, rfl⟩ | ⟨n2, e2⟩
        · rw [Inj.with_self] at g2; rw [Inj.with_ne n1] at g1
          cases g2
          have := hH.img_lt g1
          simp only at hr; omega
        · rw [Inj.with_ne n1] at g1; rw [Inj.with_ne n2] at g2
          exact hH.share k₁ k₂ B₁ B₂ I₁ I₂ hne e1 e2 g1 g2 hr he hro
    · intro k₁ k₂ I₁ I₂ g1 g2 h1 h2 hr
      by_cases e1 : k₁ = id
      · subst e1; rw [Inj.with_self] at g1; cases g1; cases h1
      · rw [Inj.with_ne e1] at g1
        by_cases e2 : k₂ = id
        · subst e2; rw [Inj.with_self] at g2; cases g2
          have := hH.img_lt g1
          simp only at hr; omega
        · rw [Inj.with_ne e2] at g2; exact hH.ros k₁ k₂ I₁ I₂ g1 g2 h1 h2 hr
    · intro k₁ k₂ I₁ I₂ hne g1 g2 h1 h2 hr
      by_cases e1 : k₁ = id
      · subst e1; rw [Inj.with_self] at g1; cases g1
        rw [Inj.with_ne (Ne.symm hne)] at g2
        have := hH.img_lt g2
        exact absurd hr (by simp only; omega)
      · rw [Inj.with_ne e1] at g1
        by_cases e2 : k₂ = id
        · subst e2; rw [Inj.with_self] at g2; cases g2
          have := hH.img_lt g1
          exact absurd hr (by simp only; omega)
        · rw [Inj.with_ne e2] at g2; exact hH.boxInj k₁ k₂ I₁ I₂ hne g1 g2 h1 h2 hr
    · intro k B I p h1 h2 h3
      rcases hget k B h1 with ⟨rfl, rfl⟩ | ⟨hne, hk⟩
      · obtain ⟨J, h5, h6⟩ := hanc p h3
        exact ⟨J, hle.1 _ _ h5, h6⟩
      · rw [Inj.with_ne hne] at h2
        obtain ⟨J, h5, h6⟩ := hH.anc k B I p hk h2 h3
        exact ⟨J, hle.1 _ _ h5, h6⟩
    · intro k es r h1 h2
      obtain ⟨es', cl, h3, h4⟩ := hH.mp k es r h1 h2
      exact ⟨es', cl, by simp only; rw [hold r (hH.map_lt h2)]; exact h3, h4.mono hle⟩
  · rintro r (⟨k, I, h1, h2, h3⟩ | ⟨k, h1⟩) hr
    · by_cases e : k = id
      · subst e; rw [Inj.with_self] at h1; cases h1; simp only at h2; omega
      · rw [Inj.with_ne e] at h1; exact .inl ⟨k, I, h1, h2, h3⟩
    · exact .inr ⟨k, h1⟩
  · intro k I h h0
    by_cases e : k = id
    · subst e; exact hid
    · rw [Inj.with_ne e, h0] at h; cases h
  · intro k r h h0
    have h' : ρ.m k = some r := h
    rw [h0] at h'; cases h'
  · intro k B h h0
    rw [hset k (fun e => by subst e; rw [hid] at h; cases h)]; exact h
  · intro k B h
    exact ⟨B, by rw [hset k (fun e => by subst e; rw [hid] at h; cases h)]; exact h⟩

theorem sim_new_addr {id : Nat} {I : Img} (ho : I.o = 0) : AR (ρ.with id I) ⟨id, 0, none⟩ ⟨I.r, 0, none⟩ :=
  ⟨rfl, I, Inj.with_self, by simp [ho]⟩
end Go.Det
