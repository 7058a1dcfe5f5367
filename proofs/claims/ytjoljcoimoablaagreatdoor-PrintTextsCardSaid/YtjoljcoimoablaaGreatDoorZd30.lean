/-
  The start: what may be read and not written; the end: what was there is there.
-/
import Derived.Test.YtjoljcoimoablaaGreatDoorZd29
import Derived.ChangeSame
namespace Go.Det

/-- All that is known may be read and not written: blocks of one variable each. -/
structure Start (ρ : Inj) (H : Heap) (W : World) : Prop where
  blk : ∀ k I, ρ.b k = some I → I.ro = true ∧ I.kind = .box ∧ I.o + I.n0 ≤ I.cs ∧ ∃ B, H.blk.get k = some B ∧ B.kind = .box ∧ B.ro = true ∧ B.anc = [] ∧ B.esz = I.esz ∧ B.size ≤ I.n0 ∧
    ∃ c ty, W.heap[I.r]? = some (.cells c ty (0, 0)) ∧ c.size = I.cs ∧ ∀ i, i < B.size → ∃ v v', B.cells.get i = some v ∧ c[I.o + i]? = some v' ∧ VR ρ v v'
  inj : ∀ k₁ k₂ I₁ I₂, k₁ ≠ k₂ → ρ.b k₁ = some I₁ → ρ.b k₂ = some I₂ → I₁.r = I₂.r → I₁.o + I₁.n0 ≤ I₂.o ∨ I₂.o + I₂.n0 ≤ I₁.o
  maps : ∀ k, ρ.m k = none
  nomaps : ∀ k, H.mp.get k = none
  lt : ∀ k B, H.blk.get k = some B → k < H.next

theorem Start.rel {ρ : Inj} {H : Heap} {W : World} (h : Start ρ H W) : HeapRel ρ H W where
  blk := fun k B I h1 h2 => by
    obtain ⟨a1, a2, a3, B', a4, a5, a6, a7, a8, a9, c, ty, b1, b2, b3⟩ := h.blk k I h2
    rw [h1] at a4
    cases a4
    exact {
      row := ⟨c, ty, (0, 0), b1, b2, b3, (fun hr => by rw [a1] at hr; cases hr), fun _ => rfl⟩
      size := a9
      fits := a3
      kind := a5.trans a2.symm
      esz := a8
      ro := a6.trans a1.symm
      anc := fun _ => a7
      ext := fun _ hr => by rw [a1] at hr; cases hr }
  dom := fun k I h1 => let ⟨_, _, _, B, a, _⟩ := h.blk k I h1; ⟨B, a⟩
  lt := h.lt
  share := fun k₁ k₂ B₁ B₂ I₁ I₂ _ _ _ h1 _ _ _ hr => by rw [(h.blk k₁ I₁ h1).1] at hr; cases hr
  ros := fun k₁ k₂ I₁ I₂ _ h2 _ hr => by rw [(h.blk k₂ I₂ h2).1] at hr; cases hr
  boxInj := fun k₁ k₂ I₁ I₂ hk h1 h2 _ _ hr => ⟨(h.blk k₁ I₁ h1).1, (h.blk k₂ I₂ h2).1, h.inj k₁ k₂ I₁ I₂ hk h1 h2 hr⟩
  anc := fun k B I p h1 h2 hp => by
    obtain ⟨_, _, _, B', a4, _, _, a7, _⟩ := h.blk k I h2
    rw [h1] at a4
    cases a4
    rw [a7] at hp
    simp at hp
  mp := fun k es r h1 _ => by rw [h.nomaps k] at h1; cases h1
  mdom := fun k r h1 => by rw [h.maps k] at h1; cases h1
  mlt := fun k es h1 => by rw [h.nomaps k] at h1; cases h1
  minj := fun k₁ k₂ r h1 => by rw [h.maps k₁] at h1; cases h1

/-- What was there is there as it was. -/
structure Kept (W W' : World) : Prop where
  os : W'.os = W.os
  output : W'.output = W.output
  size : W.heap.size ≤ W'.heap.size
  row : ∀ r, r < W.heap.size → W'.heap[r]? = W.heap[r]?

theorem Start.kept {ρ ρ' : Inj} {H H' : Heap} {W W' : World} (h : Start ρ H W) (hs : Sim ρ H W ρ' H' W') : Kept W W' where
  os := hs.os
  output := hs.output
  size := hs.size
  row := fun r hr => hs.keep r hr fun hm => by
    rcases hm with ⟨k, I, a, _, c⟩ | ⟨k, a⟩
    · rw [(h.blk k I a).1] at c; cases c
    · rw [h.maps k] at a; cases a

theorem Kept.but {W W' : World} (h : Kept W W') (may : MemPlace → Prop) : W.keptBut W' may := by
  refine ⟨h.os, h.output, fun i hi => ?_⟩
  rw [h.row i hi]
  cases W.heap[i]? with
  | none => rfl
  | some o => cases o <;> simp

variable {H : Type} {enc : TypeId × Value → H} {P : Program}
/-- The row's end, where all that was there is there, and nothing that was handed in leads anywhere. -/
theorem post_of_kept {f : Func} {s : ChangeSpec} {apart fresh handsOn again : Bool} {W W' : World} {args : Array Value} {v : Value} {ds gs : List (DataW H)}
    (hW : DataW.Whole enc P f.params.toList s.vars apart W args.toList ds gs [])
    (hres : ∀ (b : Nat) (sp : Nat → Bool) (hd : Bool), DataW.TrodAll enc P W' b sp hd f.resultTypes.toList (v.resultList f.resultTypes.size) (s.fn H (ds ++ gs)).results [])
    (hargs : ∀ sp : Nat → Bool, DataW.TrodAll enc P W' 0 sp true f.params.toList args.toList (s.fn H (ds ++ gs)).args [])
    (hvars : ∀ sp : Nat → Bool, DataW.TrodVars enc P W' sp s.vars (s.fn H (ds ++ gs)).vars [])
    (hk : Kept W W')
    (hok : ∀ (j : Nat) (t : TypeId) (r : Value), f.resultTypes[j]? = some t → (v.resultList f.resultTypes.size)[j]? = some r → Value.okWide P W' .any 0 t r) :
    s.post enc P f apart fresh handsOn again W args v W' := by
  refine ⟨ds, gs, [], [], [], [], hW, hres _ _ _, hargs _, hvars _, hk.but _, fun _ => ?_⟩
  refine ⟨hok, _, _, ([] ++ []) ++ [], ⟨[] ++ [], [], ChangeShapes.trodAll_append (hargs _) (hres _ _ _), hvars _, rfl, ?_, ?_⟩, ?_⟩
  · intro b off hp; simp at hp
  · intro _; simp
  · intro p hp; simp at hp
end Go.Det
