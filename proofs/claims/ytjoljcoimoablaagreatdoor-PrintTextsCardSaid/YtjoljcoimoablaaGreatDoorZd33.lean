/-
  The start out of a list: which block of the plain machine is which cells of the world.
-/
import Derived.Test.YtjoljcoimoablaaGreatDoorZd32
namespace Go.Det

structure Ent where
  id : Nat
  r : Nat
  o : Nat
  vals : List Value

def roBox (vals : List Value) : Blk := { mkBlk .box 0 vals with ro := true }
noncomputable def roBoxF (vals : List Value) : Blk := { size := lenF vals, cells := ofListF vals, kind := .box, esz := 0, ext := true, anc := [], ro := true }
theorem roBoxF_eq (vals : List Value) : roBoxF vals = roBox vals := by
  unfold roBoxF roBox mkBlk
  rw [lenF_eq, ofListF_eq]
noncomputable def entBlk (es : List (Nat × List Value)) : PM Blk := List.rec (motive := fun _ => PM Blk) .nil (fun e _ ih => setF (roBoxF e.2) ih e.1) es
theorem entBlk_get : ∀ (es : List (Nat × List Value)) (k : Nat), (entBlk es).get k = (es.find? fun e => e.1 == k).map fun e => roBox e.2 := by
  intro es
  induction es with
  | nil => intro k; exact PM.get_nil k
  | cons e es ih =>
    intro k
    have h : entBlk (e :: es) = setF (roBoxF e.2) (entBlk es) e.1 := rfl
    rw [h, setF_eq, roBoxF_eq, PM.get_set, List.find?_cons]
    by_cases hk : e.1 = k
    · simp [hk]
    · have : (e.1 == k) = false := by simpa using hk
      rw [if_neg hk, this]
      exact ih k
noncomputable def entHeap (es : List (Nat × List Value)) (next : Nat) : Heap := { blk := entBlk es, mp := .nil, next }

def rowSize (W : World) (r : Nat) : Nat := match W.heap[r]? with
  | some (.cells c _ _) => c.size
  | _ => 0
def imgOf (W : World) (e : Ent) : Img := { r := e.r, o := e.o, cs := rowSize W e.r, n0 := e.vals.length, esz := 0, kind := .box, ro := true }
def entInj (W : World) (es : List Ent) : Inj := { b := fun k => (es.find? fun e => e.id == k).map (imgOf W), m := fun _ => none }

theorem entInj_mem {W : World} {es : List Ent} (hd : es.Pairwise fun a b => a.id ≠ b.id) {e : Ent} (he : e ∈ es) : (entInj W es).b e.id = some (imgOf W e) := by
  unfold entInj
  simp only
  induction es with
  | nil => simp at he
  | cons x xs ih =>
    rw [List.find?_cons]
    rw [List.pairwise_cons] at hd
    rcases List.mem_cons.1 he with rfl | he
    · simp
    · have : (x.id == e.id) = false := by simpa using hd.1 e he
      rw [this]
      exact ih hd.2 he

theorem start_of {W : World} {es : List Ent} {next : Nat} (hlt : ∀ e ∈ es, e.id < next)
    (hrow : ∀ e ∈ es, ∃ c ty, W.heap[e.r]? = some (.cells c ty (0, 0)) ∧ e.o + e.vals.length ≤ c.size)
    (hval : ∀ e ∈ es, ∀ (i : Nat) v, e.vals[i]? = some v → ∃ v', W.cell? ⟨e.r, e.o + i, none⟩ = some v' ∧ VR (entInj W es) v v')
    (hinj : ∀ e ∈ es, ∀ e' ∈ es, e.id ≠ e'.id → e.r = e'.r → e.o + e.vals.length ≤ e'.o ∨ e'.o + e'.vals.length ≤ e.o) :
    Start (entInj W es) (entHeap (es.map fun e => (e.id, e.vals)) next) W := by
  have hget : ∀ k, (entBlk (es.map fun e => (e.id, e.vals))).get k = (es.find? fun e => e.id == k).map fun e => roBox e.vals := fun k => by
    rw [entBlk_get, List.find?_map]
    cases hf : es.find? fun e => e.id == k with
    | none =>
      have : es.find? ((fun e : Nat × List Value => e.1 == k) ∘ fun e : Ent => (e.id, e.vals)) = none := hf
      rw [this]; rfl
    | some e =>
      have : es.find? ((fun e : Nat × List Value => e.1 == k) ∘ fun e : Ent => (e.id, e.vals)) = some e := hf
      rw [this]; rfl
  have hfind : ∀ k I, (entInj W es).b k = some I → ∃ e ∈ es, e.id = k ∧ I = imgOf W e ∧ (es.find? fun e => e.id == k) = some e := fun k I h => by
    unfold entInj at h
    simp only [Option.map_eq_some_iff] at h
    obtain ⟨e, h1, h2⟩ := h
    exact ⟨e, List.mem_of_find?_eq_some h1, by simpa using List.find?_some h1, h2.symm, h1⟩
  constructor
  · intro k I h
    obtain ⟨e, he, hk, rfl, hf⟩ := hfind k I h
    obtain ⟨c, ty, hc, hle⟩ := hrow e he
    have hcs : rowSize W e.r = c.size := by simp [rowSize, hc]
    refine ⟨rfl, rfl, ?_, roBox e.vals, ?_, rfl, rfl, rfl, rfl, Nat.le_refl _, c, ty, hc, hcs.symm, fun i hi => ?_⟩
    · simp only [imgOf, hcs]; exact hle
    · simp only [entHeap]; rw [hget, hf]; rfl
    · have hi' : i < e.vals.length := hi
      obtain ⟨v', h1, h2⟩ := hval e he i _ (List.getElem?_eq_getElem hi')
      refine ⟨e.vals[i], v', ?_, ?_, h2⟩
      · change (PM.ofList e.vals).get i = _
        rw [PM.get_ofList]
        exact List.getElem?_eq_getElem hi'
      · unfold World.cell? at h1
        rw [hc] at h1
        change c[e.o + i]? = some v'
        simpa using h1
  · intro k₁ k₂ I₁ I₂ hk h1 h2 hr
    obtain ⟨e, he, rfl, rfl, _⟩ := hfind k₁ I₁ h1
    obtain ⟨e', he', rfl, rfl, _⟩ := hfind k₂ I₂ h2
    exact hinj e he e' he' hk hr
  · intro k; rfl
  · intro k; exact PM.get_nil k
  · intro k B h
    simp only [entHeap] at h
    rw [hget] at h
    simp only [Option.map_eq_some_iff] at h
    obtain ⟨e, h1, _⟩ := h
    have := hlt e (List.mem_of_find?_eq_some h1)
    have hk : e.id = k := by simpa using List.find?_some h1
    exact hk ▸ this
end Go.Det
