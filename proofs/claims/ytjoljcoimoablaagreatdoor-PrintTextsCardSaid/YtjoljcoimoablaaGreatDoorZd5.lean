/-
  Writing: the plain heap and a world.
-/
import Derived.Test.YtjoljcoimoablaaGreatDoorZd4
import Derived.Laws.IdiomCopy
namespace Go.Det
variable {ρ : Inj} {H : Heap} {w : World}

def Blk.dead (b : Blk) : Blk := { b with size := 0, ext := false }

theorem kill_get : ∀ (ps : List Nat) (m : PM Blk) (k : Nat), (kill ps m).get k = if k ∈ ps then (m.get k).map Blk.dead else m.get k := by
  intro ps
  induction ps with
  | nil => intro m k; simp [kill]
  | cons p ps ih =>
    intro m k
    have hm : (killOne p m).get k = if k = p then (m.get k).map Blk.dead else m.get k := by
      unfold killOne
      cases hp : m.get p with
      | none =>
        by_cases e : k = p
        · subst e; simp [hp]
        · simp [e]
      | some b =>
        simp only [PM.get_set]
        by_cases e : p = k
        · subst e; simp [hp, Blk.dead]
        · rw [if_neg e, if_neg (fun e' => e e'.symm)]
    have hdd : ∀ o : Option Blk, (o.map Blk.dead).map Blk.dead = o.map Blk.dead := fun o => by cases o <;> simp [Blk.dead]
    simp only [kill, ih, hm, List.mem_cons]
    by_cases e : k = p
    · subst e
      simp only [if_true, true_or]
      split
      · exact hdd _
      · rfl
    · simp [e]

theorem setCells_heap (r : Nat) (ty : TypeId) (fr : Nat × Nat) : ∀ (vs : List Value) (o : Nat) (c : Array Value) (w : World), w.heap[r]? = some (.cells c ty fr) →
    ∃ c', (w.setCells r o vs).heap[r]? = some (.cells c' ty fr) ∧ c'.size = c.size ∧ ∀ i, c'[i]? = if o ≤ i ∧ i < o + vs.length ∧ i < c.size then vs[i - o]? else c[i]?
  | [], o, c, w, h => ⟨c, h, rfl, fun i => by rw [if_neg (by simp; omega)]⟩
  | v :: vs, o, c, w, h => by
    have h1 : (w.setCell ⟨r, o, none⟩ v).heap[r]? = some (.cells (c.setIfInBounds o v) ty fr) := by
      simp [World.setCell, Array.getElem?_modify, h]
    obtain ⟨c', h2, h3, h4⟩ := setCells_heap r ty fr vs (o + 1) _ _ h1
    refine ⟨c', h2, by simpa using h3, fun i => ?_⟩
    rw [h4 i]
    simp only [Array.size_setIfInBounds, List.length_cons]
    by_cases a : o + 1 ≤ i ∧ i < o + 1 + vs.length ∧ i < c.size
    · rw [if_pos a, if_pos (by omega)]
      have : i - o = (i - (o + 1)) + 1 := by omega
      rw [this]; simp
    · rw [if_neg a]
      by_cases e : i = o
      · subst e
        by_cases hs : i < c.size
        · rw [if_pos (by omega)]; simp [hs]
        · rw [if_neg (by omega)]; simp [hs]
      · rw [if_neg (by omega)]
        simp [Ne.symm e]
theorem setCells_other (r k : Nat) (h : k ≠ r) : ∀ (vs : List Value) (o : Nat) (w : World), (w.setCells r o vs).heap[k]? = w.heap[k]?
  | [], _, _ => rfl
  | v :: vs, o, w => by
    rw [World.setCells, setCells_other r k h vs]
    simp [World.setCell, Array.getElem?_modify, Ne.symm h]
theorem setCells_rest (r : Nat) : ∀ (vs : List Value) (o : Nat) (w : World), (w.setCells r o vs).os = w.os ∧ (w.setCells r o vs).tape = w.tape ∧ (w.setCells r o vs).output = w.output ∧ (w.setCells r o vs).heap.size = w.heap.size
  | [], _, _ => ⟨rfl, rfl, rfl, rfl⟩
  | v :: vs, o, w => by
    obtain ⟨a, b, c, d⟩ := setCells_rest r vs (o + 1) (w.setCell ⟨r, o, none⟩ v)
    exact ⟨a, b, c, d.trans (by simp [World.setCell])⟩

theorem BlkRel.deadRel {B : Blk} {I : Img} {w' : World} (h : BlkRel ρ B I w) (hk : I.kind ≠ .box)
    (hrow : ∃ c ty fr, w'.heap[I.r]? = some (.cells c ty fr) ∧ c.size = I.cs ∧ (I.ro = false → ∀ j, j < I.cs → ¬ (fr.1 ≤ j ∧ j < fr.2))) : BlkRel ρ B.dead I w' where
  row := by
    obtain ⟨c, ty, fr, h1, h2, h3⟩ := hrow
    exact ⟨c, ty, fr, h1, h2, fun i hi => by simp [Blk.dead] at hi, h3, fun e => absurd e hk⟩
  size := Nat.zero_le _
  fits := h.fits
  kind := h.kind
  esz := h.esz
  ro := h.ro
  anc := h.anc
  ext := fun e => absurd e hk

theorem write_sim (P : Program) (hH : HeapRel ρ H w) {a a' : Addr} (ha : AR ρ a a') {vs vs' : List Value} (hv : VRL ρ vs vs') {H' : Heap} (h : H.write a vs = some H') :
    ∃ w', (storeCells a' vs').run P w = .ok () w' ∧ Sim ρ H w ρ H' w' := by
  obtain ⟨hs, I, hI, rfl⟩ := ha
  unfold Heap.write at h
  rw [hs] at h
  cases hB : H.blk.get a.block with
  | none => simp [hB] at h
  | some B =>
    simp only [hB] at h
    by_cases hbad : (B.ro || !decide (a.off + vs.length ≤ B.size) || !vs.all cellOk) = true
    · rw [if_pos hbad] at h; cases h
    rw [if_neg hbad] at h
    simp only [Bool.or_eq_true, Bool.not_eq_true', decide_eq_false_iff_not, not_or, Bool.not_eq_true, Bool.not_eq_false, Decidable.not_not] at hbad
    obtain ⟨⟨hro, hfit⟩, hcell⟩ := hbad
    have hR := hH.blk _ B I hB hI
    have hroI : I.ro = false := by rw [← hR.ro]; exact hro
    obtain ⟨c, ty, fr, hc, hcs, hcells, hfz, hbx⟩ := hR.row
    have hn0 := hR.size
    have hf0 := hR.fits
    have hlen := hv.1
    obtain ⟨c', hc', hcs', hci⟩ := setCells_heap I.r ty fr vs' (I.o + a.off) c w hc
    have hoth : ∀ k, k ≠ I.r → (w.setCells I.r (I.o + a.off) vs').heap[k]? = w.heap[k]? := fun k hk => setCells_other I.r k hk vs' _ w
    obtain ⟨e1, e2, e3, e4⟩ := setCells_rest I.r vs' (I.o + a.off) w
    refine ⟨w.setCells I.r (I.o + a.off) vs', ?_, ?_⟩
    · have := run_storeCells_cells (P := P) I.r (I.o + a.off) vs' 0 w (fun j hj => ?_) (fun j hj => ?_) (hv.cellOk hcell)
      · simpa using this
      · have : I.o + a.off + 0 + j < c.size := by omega
        simp [World.cell?, hc]; omega
      · have := hfz hroI (I.o + a.off + 0 + j) (by omega)
        simp only [World.frozen?, hc]
        simpa using this
    -- the heap behind it
    have key : ∃ B', H'.blk.get a.block = some B' ∧ B'.size = B.size ∧ B'.cells = B.cells.setList a.off vs ∧ B'.kind = B.kind ∧ B'.esz = B.esz ∧ B'.ro = B.ro ∧ B'.ext = B.ext ∧ B'.anc = [] ∧ B.ext = true ∧
        H'.mp = H.mp ∧ H'.next = H.next ∧ ∀ k, k ≠ a.block → H'.blk.get k = if k ∈ B.anc then (H.blk.get k).map Blk.dead else H.blk.get k := by
      cases hk : B.kind with
      | box =>
        simp only [hk, Option.some.injEq] at h
        have hanc : B.anc = [] := hR.anc (by rw [← hR.kind, hk]; simp)
        subst h
        refine ⟨_, PM.get_set_same _ _ _, rfl, rfl, rfl, rfl, rfl, rfl, hanc, hR.ext (by rw [← hR.kind, hk]) hroI, rfl, rfl, fun k hk => ?_⟩
        rw [hanc]; simp [PM.get_set, Ne.symm hk]
      | arr =>
        simp only [hk] at h
        by_cases he : B.ext = true
        · rw [if_pos he] at h
          simp only [Option.some.injEq] at h
          subst h
          refine ⟨_, PM.get_set_same _ _ _, rfl, rfl, rfl, rfl, rfl, rfl, rfl, he, rfl, rfl, fun k hk => ?_⟩
          rw [PM.get_set_ne _ _ (Ne.symm hk), kill_get]
        · rw [if_neg he] at h; cases h
      | row =>
        simp only [hk] at h
        by_cases he : B.ext = true
        · rw [if_pos he] at h
          simp only [Option.some.injEq] at h
          subst h
          refine ⟨_, PM.get_set_same _ _ _, rfl, rfl, rfl, rfl, rfl, rfl, rfl, he, rfl, rfl, fun k hk => ?_⟩
          rw [PM.get_set_ne _ _ (Ne.symm hk), kill_get]
        · rw [if_neg he] at h; cases h
    obtain ⟨B', hB', k1, k2, k3, k4, k5, k6, k7, k8, k9, k10, k11⟩ := key
    -- what a block other than that is, behind it
    have hother : ∀ k X J, k ≠ a.block → H'.blk.get k = some X → ρ.b k = some J → ∃ Y, H.blk.get k = some Y ∧ (X = Y ∨ (X = Y.dead ∧ J.kind ≠ .box)) ∧ (J.r = I.r → X.ext = false ∧ X.size = 0) := by
      intro k X J hk hX hJ
      rw [k11 k hk] at hX
      by_cases hm : k ∈ B.anc
      · rw [if_pos hm] at hX
        cases hY : H.blk.get k with
        | none => simp [hY] at hX
        | some Y =>
          simp [hY] at hX
          obtain ⟨J', g1, g2, g3⟩ := hH.anc _ B I k hB hI hm
          rw [hJ] at g1; cases g1
          exact ⟨Y, rfl, .inr ⟨hX.symm, g3⟩, fun _ => by rw [← hX]; exact ⟨rfl, rfl⟩⟩
      · rw [if_neg hm] at hX
        refine ⟨X, hX, .inl rfl, fun hr => ?_⟩
        obtain ⟨hxe, h0 | ⟨_, h1⟩⟩ := hH.share a.block k B X I J (Ne.symm hk) hB hX hI hJ hr.symm k8 hroI
        · exact ⟨hxe, h0⟩
        · exact absurd h1 hm
    have hrowI : ∃ c ty fr, (w.setCells I.r (I.o + a.off) vs').heap[I.r]? = some (.cells c ty fr) ∧ c.size = I.cs ∧ (I.ro = false → ∀ j, j < I.cs → ¬ (fr.1 ≤ j ∧ j < fr.2)) := ⟨c', ty, fr, hc', hcs'.trans hcs, hfz⟩
    refine { le := .refl ρ, rel := ?_, os := e1, tape := e2, output := e3, size := (by rw [e4]; exact Nat.le_refl _), keep := fun r hr hm => hoth r (fun e => hm (.inl ⟨_, I, hI, e.symm, hroI⟩)), fresh := fun _ h _ => h, newB := fun k J h h0 => (by rw [h0] at h; cases h), newM := fun k J h h0 => (by rw [h0] at h; cases h), still := ?_, stillM := fun k es h _ => (by rw [k9]; exact h), next := (by rw [k10]; exact Nat.le_refl _), grow := ?_, growM := fun k es h => ⟨es, (by rw [k9]; exact h)⟩ }
    · refine { blk := ?_, dom := ?_, lt := ?_, share := ?_, ros := hH.ros, boxInj := hH.boxInj, anc := ?_, mp := ?_, mdom := fun k r h => (by rw [k9]; exact hH.mdom k r h), mlt := fun k es h => (by rw [k9] at h; rw [k10]; exact hH.mlt k es h), minj := hH.minj }
      · intro k X J hX hJ
        by_cases hk : k = a.block
        · subst hk
          rw [hI] at hJ; cases hJ
          rw [hB'] at hX; cases hX
          refine { row := ⟨c', ty, fr, hc', hcs'.trans hcs, fun i hi => ?_, hfz, hbx⟩, size := by omega, fits := hf0, kind := k3.trans hR.kind, esz := k4.trans hR.esz, ro := k5.trans hR.ro, anc := fun _ => k7, ext := fun x y => k6.trans (hR.ext x y) }
          rw [k1] at hi
          rw [k2, PM.get_setList, hci (I.o + i)]
          by_cases hin : a.off ≤ i ∧ i < a.off + vs.length
          · rw [if_pos hin, if_pos (by omega)]
            have hx : i - a.off < vs.length := by omega
            obtain ⟨v', g1, g2⟩ := hv.get (List.getElem?_eq_getElem hx)
            exact ⟨_, v', List.getElem?_eq_getElem hx, by rw [show I.o + i - (I.o + a.off) = i - a.off by omega]; exact g1, g2⟩
          · rw [if_neg hin, if_neg (by omega)]
            exact hcells i hi
        · obtain ⟨Y, hY, hXY, hz⟩ := hother k X J hk hX hJ
          have hRY := hH.blk k Y J hY hJ
          by_cases hr : J.r = I.r
          · have hz' := (hz hr).2
            obtain ⟨c2, ty2, fr2, g1, g2, g3, g4, g5⟩ := hRY.row
            rw [hr, hc] at g1
            cases g1
            have hrow2 : ∃ c ty fr', (w.setCells I.r (I.o + a.off) vs').heap[J.r]? = some (.cells c ty fr') ∧ c.size = J.cs ∧ (J.ro = false → ∀ j, j < J.cs → ¬ (fr'.1 ≤ j ∧ j < fr'.2)) ∧ (J.kind = .box → fr' = (0, 0)) := ⟨c', ty, fr, by rw [hr]; exact hc', hcs'.trans g2, g4, g5⟩
            rcases hXY with rfl | ⟨rfl, hkx⟩
            · obtain ⟨c3, ty3, fr3, x1, x2, x3, x4⟩ := hrow2
              exact { hRY with row := ⟨c3, ty3, fr3, x1, x2, fun i hi => by omega, x3, x4⟩ }
            · obtain ⟨c3, ty3, fr3, x1, x2, x3, x4⟩ := hrow2
              exact hRY.deadRel hkx ⟨c3, ty3, fr3, x1, x2, x3⟩
          · have he := hoth J.r hr
            rcases hXY with rfl | ⟨rfl, hkx⟩
            · exact hRY.of_heap he
            · obtain ⟨c2, ty2, fr2, g1, g2, g3, g4, g5⟩ := hRY.row
              exact hRY.deadRel hkx ⟨c2, ty2, fr2, by rw [he]; exact g1, g2, g4⟩
      · intro k J hJ
        obtain ⟨Y, hY⟩ := hH.dom k J hJ
        by_cases hk : k = a.block
        · subst hk; exact ⟨B', hB'⟩
        · rw [k11 k hk]; split <;> simp [hY]
      · intro k X hX
        rw [k10]
        by_cases hk : k = a.block
        · subst hk; exact hH.lt _ B hB
        · rw [k11 k hk] at hX
          cases hY : H.blk.get k with
          | none => simp [hY] at hX
          | some Y => exact hH.lt k Y hY
      · intro x y X Y Ix Iy hne hX hY hIx hIy hr he hroX
        by_cases hx : x = a.block
        · subst hx
          rw [hI] at hIx; cases hIx
          obtain ⟨Z, _, _, hz⟩ := hother y Y Iy (Ne.symm hne) hY hIy
          exact ⟨(hz hr.symm).1, .inl (hz hr.symm).2⟩
        · obtain ⟨X0, hX0, hXX, hz⟩ := hother x X Ix hx hX hIx
          have hXe : X = X0 := by
            rcases hXX with h | ⟨h, _⟩
            · exact h
            · rw [h] at he; simp [Blk.dead] at he
          subst hXe
          by_cases hy : y = a.block
          · subst hy
            rw [hI] at hIy; cases hIy
            rw [hB'] at hY; cases hY
            have h1 := (hH.share x _ X B Ix I hx hX0 hB hIx hI hr he hroX).1
            rw [k8] at h1; cases h1
          · obtain ⟨Y0, hY0, hYY, hzy⟩ := hother y Y Iy hy hY hIy
            rcases hYY with rfl | ⟨rfl, _⟩
            · exact hH.share x y X Y Ix Iy hne hX0 hY0 hIx hIy hr he hroX
            · exact ⟨rfl, .inl rfl⟩
      · intro k X J p hX hJ hp
        by_cases hk : k = a.block
        · subst hk
          rw [hB'] at hX; cases hX
          rw [k7] at hp; cases hp
        · obtain ⟨Y, hY, hXY, _⟩ := hother k X J hk hX hJ
          refine hH.anc k Y J p hY hJ ?_
          rcases hXY with rfl | ⟨rfl, _⟩
          · exact hp
          · exact hp
      · intro k es r h1 h2
        rw [k9] at h1
        obtain ⟨es', cl, h3, h4⟩ := hH.mp k es r h1 h2
        refine ⟨es', cl, ?_, h4⟩
        rw [hoth r (fun e => by subst e; rw [hc] at h3; cases h3)]; exact h3
    · intro k X hX h0
      have hk : k ≠ a.block := fun e => by subst e; rw [hI] at h0; cases h0
      rw [k11 k hk, if_neg]
      · exact hX
      · intro hm
        obtain ⟨J, g1, _⟩ := hH.anc _ B I k hB hI hm
        rw [h0] at g1; cases g1
    · intro k X hX
      by_cases hk : k = a.block
      · subst hk; exact ⟨B', hB'⟩
      · rw [k11 k hk]; split <;> simp [hX]
end Go.Det
