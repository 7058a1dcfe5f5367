/-
  Appending: one step of both.
-/
import Derived.Test.YtjoljcoimoablaaGreatDoorZd6
namespace Go.Det
variable {ρ : Inj} {H : Heap} {w : World}

/-- A block is cut short, and is no longer the last of its row. -/
theorem sim_shrink (hH : HeapRel ρ H w) {k : Nat} {B : Blk} {I : Img} (hB : H.blk.get k = some B) (hI : ρ.b k = some I) (hk : I.kind ≠ .box) {m : Nat} (hm : m ≤ B.size) :
    HeapRel ρ { H with blk := H.blk.set k { B with size := m, ext := false } } w := by
  have hget : ∀ j X, (H.blk.set k { B with size := m, ext := false }).get j = some X → ∃ Y, H.blk.get j = some Y ∧ ((j = k ∧ X = { B with size := m, ext := false } ∧ Y = B) ∨ (j ≠ k ∧ X = Y)) := fun j X h => by
    rw [PM.get_set] at h
    by_cases e : k = j
    · subst e; simp at h; exact ⟨B, hB, .inl ⟨rfl, h.symm, rfl⟩⟩
    · rw [if_neg e] at h; exact ⟨X, h, .inr ⟨fun e' => e e'.symm, rfl⟩⟩
  refine { blk := ?_, dom := ?_, lt := ?_, share := ?_, ros := hH.ros, boxInj := hH.boxInj, anc := ?_, mp := hH.mp, mdom := hH.mdom, mlt := hH.mlt, minj := hH.minj }
  · intro j X J hX hJ
    obtain ⟨Y, hY, h⟩ := hget j X hX
    have hR := hH.blk j Y J hY hJ
    rcases h with ⟨rfl, rfl, rfl⟩ | ⟨_, rfl⟩
    · rw [hI] at hJ; cases hJ
      obtain ⟨c, ty, fr, h1, h2, h3, h4, h5⟩ := hR.row
      exact { row := ⟨c, ty, fr, h1, h2, fun i hi => h3 i (Nat.lt_of_lt_of_le hi hm), h4, h5⟩, size := Nat.le_trans hm hR.size, fits := hR.fits, kind := hR.kind, esz := hR.esz, ro := hR.ro, anc := hR.anc, ext := fun e => absurd e hk }
    · exact hR
  · intro j J hJ
    obtain ⟨Y, hY⟩ := hH.dom j J hJ
    by_cases e : k = j
    · subst e; exact ⟨_, PM.get_set_same _ _ _⟩
    · exact ⟨Y, by simp only; rw [PM.get_set_ne _ _ e]; exact hY⟩
  · intro j X hX
    obtain ⟨Y, hY, _⟩ := hget j X hX
    exact hH.lt j Y hY
  · intro x y X Y Ix Iy hne hX hY hIx hIy hr he hro
    obtain ⟨X0, hX0, hx⟩ := hget x X hX
    obtain ⟨Y0, hY0, hy⟩ := hget y Y hY
    have hXe : X = X0 := by
      rcases hx with ⟨_, h, _⟩ | ⟨_, h⟩
      · rw [h] at he; cases he
      · exact h
    subst hXe
    obtain ⟨h1, h0 | ⟨h2, h3⟩⟩ := hH.share x y X Y0 Ix Iy hne hX0 hY0 hIx hIy hr he hro
    · rcases hy with ⟨_, rfl, rfl⟩ | ⟨_, rfl⟩
      · exact ⟨rfl, .inl (by simp only; omega)⟩
      · exact ⟨h1, .inl h0⟩
    · rcases hy with ⟨_, rfl, rfl⟩ | ⟨_, rfl⟩
      · exact ⟨rfl, .inr ⟨by simp only; omega, h3⟩⟩
      · exact ⟨h1, .inr ⟨h2, h3⟩⟩
  · intro j X J p hX hJ hp
    obtain ⟨Y, hY, h⟩ := hget j X hX
    refine hH.anc j Y J p hY hJ ?_
    rcases h with ⟨_, rfl, rfl⟩ | ⟨_, rfl⟩
    · exact hp
    · exact hp

theorem Sim.of_shrink (hH : HeapRel ρ H w) {k : Nat} {B : Blk} {I : Img} (hB : H.blk.get k = some B) (hI : ρ.b k = some I) (hk : I.kind ≠ .box) {m : Nat} (hm : m ≤ B.size) :
    Sim ρ H w ρ { H with blk := H.blk.set k { B with size := m, ext := false } } w where
  le := .refl ρ
  rel := sim_shrink hH hB hI hk hm
  os := rfl
  tape := rfl
  output := rfl
  size := Nat.le_refl _
  keep := fun _ _ _ => rfl
  fresh := fun _ h _ => h
  newB := fun k I h h0 => by rw [h0] at h; cases h
  newM := fun k I h h0 => by rw [h0] at h; cases h
  still := fun j X hX h0 => by
    simp only
    rw [PM.get_set_ne _ _ (fun e => by subst e; rw [hI] at h0; cases h0)]; exact hX
  stillM := fun _ _ h _ => h
  next := Nat.le_refl _
  grow := fun j X hX => by
    simp only [PM.get_set]
    by_cases e : k = j
    · simp [e]
    · simp [e, hX]
  growM := fun _ B h => ⟨B, h⟩

/-- A row grows in place: what is behind its end is written, and a new block has it all. -/
theorem sim_grow (P : Program) (hH : HeapRel ρ H w) {id : Nat} (hid : H.blk.get id = none) {a : Addr} {B : Blk} {I : Img} (hB : H.blk.get a.block = some B) (hI : ρ.b a.block = some I) (hk : I.kind ≠ .box) (hroI : I.ro = false) (hext : B.ext = true)
    {old new new' : List Value} {len n esz : Nat} (hold : H.look a (len * esz) = some old ∨ (len * esz = 0 ∧ old = [])) (hsp : a.spot = none) (hnew : VRL ρ new new') (hnl : new.length = n * esz) (hcell : new.all cellOk = true)
    (hend : a.off + len * esz ≤ B.size) (htip : I.kind = .arr ∨ B.size ≤ a.off + len * esz) (hroom : I.o + a.off + (len + n) * esz ≤ I.cs) :
    ∃ w', (storeCells ((⟨I.r, I.o + a.off, none⟩ : Addr).add (len * esz)) new').run P w = .ok () w' ∧
      Sim ρ H w (ρ.with id ⟨I.r, I.o + a.off, I.cs, (len + n) * esz, esz, .row, false⟩)
        ({ H with blk := H.blk.set a.block { B with size := a.off + len * esz, ext := false } }.make id { mkBlk .row esz (old ++ new) with anc := a.block :: B.anc }) w' := by
  have hR := hH.blk _ B I hB hI
  obtain ⟨c, ty, fr, hc, hcs, hcells, hfz, hbx⟩ := hR.row
  have hidn := hH.not_dom hid
  have hne : a.block ≠ id := fun e => by rw [e, hid] at hB; cases hB
  have hnl' : new'.length = n * esz := by rw [← hnew.1, hnl]
  have hmul : (len + n) * esz = len * esz + n * esz := Nat.add_mul ..
  have hsz := hR.size
  have hfits := hR.fits
  have hol : old.length = len * esz ∧ ∀ i, i < len * esz → ∃ v v', old[i]? = some v ∧ c[I.o + a.off + i]? = some v' ∧ VR ρ v v' := by
    rcases hold with h | ⟨h1, h2⟩
    · unfold Heap.look at h
      rw [hsp] at h
      simp only [hB, if_pos hend] at h
      obtain ⟨hl, hg⟩ := PM.getN_some h
      refine ⟨hl, fun i hi => ?_⟩
      obtain ⟨v, v', h1, h2, h3⟩ := hcells (a.off + i) (by omega)
      exact ⟨v, v', by rw [← hg i hi]; exact h1, by rw [Nat.add_assoc]; exact h2, h3⟩
    · subst h2
      exact ⟨by simp [h1], fun i hi => by omega⟩
  obtain ⟨c', hc', hcs', hci⟩ := setCells_heap I.r ty fr new' (I.o + a.off + len * esz) c w hc
  have hoth : ∀ k, k ≠ I.r → (w.setCells I.r (I.o + a.off + len * esz) new').heap[k]? = w.heap[k]? := fun k hk => setCells_other I.r k hk new' _ w
  obtain ⟨e1, e2, e3, e4⟩ := setCells_rest I.r new' (I.o + a.off + len * esz) w
  have hle : ρ.le (ρ.with id ⟨I.r, I.o + a.off, I.cs, (len + n) * esz, esz, .row, false⟩) := Inj.with_le hidn
  -- nothing else lies behind the end
  have hfree : ∀ k X J, k ≠ a.block → H.blk.get k = some X → ρ.b k = some J → J.r = I.r → X.ext = false ∧ (X.size = 0 ∨ (J.o + X.size ≤ I.o + a.off + len * esz ∧ k ∈ B.anc)) := by
    intro k X J hk hX hJ hr
    obtain ⟨h1, h | ⟨h2, h3⟩⟩ := hH.share a.block k B X I J (Ne.symm hk) hB hX hI hJ hr.symm hext hroI
    · exact ⟨h1, .inl h⟩
    · rcases htip with ht | ht
      · have : B.anc = [] := hR.anc (by rw [ht]; simp)
        rw [this] at h3; cases h3
      · exact ⟨h1, .inr ⟨by omega, h3⟩⟩
  have hget : ∀ k X, (({ H with blk := H.blk.set a.block { B with size := a.off + len * esz, ext := false } } : Heap).make id { mkBlk .row esz (old ++ new) with anc := a.block :: B.anc }).blk.get k = some X →
      (k = id ∧ X = { mkBlk .row esz (old ++ new) with anc := a.block :: B.anc }) ∨ (k = a.block ∧ X = { B with size := a.off + len * esz, ext := false }) ∨ (k ≠ id ∧ k ≠ a.block ∧ H.blk.get k = some X) := by
    intro k X h
    simp only [Heap.make, PM.get_set] at h
    by_cases ek : id = k
    · rw [if_pos ek] at h; cases h; exact .inl ⟨ek.symm, rfl⟩
    · rw [if_neg ek] at h
      by_cases ea : a.block = k
      · rw [if_pos ea] at h; cases h; exact .inr (.inl ⟨ea.symm, rfl⟩)
      · rw [if_neg ea] at h; exact .inr (.inr ⟨Ne.symm ek, Ne.symm ea, h⟩)
  have hset : ∀ k, k ≠ id → k ≠ a.block → (({ H with blk := H.blk.set a.block { B with size := a.off + len * esz, ext := false } } : Heap).make id { mkBlk .row esz (old ++ new) with anc := a.block :: B.anc }).blk.get k = H.blk.get k := fun k h1 h2 => by
    simp only [Heap.make]; rw [PM.get_set_ne _ _ (Ne.symm h1), PM.get_set_ne _ _ (Ne.symm h2)]
  refine ⟨w.setCells I.r (I.o + a.off + len * esz) new', ?_, ?_⟩
  · have := run_storeCells_cells (P := P) I.r (I.o + a.off + len * esz) new' 0 w (fun j hj => ?_) (fun j hj => ?_) (hnew.cellOk hcell)
    · rw [Addr.add_lit]; simpa using this
    · have : I.o + a.off + len * esz + 0 + j < c.size := by omega
      simp [World.cell?, hc]; omega
    · have := hfz hroI (I.o + a.off + len * esz + 0 + j) (by omega)
      simp only [World.frozen?, hc]
      simpa using this
  have hkeepc : ∀ i, i < I.o + a.off + len * esz → c'[i]? = c[i]? := fun i hi => by rw [hci, if_neg (by omega)]
  refine { le := hle, rel := ?_, os := e1, tape := e2, output := e3, size := (by rw [e4]; exact Nat.le_refl _), keep := fun r hr hm => hoth r (fun e => hm (.inl ⟨_, I, hI, e.symm, hroI⟩)), fresh := ?_, newB := ?_, newM := fun k J h h0 => (by have h' : ρ.m k = some J := h; rw [h0] at h'; cases h'), still := ?_, stillM := fun k es h _ => h, next := Nat.le_max_left _ _, grow := ?_, growM := fun k es h => ⟨es, h⟩ }
  · refine { blk := ?_, dom := ?_, lt := ?_, share := ?_, ros := ?_, boxInj := ?_, anc := ?_, mp := ?_, mdom := hH.mdom, mlt := fun k es h => Nat.lt_of_lt_of_le (hH.mlt k es h) (Nat.le_max_left _ _), minj := hH.minj }
    · intro k X J hX hJ
      rcases hget k X hX with ⟨rfl, rfl⟩ | ⟨rfl, rfl⟩ | ⟨n1, n2, hX0⟩
      · rw [Inj.with_self] at hJ; cases hJ
        refine { row := ⟨c', ty, fr, hc', hcs'.trans hcs, fun i hi => ?_, fun _ => hfz hroI, fun e => by cases e⟩, size := ?_, fits := hroom, kind := rfl, esz := rfl, ro := rfl, anc := fun e => absurd rfl e, ext := fun e => by cases e }
        · have hi' : i < (old ++ new).length := hi
          rw [List.length_append, hol.1, hnl] at hi'
          simp only [mkBlk, PM.get_ofList]
          by_cases hio : i < len * esz
          · obtain ⟨v, v', h1, h2, h3⟩ := hol.2 i hio
            refine ⟨v, v', ?_, ?_, h3.mono hle⟩
            · rw [List.getElem?_append_left (by rw [hol.1]; exact hio)]; exact h1
            · rw [hkeepc _ (by omega)]; exact h2
          · have hx : i - len * esz < new.length := by omega
            obtain ⟨v', g1, g2⟩ := hnew.get (List.getElem?_eq_getElem hx)
            refine ⟨new[i - len * esz], v', ?_, ?_, g2.mono hle⟩
            · rw [List.getElem?_append_right (by rw [hol.1]; omega), hol.1]; exact List.getElem?_eq_getElem hx
            · rw [hci, if_pos (by omega)]
              rw [show I.o + a.off + i - (I.o + a.off + len * esz) = i - len * esz by omega]; exact g1
        · simp only [mkBlk, List.length_append, hol.1, hnl]; omega
      · rw [Inj.with_ne hne, hI] at hJ; cases hJ
        exact { row := ⟨c', ty, fr, hc', hcs'.trans hcs, fun i hi => (by
                  have hi' : i < a.off + len * esz := hi
                  obtain ⟨v, v', h1, h2, h3⟩ := hcells i (by omega)
                  exact ⟨v, v', h1, by rw [hkeepc _ (by omega)]; exact h2, h3.mono hle⟩), hfz, hbx⟩, size := (by simp only; omega), fits := hR.fits, kind := hR.kind, esz := hR.esz, ro := hR.ro, anc := hR.anc, ext := fun e => absurd e hk }
      · rw [Inj.with_ne n1] at hJ
        have hRX := (hH.blk k X J hX0 hJ).mono hle
        by_cases hr : J.r = I.r
        · obtain ⟨c2, ty2, fr2, g1, g2, g3, g4, g5⟩ := hRX.row
          rw [hr, hc] at g1; cases g1
          refine { hRX with row := ⟨c', ty, fr, by rw [hr]; exact hc', hcs'.trans g2, fun i hi => ?_, g4, g5⟩ }
          obtain ⟨_, h0 | ⟨h2, _⟩⟩ := hfree k X J n2 hX0 hJ hr
          · omega
          · obtain ⟨v, v', x1, x2, x3⟩ := g3 i hi
            exact ⟨v, v', x1, by rw [hkeepc _ (by omega)]; exact x2, x3⟩
        · exact hRX.of_heap (hoth J.r hr)
    · intro k J hJ
      by_cases e : k = id
      · subst e; exact ⟨_, PM.get_set_same _ _ _⟩
      · rw [Inj.with_ne e] at hJ
        by_cases e' : k = a.block
        · subst e'
          exact ⟨_, by simp only [Heap.make]; rw [PM.get_set_ne _ _ (Ne.symm e), PM.get_set_same]⟩
        · obtain ⟨Y, hY⟩ := hH.dom k J hJ
          exact ⟨Y, by rw [hset k e e']; exact hY⟩
    · intro k X hX
      rcases hget k X hX with ⟨rfl, _⟩ | ⟨rfl, _⟩ | ⟨_, _, hX0⟩
      · exact Nat.lt_of_lt_of_le (Nat.lt_succ_self _) (Nat.le_max_right _ _)
      · exact Nat.lt_of_lt_of_le (hH.lt _ B hB) (Nat.le_max_left _ _)
      · exact Nat.lt_of_lt_of_le (hH.lt k X hX0) (Nat.le_max_left _ _)
    · intro x y X Y Ix Iy hxy hX hY hIx hIy hr he hro
      rcases hget x X hX with ⟨rfl, rfl⟩ | ⟨rfl, rfl⟩ | ⟨n1, n2, hX0⟩
      · rw [Inj.with_self] at hIx; cases hIx
        rw [Inj.with_ne (Ne.symm hxy)] at hIy
        rcases hget y Y hY with ⟨rfl, _⟩ | ⟨rfl, rfl⟩ | ⟨m1, m2, hY0⟩
        · exact absurd rfl hxy
        · rw [hI] at hIy; cases hIy
          refine ⟨rfl, .inr ⟨?_, by simp⟩⟩
          simp only [mkBlk, List.length_append, hol.1, hnl]; omega
        · obtain ⟨h1, h0 | ⟨h2, h3⟩⟩ := hfree y Y Iy m2 hY0 hIy hr.symm
          · exact ⟨h1, .inl h0⟩
          · refine ⟨h1, .inr ⟨?_, by simp [h3]⟩⟩
            simp only [mkBlk, List.length_append, hol.1, hnl]; omega
      · cases he
      · rw [Inj.with_ne n1] at hIx
        rcases hget y Y hY with ⟨rfl, rfl⟩ | ⟨rfl, rfl⟩ | ⟨m1, m2, hY0⟩
        · rw [Inj.with_self] at hIy; cases hIy
          have h1 := (hfree x X Ix n2 hX0 hIx hr).1
          rw [he] at h1; cases h1
        · rw [Inj.with_ne hne, hI] at hIy; cases hIy
          have g1 := (hH.share x a.block X B Ix I n2 hX0 hB hIx hI hr he hro).1
          rw [hext] at g1; cases g1
        · rw [Inj.with_ne m1] at hIy
          exact hH.share x y X Y Ix Iy hxy hX0 hY0 hIx hIy hr he hro
    · intro k₁ k₂ I₁ I₂ g1 g2 h1 h2 hr
      by_cases x1 : k₁ = id
      · subst x1; rw [Inj.with_self] at g1; cases g1; cases h1
      · rw [Inj.with_ne x1] at g1
        by_cases x2 : k₂ = id
        · subst x2; rw [Inj.with_self] at g2; cases g2
          exact hH.ros k₁ a.block I₁ I g1 hI h1 hroI hr
        · rw [Inj.with_ne x2] at g2; exact hH.ros k₁ k₂ I₁ I₂ g1 g2 h1 h2 hr
    · intro k₁ k₂ I₁ I₂ hne g1 g2 h1 h2 hr
      have n1 : k₁ ≠ id := fun e => by subst e; rw [Inj.with_self] at g1; cases g1; cases h1
      have n2 : k₂ ≠ id := fun e => by subst e; rw [Inj.with_self] at g2; cases g2; cases h2
      rw [Inj.with_ne n1] at g1; rw [Inj.with_ne n2] at g2
      exact hH.boxInj k₁ k₂ I₁ I₂ hne g1 g2 h1 h2 hr
    · intro k X J p hX hJ hp
      rcases hget k X hX with ⟨rfl, rfl⟩ | ⟨rfl, rfl⟩ | ⟨n1, n2, hX0⟩
      · simp only [List.mem_cons] at hp
        rcases hp with rfl | hp
        · exact ⟨I, hle.1 _ _ hI, hroI, hk⟩
        · obtain ⟨J', h5, h6⟩ := hH.anc _ B I p hB hI hp
          exact ⟨J', hle.1 _ _ h5, h6⟩
      · obtain ⟨J', h5, h6⟩ := hH.anc _ B I p hB hI hp
        exact ⟨J', hle.1 _ _ h5, h6⟩
      · rw [Inj.with_ne n1] at hJ
        obtain ⟨J', h5, h6⟩ := hH.anc k X J p hX0 hJ hp
        exact ⟨J', hle.1 _ _ h5, h6⟩
    · intro k es r h1 h2
      obtain ⟨es', cl, h3, h4⟩ := hH.mp k es r h1 h2
      refine ⟨es', cl, ?_, h4.mono hle⟩
      rw [hoth r (fun e => by subst e; rw [hc] at h3; cases h3)]; exact h3
  · rintro r (⟨k, J, h1, h2, h3⟩ | ⟨k, h1⟩) hr
    · by_cases e : k = id
      · subst e; rw [Inj.with_self] at h1; cases h1; exact .inl ⟨_, I, hI, h2, hroI⟩
      · rw [Inj.with_ne e] at h1; exact .inl ⟨k, J, h1, h2, h3⟩
    · exact .inr ⟨k, h1⟩
  · intro k J h h0
    by_cases e : k = id
    · subst e; exact hid
    · rw [Inj.with_ne e, h0] at h; cases h
  · intro k X hX h0
    rw [hset k (fun e => by subst e; rw [hid] at hX; cases hX) (fun e => by subst e; rw [hI] at h0; cases h0)]; exact hX
  · intro k X hX
    by_cases e' : k = a.block
    · subst e'
      exact ⟨_, by simp only [Heap.make]; rw [PM.get_set_ne _ _ (Ne.symm hne), PM.get_set_same]⟩
    · exact ⟨X, by rw [hset k (fun e => by subst e; rw [hid] at hX; cases hX) e']; exact hX⟩
end Go.Det
