/-
  A region that draws, whole; then all code; then a call.
-/
import Derived.Test.YtjoljcoimoablaaGreatDoorZd22
import Derived.LoopN
namespace Go.Det
section
variable {P : Program} {G : Nat → Bool} {E : List TypeId} {call : CallFn} {m n base : Nat} {ops : Array Oper} {dops : Array DOper}
variable {T₀ T' : Tmps} {ρ₀ : Inj} {H₀ H' : Heap} {w₀ : World} {a₀ : Act}

/-- Nothing waits to be put that could be. -/
def Front (dops : Array DOper) (is : List Nat) : Prop := is = [] ∨ ∃ i is' o, is = i :: is' ∧ dops[i]? = some o ∧ o.op.cls = .eff

theorem front (hconv : Conv P G E n ops dops) (h0 : ∀ i, i < m → H₀.blk.get (base + i) = none) {D : Nat → Prop} {ρ : Inj} {a : Act} {w : World} : ∀ {is : List Nat} {seen : List Put} {mask : Nat} {sread : Seen} {Tc : Tmps} {Hc : Heap},
    DInv P G E call m n base ops dops T₀ ρ₀ H₀ w₀ a₀ T' H' D seen mask is sread Tc Hc ρ a w →
    ∃ seen' mask' is' sread' Tc' Hc', DInv P G E call m n base ops dops T₀ ρ₀ H₀ w₀ a₀ T' H' D seen' mask' is' sread' Tc' Hc' ρ a w ∧ Front dops is' := by
  intro is
  induction is with
  | nil => intro seen mask sread Tc Hc h; exact ⟨seen, mask, [], sread, Tc, Hc, h, .inl rfl⟩
  | cons i is ih =>
    intro seen mask sread Tc Hc h
    obtain ⟨items, hm, _⟩ := h.run
    obtain ⟨r, o, _, _, _, e2, _⟩ := mkDraw_cons hm
    by_cases hc : o.op.cls = .eff
    · exact ⟨seen, mask, i :: is, sread, Tc, Hc, h, .inr ⟨i, is, o, rfl, e2, hc⟩⟩
    · obtain ⟨_, _, _, _, _, h'⟩ := hoist hconv h0 h (fun o' e => by rw [e2] at e; cases e; exact hc)
      exact ih h'

theorem countP_lt {p q : Nat → Bool} : ∀ {l : List Nat}, (∀ x ∈ l, q x = true → p x = true) → (∃ i ∈ l, p i = true ∧ q i = false) → l.countP q < l.countP p := by
  intro l
  induction l with
  | nil => rintro _ ⟨i, h, _⟩; simp at h
  | cons x l ih =>
    rintro h ⟨i, hi, h1, h2⟩
    have hle : l.countP q ≤ l.countP p := List.countP_mono_left fun y hy => h y (by simp [hy])
    by_cases hx : q x = true
    · have hp := h x (by simp) hx
      rw [List.countP_cons_of_pos hx, List.countP_cons_of_pos hp]
      have : i ≠ x := fun e => by subst e; rw [hx] at h2; cases h2
      have := ih (fun y hy => h y (by simp [hy])) ⟨i, by simpa [this] using hi, h1, h2⟩
      omega
    · rw [List.countP_cons_of_neg hx]
      by_cases hp : p x = true
      · rw [List.countP_cons_of_pos hp]; omega
      · rw [List.countP_cons_of_neg hp]
        have : i ≠ x := fun e => by subst e; exact hp h1
        exact ih (fun y hy => h y (by simp [hy])) ⟨i, by simpa [this] using hi, h1, h2⟩

theorem ready_iff {listed : Array Bool} (hs : listed.size = ops.size) {i : Nat} : i ∈ Region.ready .any ops listed ↔ ∃ r, ops[i]? = some r ∧ listed.getD i false = false ∧ ∀ j ∈ aheadOf r, listed.getD j false = true := by
  unfold Region.ready
  rw [List.mem_filter, List.mem_range]
  constructor
  · rintro ⟨h1, h2⟩
    have hr : ops[i]? = some ops[i] := Array.getElem?_eq_getElem h1
    rw [hr] at h2
    simp only [Option.map_some, Option.getD_some, Bool.and_eq_true, Bool.not_eq_true'] at h2
    have hl : i < listed.size := by omega
    refine ⟨ops[i], hr, ?_, fun j hj => ?_⟩
    · have := h2.1
      simpa [Array.getD_eq_getD_getElem?, hl] using this
    · unfold aheadOf at hj
      obtain ⟨e, he, hj⟩ := List.mem_filterMap.1 hj
      split at hj
      · rename_i hb
        cases hj
        have := Array.all_eq_true_iff_forall_mem.1 h2.2 e (by simpa using he)
        simpa [hb] using this
      · cases hj
  · rintro ⟨r, hr, h1, h2⟩
    have hlt : i < ops.size := (Array.getElem?_eq_some_iff.1 hr).1
    have hl : i < listed.size := by omega
    refine ⟨hlt, ?_⟩
    rw [hr]
    simp only [Option.map_some, Option.getD_some, Bool.and_eq_true, Bool.not_eq_true']
    refine ⟨by simpa [Array.getD_eq_getD_getElem?, hl] using h1, Array.all_eq_true_iff_forall_mem.2 fun e he => ?_⟩
    cases hb : Region.binds .any e with
    | false => rfl
    | true =>
      simp only [Bool.not_true, Bool.false_or]
      exact h2 e.on (List.mem_filterMap.2 ⟨e, by simpa using he, by simp [hb]⟩)

theorem listed_set {listed : Array Bool} {i : Nat} (hi : i < listed.size) : (fun j => (listed.setIfInBounds i true).getD j false = true) = fun j => listed.getD j false = true ∨ j = i := by
  funext j
  apply propext
  simp only [Array.getD_eq_getD_getElem?, Array.getElem?_setIfInBounds]
  by_cases e : i = j
  · subst e; simp [hi]
  · simp [e, Ne.symm e]

theorem any_wp (hconv : Conv P G E n ops dops) (hE : EqTypes P E) (hC : CallOK P G call) (hF : CallFresh call) (hG : Gok ρ₀ G) (hm : m = ops.size) (h0 : ∀ i, i < m → H₀.blk.get (base + i) = none) {Q : Exit → Act → World → Prop}
    (hQ : ∀ a' w' ρ', Sim ρ₀ H₀ w₀ ρ' H' w' → TR ρ' n T' a' → a'.defers = a₀.defers → Q .normal a' w') :
    ∀ (fuel : Nat) (listed : Array Bool) (seen : List Put) (mask : Nat) (is : List Nat) (sread : Seen) (Tc : Tmps) (Hc : Heap) (ρ : Inj) (a : Act) (w : World), listed.size = ops.size → (List.range m).countP (fun j => !listed.getD j false) ≤ fuel →
      DInv P G E call m n base ops dops T₀ ρ₀ H₀ w₀ a₀ T' H' (fun j => listed.getD j false = true) seen mask is sread Tc Hc ρ a w → Front dops is → wpAny P .any ops Q fuel listed a w := by
  have fin : ∀ (listed : Array Bool) (seen : List Put) (mask : Nat) (is : List Nat) (sread : Seen) (Tc : Tmps) (Hc : Heap) (ρ : Inj) (a : Act) (w : World), listed.size = ops.size →
      DInv P G E call m n base ops dops T₀ ρ₀ H₀ w₀ a₀ T' H' (fun j => listed.getD j false = true) seen mask is sread Tc Hc ρ a w → Region.ready .any ops listed = [] → Q .normal a w := by
    intro listed seen mask is sread Tc Hc ρ a w hs h hr
    have hall : ∀ t ∈ seen, listed.getD t.i false = true := by
      refine h.sinv.order (fun j => listed.getD j false = true) fun t ht ha => ?_
      cases e : listed.getD t.i false with
      | true => rfl
      | false =>
        have : t.i ∈ Region.ready .any ops listed := (ready_iff hs).2 ⟨t.r, (h.sinv.at_ t ht).1, e, ha⟩
        rw [hr] at this; simp at this
    obtain ⟨items, hmk, hrun⟩ := h.run
    cases is with
    | cons i is =>
      exfalso
      obtain ⟨r, o, its, js, e1, e2, hok, _⟩ := mkDraw_cons hmk
      obtain ⟨p1, p2, p3, _⟩ := putOk_apart hok
      have q1 : listed.getD i false = false := by
        cases e : listed.getD i false with
        | false => rfl
        | true => have := h.sub i e; rw [p2] at this; cases this
      have q2 : ∀ j ∈ aheadOf r, listed.getD j false = true := fun j hj => by
        obtain ⟨t, ht, e⟩ := (h.sinv.bits j).1 (p3 j hj)
        exact e ▸ hall t ht
      have : i ∈ Region.ready .any ops listed := (ready_iff hs).2 ⟨r, e1, q1, q2⟩
      rw [hr] at this; simp at this
    | nil =>
      have hit : items = [] := by
        simp only [mkDraw] at hmk
        split at hmk <;> simp at hmk
        exact hmk
      subst hit
      simp only [runDraw, Option.some.injEq, Prod.mk.injEq] at hrun
      obtain ⟨rfl, rfl⟩ := hrun
      refine hQ a w ρ h.sim ⟨h.size, fun d => ?_⟩ h.defers
      by_cases hd : ∃ t ∈ seen, t.r.dst = some d
      · obtain ⟨t, ht, e⟩ := hd
        exact (h.tmps d).1 ⟨t, ht, hall t ht, e⟩
      · rw [h.old d fun t ht e => hd ⟨t, ht, e⟩]
        exact (h.tmps d).2 fun t ht _ e => hd ⟨t, ht, e⟩
  intro fuel
  induction fuel with
  | zero =>
    intro listed seen mask is sread Tc Hc ρ a w hs hcnt h hf
    have hr : Region.ready .any ops listed = [] := by
      rw [List.eq_nil_iff_forall_not_mem]
      intro i hi
      obtain ⟨r, h1, h2, _⟩ := (ready_iff hs).1 hi
      have hlt : i < ops.size := (Array.getElem?_eq_some_iff.1 h1).1
      have := List.countP_eq_zero.1 (Nat.le_zero.1 hcnt) i (by simp; omega)
      simp [h2] at this
    exact ⟨hr, fin listed seen mask is sread Tc Hc ρ a w hs h hr⟩
  | succ fuel ih =>
    intro listed seen mask is sread Tc Hc ρ a w hs hcnt h hf
    refine ⟨fin listed seen mask is sread Tc Hc ρ a w hs h, fun i hi => ?_⟩
    obtain ⟨r, h1, h2, h3⟩ := (ready_iff hs).1 hi
    have hlt : i < ops.size := (Array.getElem?_eq_some_iff.1 h1).1
    have hnext : ∀ seen' mask' is' sread' Tc' Hc' ρ' a' w', DInv P G E call m n base ops dops T₀ ρ₀ H₀ w₀ a₀ T' H' (fun j => listed.getD j false = true ∨ j = i) seen' mask' is' sread' Tc' Hc' ρ' a' w' → wpAny P .any ops Q fuel (listed.setIfInBounds i true) a' w' := by
      intro seen' mask' is' sread' Tc' Hc' ρ' a' w' hinv
      rw [← listed_set (by omega)] at hinv
      obtain ⟨_, _, _, _, _, _, hinv', hf'⟩ := front hconv h0 hinv
      refine ih _ _ _ _ _ _ _ _ _ _ (by simp [hs]) ?_ hinv' hf'
      have : (List.range m).countP (fun j => !(listed.setIfInBounds i true).getD j false) < (List.range m).countP (fun j => !listed.getD j false) := by
        refine countP_lt (fun x _ hx => ?_) ⟨i, by simp; omega, by simp [h2], ?_⟩
        · have := congrFun (listed_set (listed := listed) (i := i) (by omega)) x
          cases e : listed.getD x false with
          | false => rfl
          | true =>
            have h4 : (listed.setIfInBounds i true).getD x false = true := by rw [this]; exact .inl e
            rw [h4] at hx; cases hx
        · have := congrFun (listed_set (listed := listed) (i := i) (by omega)) i
          have h4 : (listed.setIfInBounds i true).getD i false = true := by rw [this]; exact .inr rfl
          rw [h4]; rfl
      omega
    have hD : ¬ (listed.getD i false = true) := by rw [h2]; simp
    have inseen : mask.testBit i = true → wpOp P ops Q i (wpAny P .any ops Q fuel (listed.setIfInBounds i true)) a w := fun hb => by
      obtain ⟨t, ht, rfl⟩ := (h.sinv.bits i).1 hb
      have e : t.r = r := by have := (h.sinv.at_ t ht).1; rw [h1] at this; exact (Option.some.inj this).symm
      exact fire hconv hE hG h0 h ht hD (by rw [e]; exact h3) fun ρ' a' w' hinv => hnext _ _ _ _ _ _ _ _ _ hinv
    obtain ⟨items, hmk, hrun⟩ := h.run
    rcases hf with rfl | ⟨i', is', o, rfl, ho, hc⟩
    · refine inseen ?_
      simp only [mkDraw] at hmk
      split at hmk
      · rename_i hb
        exact List.all_eq_true.1 hb i (by simp; omega)
      · cases hmk
    · obtain ⟨r', o', its, js, e1, e2, hok, _⟩ := mkDraw_cons hmk
      rw [ho] at e2; cases e2
      obtain ⟨p1, p2, p3, p4, p5⟩ := putOk_apart hok
      by_cases hb : mask.testBit i = true
      · exact inseen hb
      · have hfr := List.all_eq_true.1 (p5 hc) i (by simp; omega)
        simp only [Bool.or_eq_true, beq_iff_eq] at hfr
        rcases hfr with (hfr | hfr) | hfr
        · subst hfr
          exact act hconv hE hC hF hG h ho hc (fun q hq => by rw [h1] at hq; cases hq; exact h3) fun _ _ _ _ _ _ _ hinv => hnext _ _ _ _ _ _ _ _ _ hinv
        · exact absurd hfr hb
        · exfalso
          rw [h1] at hfr
          simp only [List.any_eq_true, Bool.not_eq_true'] at hfr
          obtain ⟨k, hk, hk2⟩ := hfr
          have := h.sub k (h3 k hk)
          rw [hk2] at this; cases this
end

/-- A region that draws. -/
theorem draw_wp {P : Program} {G : Nat → Bool} {E : List TypeId} {call : CallFn} {n rid : Nat} {ops : Array Oper} {os : List DOper} {T T' : Tmps} {ρ : Inj} {H H' : Heap} {w : World} {a : Act} {ord : List Nat} {items : List (Nat × DOper × List Nat)}
    (hP : P.follows .mixedOrders = true) (hos : ops.toList.mapM (convOper P G E n ops) = some os) (hmk : mkDraw ops.size ops os.toArray [] 0 ord = some items) (hE : EqTypes P E) (hC : CallOK P G call) (hF : CallFresh call) (hG : Gok ρ G) (hH : HeapRel ρ H w) (ht : TR ρ n T a)
    (hr : runDraw call H.next items [] T { H with next := H.next + ops.size } = some (T', H')) {Q : Exit → Act → World → Prop}
    (hQ : ∀ a' w' ρ', Sim ρ H w ρ' H' w' → TR ρ' n T' a' → a'.defers = a.defers → Q .normal a' w') : (Code.region rid ops true).wp P Q a w := by
  have hconv : Conv P G E n ops os.toArray := by
    intro i r o h1 h2
    have key : ∀ (l : List Oper) (ds : List DOper), l.mapM (convOper P G E n ops) = some ds → ∀ (i : Nat) r o, l[i]? = some r → ds[i]? = some o → convOper P G E n ops r = some o := by
      intro l
      induction l with
      | nil => intro ds _ i r o h; simp at h
      | cons x l ih =>
        intro ds hd i r o h1 h2
        obtain ⟨y, ys, e1, e2, rfl⟩ := mapM_cons_some hd
        cases i with
        | zero => simp at h1 h2; subst h1; subst h2; exact e1
        | succ i => simp at h1 h2; exact ih ys e2 i r o h1 h2
    exact key _ _ hos i r o (by simpa using h1) (by simpa using h2)
  have hnone : ∀ k, H.next ≤ k → H.blk.get k = none := fun k hk => by
    cases e : H.blk.get k with
    | none => rfl
    | some B => have := hH.lt _ _ e; omega
  have hnonem : ∀ k, H.next ≤ k → H.mp.get k = none := fun k hk => by
    cases e : H.mp.get k with
    | none => rfl
    | some B => have := hH.mlt _ _ e; omega
  refine wp_region_any hP ?_
  have hinv : DInv P G E call ops.size n H.next ops os.toArray T ρ H w a T' H' (fun j => (Array.replicate ops.size false).getD j false = true) [] 0 ord [] T { H with next := H.next + ops.size } ρ a { w with drawn := w.drawn + 1 } := by
    have hno : ∀ j, ¬ ((Array.replicate ops.size false).getD j false = true) := fun j => by
      simp only [Array.getD_eq_getD_getElem?, Array.getElem?_replicate]
      split <;> simp
    exact {
      sinv := .nil
      run := ⟨items, hmk, hr⟩
      closed := fun i r _ hD => absurd hD (hno i)
      sub := fun i hD => absurd hD (hno i)
      pend := fun t ht => by simp at ht
      sim := (Sim.draw hH _).ext ⟨fun _ => rfl, fun _ => rfl⟩ (Nat.le_add_right _ _)
      next := Nat.le_refl _
      mp := fun i _ => hnonem _ (Nat.le_add_right _ _)
      blk := fun i _ _ => hnone _ (Nat.le_add_right _ _)
      size := ht.size
      tmps := fun d => ⟨fun ⟨t, h, _⟩ => by simp at h, fun _ => ht.val d⟩
      old := fun d _ => rfl
      defers := rfl }
  obtain ⟨_, _, _, _, _, _, hinv', hf⟩ := front hconv (fun i _ => hnone _ (Nat.le_add_right _ _)) hinv
  exact any_wp hconv hE hC hF hG rfl (fun i _ => hnone _ (Nat.le_add_right _ _)) hQ ops.size _ _ _ _ _ _ _ _ _ _ (by simp) (by
    refine Nat.le_trans List.countP_le_length ?_
    simp) hinv' hf
end Go.Det
