/-
  A region that draws: the three moves.
-/
import Derived.Test.YtjoljcoimoablaaGreatDoorZd21
namespace Go.Det
variable {P : Program} {G : Nat → Bool} {E : List TypeId} {call : CallFn} {m n base : Nat} {ops : Array Oper} {dops : Array DOper}
variable {T₀ T' : Tmps} {ρ₀ : Inj} {H₀ H' : Heap} {w₀ : World} {a₀ : Act}
variable {D : Nat → Prop} {seen : List Put} {mask : Nat} {is : List Nat} {sread : Seen} {Tc : Tmps} {Hc : Heap} {ρ : Inj} {a : Act} {w : World}

def Conv (P : Program) (G : Nat → Bool) (E : List TypeId) (n : Nat) (ops : Array Oper) (dops : Array DOper) : Prop := ∀ (i : Nat) (r : Oper) (o : DOper), ops[i]? = some r → dops[i]? = some o → convOper P G E n ops r = some o

theorem Heap.below.refl (H : Heap) : H.below H := ⟨fun _ _ h => h, fun _ _ h => h⟩
theorem Heap.below.make {H : Heap} {id : Nat} (b : Blk) (h : H.blk.get id = none) : H.below (H.make id b) :=
  ⟨fun k B hB => make_get.2 (.inr ⟨(fun e => by subst e; rw [h] at hB; cases hB), hB⟩), fun _ _ h => h⟩

theorem again_spec {H : Heap} {js : List Nat} : ∀ {s : Seen}, again H js s = true → ∀ j op T v, (j, op, T, v) ∈ s → js.contains j = true → ∃ H', evalOp (ev T) H 0 op = some (v, H') := by
  intro s
  induction s with
  | nil => intro _ j op T v h; simp at h
  | cons x s ih =>
    obtain ⟨j', op', T', v'⟩ := x
    intro h j op T v hm hj
    simp only [again, Bool.and_eq_true, Bool.or_eq_true, Bool.not_eq_true'] at h
    rcases List.mem_cons.1 hm with e | hm
    · cases e
      rcases h.1 with h1 | h1
      · rw [hj] at h1; cases h1
      · split at h1
        · rename_i u H2 he
          exact ⟨H2, by rw [he, veqN_eq _ _ _ h1]⟩
        · cases h1
    · exact ih h.2 j op T v hm hj

/-! ### One more is put -/
theorem hoist_core (hconv : Conv P G E n ops dops) {i : Nat} (h : DInv P G E call m n base ops dops T₀ ρ₀ H₀ w₀ a₀ T' H' D seen mask (i :: is) sread Tc Hc ρ a w) {r : Oper} {o : DOper} {its : List (Nat × DOper × List Nat)} (hr : ops[i]? = some r) (ho : dops[i]? = some o)
    (hok : putOk m ops seen mask i r o (befOf seen (aheadOf r)) = true) (hmk : mkDraw m ops dops (⟨i, r, o, befOf seen (aheadOf r)⟩ :: seen) (mask ||| 2 ^ i) is = some its) (hc : o.op.cls ≠ .eff) {x : Value} {sread' : Seen} {Hc' : Heap}
    (hrun : runDraw call base its sread' (putT Tc o.dst x) Hc' = some (T', H')) (hs : ∀ y ∈ sread, y ∈ sread') (hb : Hc.below Hc') (hsim : Sim ρ₀ H₀ w₀ ρ Hc' w) (hnext : Hc.next ≤ Hc'.next)
    (hmp : ∀ k, Hc'.mp.get k = Hc.mp.get k) (hblk : ∀ k, k ≠ base + i → Hc.blk.get k = none → Hc'.blk.get k = none)
    (ht : (wantedT Tc o.guard = false ∧ x = undef) ∨ (wantedT Tc o.guard = true ∧
    ((o.op.cls = .pure ∧ ∀ H2 id2, evalOp (ev Tc) H2 id2 o.op = some (x, H2)) ∨
     (o.op.cls = .read ∧ (i, o.op, Tc, x) ∈ sread' ∧ evalOp (ev Tc) Hc' 0 o.op = some (x, Hc')) ∨
     (o.op.cls = .make ∧ ∃ b, Hc'.blk.get (base + i) = some b ∧ ρ.b (base + i) = none ∧ ∀ H2 : Heap, evalOp (ev Tc) H2 (base + i) o.op = some (x, H2.make (base + i) b))))) :
    DInv P G E call m n base ops dops T₀ ρ₀ H₀ w₀ a₀ T' H' D (⟨i, r, o, befOf seen (aheadOf r)⟩ :: seen) (mask ||| 2 ^ i) is sread' (putT Tc o.dst x) Hc' ρ a w := by
  obtain ⟨p1, p2, p3, p4, p5⟩ := putOk_apart hok
  obtain ⟨c1, c2, c3, c4, c5⟩ := convOper_some (hconv i r o hr ho)
  have hu : ¬ D i := fun hD => by have := h.sub i hD; rw [p2] at this; cases this
  rw [c1] at hrun ⊢
  refine { sinv := h.sinv.cons hr ho hok, run := ⟨its, hmk, hrun⟩, closed := h.closed, sub := fun j hj => bits_more.2 (.inl (h.sub j hj)), pend := fun t ht' hD => ?_, sim := hsim, next := Nat.le_trans h.next hnext, mp := fun j hj => by rw [hmp]; exact h.mp j hj, blk := fun j hj hbit => ?_, size := h.size, tmps := fun d => tmps_more h p4 hu d, old := fun d hd => old_more h d hd, defers := h.defers }
  · rcases List.mem_cons.1 ht' with rfl | ht'
    · refine ⟨hc, Tc, x, ⟨fun d hd => ?_, fun d hd => ?_, ht⟩⟩
      · rw [tv_put, if_pos hd]
      · rcases new_looks h p4 (i := i) hd with ⟨q, h1, h2, h3, h4⟩ | ⟨h1, h2⟩
        · left
          refine ⟨q, by simp [h1], h2, h3, ?_⟩
          rw [tv_put, if_neg]
          intro e
          have := List.all_eq_true.1 p4 q h1
          rw [e] at this
          simp only [Bool.and_eq_true, bne_iff_ne] at this
          exact this.2.1 h2
        · right
          refine ⟨fun q hq e => ?_, h2⟩
          rcases List.mem_cons.1 hq with rfl | hq
          · exact .inl rfl
          · exact h1 q hq e
    · obtain ⟨h1, T, v, h2⟩ := h.pend t ht' hD
      refine ⟨h1, T, v, h2.more p4 ht' hs (fun hcr _ he => ?_) (fun _ b hb1 hb2 => ⟨hb.1 _ _ hb1, hb2⟩)⟩
      exact (evalOp_read hcr he).2 Hc' 0 hb
  · have h1 : mask.testBit j = false := by
      cases e : mask.testBit j with
      | false => rfl
      | true => rw [bits_more.2 (.inl e)] at hbit; cases hbit
    have h2 : j ≠ i := fun e => by rw [bits_more.2 (.inr e.symm)] at hbit; cases hbit
    exact hblk _ (by omega) (h.blk j hj h1)

theorem hoist (hconv : Conv P G E n ops dops) (_h0 : ∀ i, i < m → H₀.blk.get (base + i) = none) {i : Nat} (h : DInv P G E call m n base ops dops T₀ ρ₀ H₀ w₀ a₀ T' H' D seen mask (i :: is) sread Tc Hc ρ a w) (hc : ∀ o, dops[i]? = some o → o.op.cls ≠ .eff) :
    ∃ seen' mask' sread' Tc' Hc', DInv P G E call m n base ops dops T₀ ρ₀ H₀ w₀ a₀ T' H' D seen' mask' is sread' Tc' Hc' ρ a w := by
  obtain ⟨items, hm, hr⟩ := h.run
  obtain ⟨r, o, its, js, e1, e2, hok, hmk, rfl, _⟩ := mkDraw_cons hm
  have hc := hc o e2
  obtain ⟨p1, p2, _⟩ := putOk_apart hok
  have hnone := h.blk i p1 p2
  simp only [runDraw] at hr
  cases hw : wantedT Tc o.guard with
  | false =>
    simp only [hw] at hr
    exact ⟨_, _, _, _, _, hoist_core hconv h e1 e2 hok hmk hc hr (fun _ h => h) (.refl _) h.sim (Nat.le_refl _) (fun _ => rfl) (fun _ _ h => h) (.inl ⟨hw, rfl⟩)⟩
  | true =>
    simp only [hw] at hr
    cases hcl : o.op.cls with
    | eff => exact absurd hcl hc
    | read =>
      simp only [hcl] at hr
      cases he : evalOp (ev Tc) Hc 0 o.op with
      | none => rw [he] at hr; cases hr
      | some q =>
        obtain ⟨v, H1⟩ := q
        rw [he] at hr
        simp only at hr
        have := (evalOp_read hcl he).1
        subst this
        exact ⟨_, _, _, _, _, hoist_core hconv h e1 e2 hok hmk hc hr (fun _ h => by simp [h]) (.refl _) h.sim (Nat.le_refl _) (fun _ => rfl) (fun _ _ h => h) (.inr ⟨hw, .inr (.inl ⟨hcl, by simp, he⟩)⟩)⟩
    | pure =>
      simp only [hcl] at hr
      cases he : evalOp (ev Tc) Hc (base + i) o.op with
      | none => rw [he] at hr; cases hr
      | some q =>
        obtain ⟨v, H1⟩ := q
        rw [he] at hr
        simp only at hr
        obtain ⟨h1, h2⟩ := evalOp_pure hcl he
        subst h1
        exact ⟨_, _, _, _, _, hoist_core hconv h e1 e2 hok hmk hc hr (fun _ h => h) (.refl _) h.sim (Nat.le_refl _) (fun _ => rfl) (fun _ _ h => h) (.inr ⟨hw, .inl ⟨hcl, h2⟩⟩)⟩
    | make =>
      simp only [hcl] at hr
      cases he : evalOp (ev Tc) Hc (base + i) o.op with
      | none => rw [he] at hr; cases hr
      | some q =>
        obtain ⟨v, H1⟩ := q
        rw [he] at hr
        simp only at hr
        obtain ⟨b, h1, h2⟩ := evalOp_make hcl he
        subst h1
        refine ⟨_, _, _, _, _, hoist_core hconv h e1 e2 hok hmk hc hr (fun _ h => h) (.make b hnone) (h.sim.make_un b hnone) (Nat.le_max_left _ _) (fun _ => rfl) (fun k hk hn => ?_) (.inr ⟨hw, .inr (.inr ⟨hcl, b, make_get.2 (.inl ⟨rfl, rfl⟩), h.sim.rel.not_dom hnone, h2⟩)⟩)⟩
        simp only [Heap.make]
        rw [PM.get_set_ne _ _ (Ne.symm hk)]
        exact hn

/-! ### One that waits is done -/
theorem fire_core (h : DInv P G E call m n base ops dops T₀ ρ₀ H₀ w₀ a₀ T' H' D seen mask is sread Tc Hc ρ a w) {t : Put} (ht : t ∈ seen) (hready : ∀ j ∈ aheadOf t.r, D j) {_T : Tmps} {v v' : Value} {ρ' : Inj} {w' : World} (hd : ∀ d, t.r.dst = some d → d < n ∧ tv Tc d = v)
    (hsim : Sim ρ₀ H₀ w₀ ρ' Hc w') (hle : ρ.le ρ') (hv : VR ρ' v v') (hst : ∀ k, k ≠ base + t.i → Hc.blk.get k ≠ none → ρ.b k = none → ρ'.b k = none) :
    DInv P G E call m n base ops dops T₀ ρ₀ H₀ w₀ a₀ T' H' (fun j => D j ∨ j = t.i) seen mask is sread Tc Hc ρ' (a.put t.r.dst v') w' := by
  have hsz : ∀ d, t.r.dst = some d → d < a.tmps.size := fun d e => Nat.lt_of_lt_of_le (hd d e).1 h.size
  refine { sinv := h.sinv, run := h.run, closed := fun i r hr hD j hj => ?_, sub := fun i hi => ?_, pend := fun q hq hD => ?_, sim := hsim, next := h.next, mp := h.mp, blk := h.blk, size := by rw [put_size]; exact h.size, tmps := fun d => ⟨fun ⟨q, h1, h2, h3⟩ => ?_, fun h1 => ?_⟩, old := h.old, defers := by rw [put_defers]; exact h.defers }
  · rcases hD with hD | rfl
    · exact .inl (h.closed i r hr hD j hj)
    · have := (h.sinv.at_ t ht).1
      rw [hr] at this
      cases this
      exact .inl (hready j hj)
  · rcases hi with hi | rfl
    · exact h.sub i hi
    · exact (h.sinv.bits _).2 ⟨t, ht, rfl⟩
  · obtain ⟨h1, T, u, h2⟩ := h.pend q hq fun hh => hD (.inl hh)
    refine ⟨h1, T, u, h2.dst, h2.looks, ?_⟩
    rcases h2.run with h3 | ⟨h3, h4⟩
    · exact .inl h3
    · refine .inr ⟨h3, ?_⟩
      rcases h4 with h4 | h4 | ⟨h4, b, h5, h6, h7⟩
      · exact .inl h4
      · exact .inr (.inl h4)
      · refine .inr (.inr ⟨h4, b, h5, hst _ ?_ (by rw [h5]; simp) h6, h7⟩)
        intro e
        exact hD (.inr (by omega))
  · rw [av_put _ _ _ _ hsz]
    split
    · rename_i e; rw [(hd d e).2]; exact hv
    · rename_i e
      refine ((h.tmps d).1 ⟨q, h1, ?_, h3⟩).mono hle
      rcases h2 with h2 | h2
      · exact h2
      · have := h.sinv.uniq q h1 t ht h2
        subst this
        exact absurd h3 e
  · rw [av_put _ _ _ _ hsz, if_neg (h1 t ht (.inr rfl))]
    exact ((h.tmps d).2 fun q hq hD => h1 q hq (.inl hD)).mono hle

theorem guard_looks {r : Oper} {o : DOper} {t : Tmp} {b : Bool} (h : o.guard = some (t, b)) : t ∈ looksD r o := by simp [looksD, h]
theorem operand_looks {r : Oper} {o : DOper} {t : Tmp} {x : Operand} (h : x ∈ r.op.operands) (e : x = .tmp t) : t ∈ looksD r o := by
  simp only [looksD, List.mem_append]
  right
  subst e
  exact List.mem_filterMap.2 ⟨.tmp t, by simpa using h, rfl⟩

theorem fire (hconv : Conv P G E n ops dops) (hE : EqTypes P E) (hG : Gok ρ₀ G) (h0 : ∀ i, i < m → H₀.blk.get (base + i) = none) (h : DInv P G E call m n base ops dops T₀ ρ₀ H₀ w₀ a₀ T' H' D seen mask is sread Tc Hc ρ a w) {t : Put} (ht : t ∈ seen) (hn : ¬ D t.i) (hready : ∀ j ∈ aheadOf t.r, D j)
    {Q : Exit → Act → World → Prop} {K : Act → World → Prop}
    (hK : ∀ ρ' a' w', DInv P G E call m n base ops dops T₀ ρ₀ H₀ w₀ a₀ T' H' (fun j => D j ∨ j = t.i) seen mask is sread Tc Hc ρ' a' w' → K a' w') : wpOp P ops Q t.i K a w := by
  obtain ⟨s1, s2, s3⟩ := h.sinv.at_ t ht
  obtain ⟨c1, c2, c3, c4, c5⟩ := convOper_some (hconv t.i t.r t.o s1 s2)
  obtain ⟨p1, T, v, tk⟩ := h.pend t ht hn
  have hfar : ∀ k, t.b.testBit k = true → D k := h.sinv.far t ht D h.closed hready
  have hl : ∀ d ∈ looksD t.r t.o, VR ρ (tv T d) (av a d) := fun d hd => looks_vr h hn hfar (tk.looks d hd)
  have hw := wanted_eq (ρ := ρ) (T := T) (a := a) c3 (fun d b e => hl d (guard_looks e))
  have hev : ∀ x ∈ t.r.op.operands, VR ρ (ev T x) (a.eval x) := fun x hx => operand_vr (hG.mono h.sim.le) (c5 x hx) fun d e => hl d (operand_looks hx e)
  have hdst : ∀ d, t.r.dst = some d → d < n ∧ tv Tc d = v := fun d e => ⟨c4 d e, tk.dst d e⟩
  unfold wpOp
  simp only [s1, hw]
  rcases tk.run with ⟨h1, h2⟩ | ⟨h1, h2⟩
  · rw [h1]
    simp only [Bool.false_eq_true, if_false]
    exact hK ρ _ w (fire_core (_T := T) h ht hready hdst h.sim (.refl ρ) (by rw [h2]; exact vr_undef) (fun _ _ _ h => h))
  · rw [h1]
    simp only [if_true]
    left
    have hn1 : Hc.blk.get Hc.next = none := by
      cases e : Hc.blk.get Hc.next with
      | none => rfl
      | some B => exact absurd (h.sim.rel.lt _ _ e) (Nat.lt_irrefl _)
    have hn2 : Hc.mp.get Hc.next = none := by
      cases e : Hc.mp.get Hc.next with
      | none => rfl
      | some B => exact absurd (h.sim.rel.mlt _ _ e) (Nat.lt_irrefl _)
    have still : evalOp (ev T) Hc Hc.next t.o.op = some (v, Hc) → t.r.wp P a w K Q := fun he => by
      rw [c2] at he
      obtain ⟨v', w', ρ', hy, hv, hs⟩ := op_sim h.sim.rel hE hn1 hn2 hev he
      refine upon_yields hy (hK ρ' _ w' (fire_core (_T := T) h ht hready hdst (h.sim.trans hs) hs.le hv fun k _ hk hk2 => ?_))
      cases e : ρ'.b k with
      | none => rfl
      | some I => exact absurd (hs.newB k I e hk2) hk
    rcases h2 with ⟨_, h3⟩ | ⟨h3, _, h4⟩ | ⟨_, b, h3, h4, h5⟩
    · exact still (h3 _ _)
    · exact still ((evalOp_read h3 h4).2 _ _ (.refl _))
    · rw [c2] at h5
      obtain ⟨v', w', ρ', hy, hv, hs, hle, hst⟩ := link hE h.sim h4 (h0 _ s3) (h.mp _ s3) h3 hev h5
      exact upon_yields hy (hK ρ' _ w' (fire_core (_T := T) h ht hready hdst hs hle hv hst))

/-! ### The next with an effect is done -/
theorem step_fresh (hF : CallFresh call) {T : Tmps} {H H1 : Heap} {op : DOp} {v : Value} (h : stepOp call T H H.next op = some (v, H1)) : H.next ≤ H1.next ∧ (∀ k, k < H.next → H.blk.get k = none → H1.blk.get k = none) ∧ ∀ k, k < H.next → H.mp.get k = none → H1.mp.get k = none := by
  cases hc : isCall op with
  | false =>
    rw [stepOp_eq hc] at h
    have := evalOp_newOnly h
    exact ⟨this.next, fun k hk => this.blk k (Nat.ne_of_lt hk), fun k hk => this.mp k (Nat.ne_of_lt hk)⟩
  | true =>
    cases op <;> simp [isCall] at hc
    rename_i c args
    cases c with
    | func f => exact hF _ _ _ _ _ h
    | value x =>
      simp only [stepOp] at h
      split at h
      · exact hF _ _ _ _ _ h
      · cases h

theorem act (hconv : Conv P G E n ops dops) (hE : EqTypes P E) (hC : CallOK P G call) (hF : CallFresh call) (hG : Gok ρ₀ G) {i : Nat} (h : DInv P G E call m n base ops dops T₀ ρ₀ H₀ w₀ a₀ T' H' D seen mask (i :: is) sread Tc Hc ρ a w) {o : DOper} (ho : dops[i]? = some o) (hc : o.op.cls = .eff)
    (hready : ∀ r, ops[i]? = some r → ∀ j ∈ aheadOf r, D j) {Q : Exit → Act → World → Prop} {K : Act → World → Prop}
    (hK : ∀ seen' mask' Tc' Hc' ρ' a' w', DInv P G E call m n base ops dops T₀ ρ₀ H₀ w₀ a₀ T' H' (fun j => D j ∨ j = i) seen' mask' is sread Tc' Hc' ρ' a' w' → K a' w') : wpOp P ops Q i K a w := by
  obtain ⟨items, hm, hr⟩ := h.run
  obtain ⟨r, o', its, js, e1, e2, hok, hmk, rfl, hjs⟩ := mkDraw_cons hm
  rw [ho] at e2; cases e2
  have hrd1 := hready r e1
  obtain ⟨p1, p2, p3, p4, p5⟩ := putOk_apart hok
  obtain ⟨c1, c2, c3, c4, c5⟩ := convOper_some (hconv i r o e1 ho)
  have hn : ¬ D i := fun hD => by have := h.sub i hD; rw [p2] at this; cases this
  have hs' := h.sinv.cons e1 ho hok
  have hfar : ∀ k, (befOf seen (aheadOf r)).testBit k = true → D k := hs'.far ⟨i, r, o, befOf seen (aheadOf r)⟩ (List.mem_cons_self) D h.closed hrd1
  have hl : ∀ d ∈ looksD r o, VR ρ (tv Tc d) (av a d) := fun d hd => looks_vr h hn hfar (new_looks h p4 hd)
  have hw := wanted_eq (ρ := ρ) (T := Tc) (a := a) c3 (fun d b e => hl d (guard_looks e))
  have hev : ∀ x ∈ r.op.operands, VR ρ (ev Tc x) (a.eval x) := fun x hx => operand_vr (hG.mono h.sim.le) (c5 x hx) fun d e => hl d (operand_looks hx e)
  have hsz : ∀ d, r.dst = some d → d < a.tmps.size := fun d e => Nat.lt_of_lt_of_le (c4 d e) h.size
  have core : ∀ v v' ρ' w' (H1 : Heap), runDraw call base its sread (putT Tc o.dst v) H1 = some (T', H') → Sim ρ Hc w ρ' H1 w' → VR ρ' v v' → (Hc.next ≤ H1.next ∧ (∀ k, k < Hc.next → Hc.blk.get k = none → H1.blk.get k = none) ∧ ∀ k, k < Hc.next → Hc.mp.get k = none → H1.mp.get k = none) →
      (∀ t ∈ seen, ¬ D t.i → t.o.op.cls = .read → ∀ T u, (t.i, t.o.op, T, u) ∈ sread → evalOp (ev T) Hc 0 t.o.op = some (u, Hc) → evalOp (ev T) H1 0 t.o.op = some (u, H1)) → K (a.put r.dst v') w' := by
    intro v v' ρ' w' H1 hrun hsim hv hfr hrd
    rw [c1] at hrun
    have hsm := h.sim.trans hsim
    refine hK (⟨i, r, o, befOf seen (aheadOf r)⟩ :: seen) (mask ||| 2 ^ i) (putT Tc r.dst v) H1 ρ' _ w' { sinv := hs', run := ⟨its, hmk, hrun⟩, closed := fun j q hq hD k hk => ?_, sub := fun j hj => ?_, pend := fun t ht hD => ?_, sim := hsm, next := Nat.le_trans h.next hfr.1, mp := fun j hj => hfr.2.2 _ (by have := h.next; omega) (h.mp j hj), blk := fun j hj hbit => ?_, size := by rw [put_size]; exact h.size, tmps := fun d => ⟨fun ⟨t, h1, h2, h3⟩ => ?_, fun h1 => ?_⟩, old := fun d hd => old_more (u := ⟨i, r, o, 0⟩) h d (fun t ht => ?_), defers := by rw [put_defers]; exact h.defers }
    · rcases hD with hD | rfl
      · exact .inl (h.closed j q hq hD k hk)
      · rw [e1] at hq; cases hq
        exact .inl (hrd1 k hk)
    · rcases hj with hj | rfl
      · exact bits_more.2 (.inl (h.sub j hj))
      · exact bits_more.2 (.inr rfl)
    · rcases List.mem_cons.1 ht with rfl | ht
      · exact absurd (.inr rfl) hD
      · have hD' : ¬ D t.i := fun hh => hD (.inl hh)
        obtain ⟨h1, T, u, h2⟩ := h.pend t ht hD'
        refine ⟨h1, T, u, h2.more (u := ⟨i, r, o, befOf seen (aheadOf r)⟩) p4 ht (fun _ h => h) (fun hcr hmem he => hrd t ht hD' hcr T u hmem he) (fun _ b hb1 hb2 => ⟨hsim.still _ _ hb1 hb2, ?_⟩)⟩
        cases e : ρ'.b (base + t.i) with
        | none => rfl
        | some I => have := hsim.newB _ I e hb2; rw [hb1] at this; cases this
    · have h1 : mask.testBit j = false := by
        cases e : mask.testBit j with
        | false => rfl
        | true => rw [bits_more.2 (.inl e)] at hbit; cases hbit
      exact hfr.2.1 _ (by have := h.next; omega) (h.blk j hj h1)
    · rw [av_put _ _ _ _ hsz, tv_put]
      split
      · exact hv
      · rename_i e
        rcases List.mem_cons.1 h1 with rfl | h1
        · exact absurd h3 e
        · refine ((h.tmps d).1 ⟨t, h1, ?_, h3⟩).mono hsim.le
          rcases h2 with h2 | h2
          · exact h2
          · exfalso
            have := (h.sinv.bits i).2 ⟨t, h1, h2⟩
            rw [p2] at this; cases this
    · rw [av_put _ _ _ _ hsz, if_neg (h1 ⟨i, r, o, befOf seen (aheadOf r)⟩ List.mem_cons_self (.inr rfl))]
      exact ((h.tmps d).2 fun q hq hD => h1 q (by simp [hq]) (.inl hD)).mono hsim.le
    · rcases List.mem_cons.1 ht with rfl | ht
      · exact hd ⟨i, r, o, befOf seen (aheadOf r)⟩ List.mem_cons_self
      · exact hd t (by simp [ht])
  unfold wpOp
  simp only [e1, hw]
  simp only [runDraw] at hr
  cases hwt : wantedT Tc o.guard with
  | false =>
    simp only [hwt] at hr
    simp only [Bool.false_eq_true, if_false]
    exact core undef undef ρ w Hc hr (.refl h.sim.rel) vr_undef ⟨Nat.le_refl _, fun _ _ h => h, fun _ _ h => h⟩ (fun _ _ _ _ _ _ _ h => h)
  | true =>
    simp only [hwt, hc] at hr
    simp only [if_true]
    left
    cases hst : stepOp call Tc Hc Hc.next o.op with
    | none => rw [hst] at hr; cases hr
    | some q =>
      obtain ⟨v, H1⟩ := q
      rw [hst] at hr
      simp only at hr
      split at hr
      · rename_i hag
        have hst' := hst
        rw [c2] at hst'
        refine step_wp h.sim.rel hE hC (hG.mono h.sim.le) hev hst' fun v' w' ρ' hv hsim => core v v' ρ' w' H1 hr hsim hv (step_fresh hF hst) fun t ht hD hcr T u hmem he => ?_
        have hb : (befOf seen (aheadOf r)).testBit t.i = false := by
          cases e : (befOf seen (aheadOf r)).testBit t.i with
          | false => rfl
          | true => exact absurd (hfar _ e) hD
        obtain ⟨H2, h2⟩ := again_spec hag _ _ _ _ hmem (hjs hc t ht hcr hb)
        have := (evalOp_read hcr h2).1
        subst this
        exact h2
      · cases hr
end Go.Det
