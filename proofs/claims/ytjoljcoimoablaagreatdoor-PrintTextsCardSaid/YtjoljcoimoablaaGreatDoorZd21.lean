/-
  A region that draws: what holds between two of its operations, and the moves.
-/
import Derived.Test.YtjoljcoimoablaaGreatDoorZd20
namespace Go.Det
variable {P : Program} {G : Nat → Bool} {E : List TypeId} {call : CallFn} {m n base : Nat} {ops : Array Oper} {dops : Array DOper}
variable {T₀ T' : Tmps} {ρ₀ : Inj} {H₀ H' : Heap} {w₀ : World} {a₀ : Act}

/-- Calls make only what was not there. -/
def CallFresh (call : CallFn) : Prop := ∀ f args H v H', call f args H = some (v, H') → H.next ≤ H'.next ∧ (∀ k, k < H.next → H.blk.get k = none → H'.blk.get k = none) ∧ ∀ k, k < H.next → H.mp.get k = none → H'.mp.get k = none

/-- One that was put and is not yet done: what its doing needs. -/
structure Ticket (base : Nat) (T₀ : Tmps) (seen : List Put) (sread : Seen) (Tc : Tmps) (Hc : Heap) (ρ : Inj) (t : Put) (T : Tmps) (v : Value) : Prop where
  dst : ∀ d, t.r.dst = some d → tv Tc d = v
  looks : ∀ d ∈ looksD t.r t.o, (∃ q ∈ seen, q.r.dst = some d ∧ t.b.testBit q.i = true ∧ tv T d = tv Tc d) ∨ ((∀ q ∈ seen, q.r.dst = some d → q.i = t.i ∨ q.b.testBit t.i = true) ∧ tv T d = tv T₀ d)
  run : (wantedT T t.o.guard = false ∧ v = undef) ∨ (wantedT T t.o.guard = true ∧
    ((t.o.op.cls = .pure ∧ ∀ H2 id2, evalOp (ev T) H2 id2 t.o.op = some (v, H2)) ∨
     (t.o.op.cls = .read ∧ (t.i, t.o.op, T, v) ∈ sread ∧ evalOp (ev T) Hc 0 t.o.op = some (v, Hc)) ∨
     (t.o.op.cls = .make ∧ ∃ b, Hc.blk.get (base + t.i) = some b ∧ ρ.b (base + t.i) = none ∧ ∀ H2 : Heap, evalOp (ev T) H2 (base + t.i) t.o.op = some (v, H2.make (base + t.i) b))))

structure DInv (P : Program) (G : Nat → Bool) (E : List TypeId) (call : CallFn) (m n base : Nat) (ops : Array Oper) (dops : Array DOper) (T₀ : Tmps) (ρ₀ : Inj) (H₀ : Heap) (w₀ : World) (a₀ : Act) (T' : Tmps) (H' : Heap)
    (D : Nat → Prop) (seen : List Put) (mask : Nat) (is : List Nat) (sread : Seen) (Tc : Tmps) (Hc : Heap) (ρ : Inj) (a : Act) (w : World) : Prop where
  sinv : SInv m ops dops seen mask
  run : ∃ items, mkDraw m ops dops seen mask is = some items ∧ runDraw call base items sread Tc Hc = some (T', H')
  closed : Closed ops D
  sub : ∀ i, D i → mask.testBit i = true
  pend : ∀ t ∈ seen, ¬ D t.i → t.o.op.cls ≠ .eff ∧ ∃ T v, Ticket base T₀ seen sread Tc Hc ρ t T v
  sim : Sim ρ₀ H₀ w₀ ρ Hc w
  next : base + m ≤ Hc.next
  mp : ∀ i, i < m → Hc.mp.get (base + i) = none
  blk : ∀ i, i < m → mask.testBit i = false → Hc.blk.get (base + i) = none
  size : n ≤ a.tmps.size
  tmps : ∀ d, ((∃ t ∈ seen, D t.i ∧ t.r.dst = some d) → VR ρ (tv Tc d) (av a d)) ∧ ((∀ t ∈ seen, D t.i → t.r.dst ≠ some d) → VR ρ (tv T₀ d) (av a d))
  old : ∀ d, (∀ t ∈ seen, t.r.dst ≠ some d) → tv Tc d = tv T₀ d
  defers : a.defers = a₀.defers

section
variable {D : Nat → Prop} {seen : List Put} {mask : Nat} {is : List Nat} {sread : Seen} {Tc : Tmps} {Hc : Heap} {ρ : Inj} {a : Act} {w : World}

/-- The frame, by what one looks at, where all that is ahead was done and it itself not. -/
theorem looks_vr (h : DInv P G E call m n base ops dops T₀ ρ₀ H₀ w₀ a₀ T' H' D seen mask is sread Tc Hc ρ a w) {i b : Nat} {T : Tmps} {d : Tmp} (hi : ¬ D i) (hb : ∀ k, b.testBit k = true → D k)
    (hl : (∃ q ∈ seen, q.r.dst = some d ∧ b.testBit q.i = true ∧ tv T d = tv Tc d) ∨ ((∀ q ∈ seen, q.r.dst = some d → q.i = i ∨ q.b.testBit i = true) ∧ tv T d = tv T₀ d)) : VR ρ (tv T d) (av a d) := by
  rcases hl with ⟨q, h1, h2, h3, h4⟩ | ⟨h1, h2⟩
  · rw [h4]
    exact (h.tmps d).1 ⟨q, h1, hb _ h3, h2⟩
  · rw [h2]
    refine (h.tmps d).2 fun q hq hD e => ?_
    rcases h1 q hq e with e2 | e2
    · exact hi (e2 ▸ hD)
    · refine hi (h.sinv.far q hq D h.closed (fun j hj => h.closed q.i q.r (h.sinv.at_ q hq).1 hD j hj) i e2)

/-- What a new one looks at. -/
theorem new_looks (h : DInv P G E call m n base ops dops T₀ ρ₀ H₀ w₀ a₀ T' H' D seen mask is sread Tc Hc ρ a w) {r : Oper} {o : DOper} {b i : Nat} (hap : apartOk seen r o b = true) {d : Tmp} (hd : d ∈ looksD r o) :
    (∃ q ∈ seen, q.r.dst = some d ∧ b.testBit q.i = true ∧ tv Tc d = tv Tc d) ∨ ((∀ q ∈ seen, q.r.dst = some d → q.i = i ∨ q.b.testBit i = true) ∧ tv Tc d = tv T₀ d) := by
  by_cases hq : ∃ q ∈ seen, q.r.dst = some d
  · obtain ⟨q, h1, h2⟩ := hq
    left
    refine ⟨q, h1, h2, ?_, rfl⟩
    have := List.all_eq_true.1 hap q h1
    rw [h2] at this
    simp only [Bool.and_eq_true, Bool.or_eq_true, Bool.not_eq_true'] at this
    rcases this.1 with h3 | h3
    · have h4 : (looksD r o).contains d = true := by simpa using hd
      rw [h3] at h4; cases h4
    · exact h3
  · right
    refine ⟨fun q h1 h2 => absurd ⟨q, h1, h2⟩ hq, h.old d fun t ht e => hq ⟨t, ht, e⟩⟩

/-- The tickets of those that wait, where one more was put. -/
theorem Ticket.more {t u : Put} {T : Tmps} {v x : Value} {sread' : Seen} {Hc' : Heap} {ρ' : Inj} (ht : Ticket base T₀ seen sread Tc Hc ρ t T v) (hap : apartOk seen u.r u.o u.b = true) (hmem : t ∈ seen)
    (hs : ∀ y ∈ sread, y ∈ sread')
    (hread : t.o.op.cls = .read → (t.i, t.o.op, T, v) ∈ sread → evalOp (ev T) Hc 0 t.o.op = some (v, Hc) → evalOp (ev T) Hc' 0 t.o.op = some (v, Hc'))
    (hmake : t.o.op.cls = .make → ∀ b, Hc.blk.get (base + t.i) = some b → ρ.b (base + t.i) = none → Hc'.blk.get (base + t.i) = some b ∧ ρ'.b (base + t.i) = none) :
    Ticket base T₀ (u :: seen) sread' (putT Tc u.r.dst x) Hc' ρ' t T v where
  dst := fun d hd => by
    rw [tv_put, if_neg]
    · exact ht.dst d hd
    · intro e
      have := List.all_eq_true.1 hap t hmem
      rw [e] at this
      simp only [Bool.and_eq_true, bne_iff_ne] at this
      exact this.2.1 hd
  looks := fun d hd => by
    rcases ht.looks d hd with ⟨q, h1, h2, h3, h4⟩ | ⟨h1, h2⟩
    · left
      refine ⟨q, by simp [h1], h2, h3, ?_⟩
      rw [tv_put, if_neg]
      · exact h4
      · intro e
        have := List.all_eq_true.1 hap q h1
        rw [e] at this
        simp only [Bool.and_eq_true, bne_iff_ne] at this
        exact this.2.1 h2
    · right
      refine ⟨fun q hq e => ?_, h2⟩
      rcases List.mem_cons.1 hq with rfl | hq
      · have := List.all_eq_true.1 hap t hmem
        rw [e] at this
        simp only [Bool.and_eq_true, Bool.or_eq_true, Bool.not_eq_true'] at this
        rcases this.2.2 with h3 | h3
        · have h4 : (looksD t.r t.o).contains d = true := by simpa using hd
          rw [h3] at h4; cases h4
        · exact .inr h3
      · exact h1 q hq e
  run := by
    rcases ht.run with h1 | ⟨h1, h2⟩
    · exact .inl h1
    · refine .inr ⟨h1, ?_⟩
      rcases h2 with h2 | ⟨h2, h3, h4⟩ | ⟨h2, b, h3, h4, h5⟩
      · exact .inl h2
      · exact .inr (.inl ⟨h2, hs _ h3, hread h2 h3 h4⟩)
      · obtain ⟨h6, h7⟩ := hmake h2 b h3 h4
        exact .inr (.inr ⟨h2, b, h6, h7, h5⟩)

/-- The frame behind one more that was put (and not done). -/
theorem tmps_more (h : DInv P G E call m n base ops dops T₀ ρ₀ H₀ w₀ a₀ T' H' D seen mask is sread Tc Hc ρ a w) {u : Put} {x : Value} (hap : apartOk seen u.r u.o u.b = true) (hu : ¬ D u.i) (d : Tmp) :
    ((∃ t ∈ u :: seen, D t.i ∧ t.r.dst = some d) → VR ρ (tv (putT Tc u.r.dst x) d) (av a d)) ∧ ((∀ t ∈ u :: seen, D t.i → t.r.dst ≠ some d) → VR ρ (tv T₀ d) (av a d)) := by
  refine ⟨fun ⟨t, h1, h2, h3⟩ => ?_, fun h1 => (h.tmps d).2 fun t ht => h1 t (by simp [ht])⟩
  rcases List.mem_cons.1 h1 with rfl | h1
  · exact absurd h2 hu
  · rw [tv_put, if_neg]
    · exact (h.tmps d).1 ⟨t, h1, h2, h3⟩
    · intro e
      have := List.all_eq_true.1 hap t h1
      rw [e] at this
      simp only [Bool.and_eq_true, bne_iff_ne] at this
      exact this.2.1 h3
theorem old_more (h : DInv P G E call m n base ops dops T₀ ρ₀ H₀ w₀ a₀ T' H' D seen mask is sread Tc Hc ρ a w) {u : Put} {x : Value} (d : Tmp) (hd : ∀ t ∈ u :: seen, t.r.dst ≠ some d) : tv (putT Tc u.r.dst x) d = tv T₀ d := by
  rw [tv_put, if_neg (hd u (by simp))]
  exact h.old d fun t ht => hd t (by simp [ht])

theorem bits_more {i j : Nat} : (mask ||| 2 ^ i).testBit j = true ↔ mask.testBit j = true ∨ i = j := by
  rw [Nat.testBit_or, Bool.or_eq_true, Nat.testBit_two_pow]
  simp
end

/-- What mkDraw says of its first. -/
theorem mkDraw_cons {seen : List Put} {mask i : Nat} {is : List Nat} {items : List (Nat × DOper × List Nat)} (h : mkDraw m ops dops seen mask (i :: is) = some items) :
    ∃ r o its js, ops[i]? = some r ∧ dops[i]? = some o ∧ putOk m ops seen mask i r o (befOf seen (aheadOf r)) = true ∧ mkDraw m ops dops (⟨i, r, o, befOf seen (aheadOf r)⟩ :: seen) (mask ||| 2 ^ i) is = some its ∧ items = (i, o, js) :: its ∧
      (o.op.cls = .eff → ∀ t ∈ seen, t.o.op.cls = .read → (befOf seen (aheadOf r)).testBit t.i = false → js.contains t.i = true) := by
  simp only [mkDraw] at h
  cases hr : ops[i]? with
  | none => simp [hr] at h
  | some r =>
    cases ho : dops[i]? with
    | none => simp [hr, ho] at h
    | some o =>
      simp only [hr, ho] at h
      split at h
      · rename_i hok
        cases hm : mkDraw m ops dops (⟨i, r, o, befOf seen (aheadOf r)⟩ :: seen) (mask ||| 2 ^ i) is with
        | none => rw [hm] at h; simp at h
        | some its =>
          rw [hm] at h
          simp only [Option.map_some, Option.some.injEq] at h
          refine ⟨r, o, its, _, rfl, rfl, hok, hm, h.symm, fun he t ht hc hb => ?_⟩
          rw [if_pos he]
          simp only [List.contains_eq_mem, decide_eq_true_eq, List.mem_map, List.mem_filter]
          exact ⟨t, ⟨ht, by simp [hc, hb]⟩, rfl⟩
      · cases h
theorem putOk_apart {seen : List Put} {mask i b : Nat} {r : Oper} {o : DOper} (h : putOk m ops seen mask i r o b = true) : i < m ∧ mask.testBit i = false ∧ (∀ j ∈ aheadOf r, mask.testBit j = true) ∧ apartOk seen r o b = true ∧ (o.op.cls = .eff → frontOk m ops mask i = true) := by
  unfold putOk at h
  simp only [Bool.and_eq_true, decide_eq_true_eq, Bool.not_eq_true', Bool.or_eq_true] at h
  obtain ⟨⟨⟨⟨h1, h2⟩, h3⟩, h4⟩, h5⟩ := h
  exact ⟨h1, h2, fun j hj => List.all_eq_true.1 h3 j hj, h4, fun he => h5.resolve_left (fun hn => hn he)⟩
end Go.Det
