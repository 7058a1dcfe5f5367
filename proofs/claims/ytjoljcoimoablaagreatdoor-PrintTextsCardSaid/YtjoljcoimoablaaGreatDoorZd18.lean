/-
  The plain machine by itself: what an operation leaves alone.
-/
import Derived.Test.YtjoljcoimoablaaGreatDoorZd17
namespace Go.Det

/-- Nothing new but, perhaps, one number; nothing is lost; the count goes up. -/
structure NewOnly (H H' : Heap) (id : Nat) : Prop where
  blk : ∀ k, k ≠ id → H.blk.get k = none → H'.blk.get k = none
  mp : ∀ k, k ≠ id → H.mp.get k = none → H'.mp.get k = none
  next : H.next ≤ H'.next
theorem NewOnly.refl (H : Heap) (id : Nat) : NewOnly H H id := ⟨fun _ _ h => h, fun _ _ h => h, Nat.le_refl _⟩
theorem NewOnly.make (H : Heap) (id : Nat) (b : Blk) : NewOnly H (H.make id b) id :=
  ⟨fun k hk h => by simp only [Heap.make]; rw [PM.get_set_ne _ _ (Ne.symm hk)]; exact h, fun _ _ h => h, Nat.le_max_left _ _⟩
theorem NewOnly.write {H H' : Heap} {a : Addr} {vs : List Value} (id : Nat) (h : H.write a vs = some H') : NewOnly H H' id := by
  unfold Heap.write at h
  cases hs : a.spot with
  | some z => simp [hs] at h
  | none =>
    simp only [hs] at h
    cases hB : H.blk.get a.block with
    | none => simp [hB] at h
    | some B =>
      simp only [hB] at h
      have fin : ∀ (m : PM Blk) (X : Blk), (∀ k, H.blk.get k = none → m.get k = none) → some ({ H with blk := m.set a.block X } : Heap) = some H' → NewOnly H H' id := by
        intro m X hm e
        cases e
        refine ⟨fun k _ hk => ?_, fun _ _ h => h, Nat.le_refl _⟩
        simp only
        rw [PM.get_set_ne _ _ (fun e => by subst e; rw [hB] at hk; cases hk)]
        exact hm k hk
      have hkill : ∀ k, H.blk.get k = none → (kill B.anc H.blk).get k = none := fun k hk => by
        rw [kill_get]; split <;> simp [hk]
      split at h
      · cases h
      · cases hk : B.kind <;> simp only [hk] at h
        · exact fin _ _ (fun _ h => h) h
        · split at h
          · exact fin _ _ hkill h
          · cases h
        · split at h
          · exact fin _ _ hkill h
          · cases h

theorem NewOnly.append {H H' : Heap} {id esz bytes : Nat} {s x v : Value} (h : H.append id esz bytes s x = some (v, H')) : NewOnly H H' id := by
  unfold Heap.append at h
  cases s <;> (try (simp only at h; cases h; done))
  rename_i base len cap
  cases hn : sliceLen x with
  | none => simp only [hn] at h; cases h
  | some n =>
    simp only [hn] at h
    cases hnew : H.elems esz n x with
    | none => simp only [hnew] at h; cases h
    | some new =>
      simp only [hnew] at h
      split at h
      · split at h
        · cases h; exact .refl _ _
        · cases h
      · split at h
        · cases base with
          | none =>
            simp only at h
            split at h
            · cases h; exact .make _ _ _
            · cases h
          | some a =>
            simp only at h
            cases hs : a.spot with
            | some z => simp only [hs] at h; cases h
            | none =>
              cases ho : H.elems esz len (.slice (some a) len cap) with
              | none => simp only [hs, ho] at h; cases h
              | some old =>
                cases hB : H.blk.get a.block with
                | none => simp only [hs, ho, hB] at h; cases h
                | some B =>
                  simp only [hs, ho, hB] at h
                  have grow : ∀ X Y : Blk, NewOnly H (({ H with blk := H.blk.set a.block X } : Heap).make id Y) id := fun X Y => by
                    refine ⟨fun k hk h => ?_, fun _ _ h => h, Nat.le_max_left _ _⟩
                    simp only [Heap.make]
                    rw [PM.get_set_ne _ _ (Ne.symm hk), PM.get_set_ne _ _ (fun e => by subst e; rw [hB] at h; cases h)]
                    exact h
                  split at h
                  · cases h
                  · cases hk : B.kind <;> simp only [hk] at h
                    · split at h
                      · cases h
                      · cases h; exact .make _ _ _
                    all_goals
                      split at h
                      · split at h
                        · cases h; exact .make _ _ _
                        · split at h
                          · cases h; exact grow _ _
                          · cases h
                      · cases h
        · cases h

theorem map_same {o : Option Value} {H H' : Heap} {v : Value} (h : o.map (·, H) = some (v, H')) : H' = H := by
  cases o with
  | none => cases h
  | some u => simp at h; exact h.2.symm


theorem map_same' {α : Type} {o : Option α} {f : α → Value} {H H' : Heap} {v : Value} (h : o.map (fun x => (f x, H)) = some (v, H')) : H' = H ∧ ∀ H2 : Heap, o.map (fun x => (f x, H2)) = some (v, H2) := by
  cases o with
  | none => cases h
  | some u =>
    simp only [Option.map_some, Option.some.injEq, Prod.mk.injEq] at h
    exact ⟨h.2.symm, fun H2 => by simp [h.1]⟩
theorem scalars_same {r : Option Value} {H H' : Heap} {v : Value} (h : scalars r H = some (v, H')) : H' = H ∧ ∀ H2, scalars r H2 = some (v, H2) := by
  unfold scalars at *
  cases r with
  | none => cases h
  | some u =>
    simp only at h ⊢
    split at h
    · rename_i hs
      simp only [Option.some.injEq, Prod.mk.injEq] at h
      exact ⟨h.2.symm, fun H2 => by rw [if_pos hs, h.1]⟩
    · cases h

theorem evalOp_pure {ev : Operand → Value} {H H' : Heap} {id : Nat} {op : DOp} {v : Value} (hc : op.cls = .pure) (h : evalOp ev H id op = some (v, H')) :
    H' = H ∧ ∀ H2 id2, evalOp ev H2 id2 op = some (v, H2) := by
  cases op <;> first | (cases hc; done) | skip
  all_goals simp only [evalOp] at h ⊢
  all_goals first
    | (simp only [Option.some.injEq, Prod.mk.injEq] at h; obtain ⟨h1, h2⟩ := h; subst h1; subst h2; exact ⟨rfl, fun _ _ => rfl⟩)
    | (exact ⟨(map_same' h).1, fun H2 _ => (map_same' h).2 H2⟩)
    | skip
  all_goals (repeat' split at h)
  all_goals first | (cases h; done) | skip
  all_goals first
    | (exact ⟨(map_same' h).1, fun H2 _ => (map_same' h).2 H2⟩)
    | (exact ⟨(scalars_same h).1, fun H2 _ => (scalars_same h).2 H2⟩)
    | (simp only [Option.some.injEq, Prod.mk.injEq] at h; obtain ⟨h1, h2⟩ := h; subst h1; subst h2; refine ⟨rfl, fun _ _ => ?_⟩; simp_all; done)
    | (rename_i hc; refine ⟨(scalars_same h).1, fun H2 _ => ?_⟩; rw [if_pos hc]; exact (scalars_same h).2 H2)
    | (rename_i hc; refine ⟨(map_same' h).1, fun H2 _ => ?_⟩; rw [if_pos hc]; exact (map_same' h).2 H2)

theorem evalOp_make {ev : Operand → Value} {H H' : Heap} {id : Nat} {op : DOp} {v : Value} (hc : op.cls = .make) (h : evalOp ev H id op = some (v, H')) :
    ∃ b : Blk, H' = H.make id b ∧ ∀ H2 : Heap, evalOp ev H2 id op = some (v, H2.make id b) := by
  cases op <;> first | (cases hc; done) | skip
  all_goals simp only [evalOp] at h ⊢
  all_goals (repeat' split at h)
  all_goals first | (cases h; done) | skip
  all_goals
    rename_i hc
    simp only [Option.some.injEq, Prod.mk.injEq] at h
    obtain ⟨h1, h2⟩ := h
    subst h1; subst h2
    exact ⟨_, rfl, fun H2 => by simp [*]⟩

/-- One heap holds all that another does. -/
def Heap.below (H H2 : Heap) : Prop := (∀ k B, H.blk.get k = some B → H2.blk.get k = some B) ∧ ∀ k es, H.mp.get k = some es → H2.mp.get k = some es
theorem Heap.below.look {H H2 : Heap} (hb : H.below H2) {a : Addr} {n : Nat} {cs : List Value} (h : H.look a n = some cs) : H2.look a n = some cs := by
  unfold Heap.look at *
  split at h
  · cases h
  · split at h
    · rename_i b hb'
      simp only [hb.1 _ _ hb']
      exact h
    · cases h
theorem Heap.below.elems {H H2 : Heap} (hb : H.below H2) {esz n : Nat} {v : Value} {cs : List Value} (h : H.elems esz n v = some cs) : H2.elems esz n v = some cs := by
  unfold Heap.elems at *
  split at h
  · exact h
  · split at h
    · rename_i h0; simp only [h0, if_true]; exact h
    · rename_i h0; simp only [h0, if_false]; exact hb.look h
  · exact h
  · cases h
theorem Heap.below.sameBlockEq {H H2 : Heap} (hb : H.below H2) {a b : Addr} {r : Bool} (h : sameBlockEq H a b = some r) : sameBlockEq H2 a b = some r := by
  unfold Det.sameBlockEq at *
  split at h
  · rename_i e; simp only [e, if_true]; exact h
  · rename_i e
    simp only [e, if_false]
    split at h
    · rename_i x y e1 e2 e3 e4
      simp only [e1, e2, hb.1 _ _ e3, hb.1 _ _ e4]
      exact h
    · cases h
theorem Heap.below.ifaceEq {H H2 : Heap} (hb : H.below H2) {lit : Bool} {E : List TypeId} {a b : Value} {r : Bool} (h : ifaceEq H lit E a b = some r) : ifaceEq H2 lit E a b = some r := by
  unfold Det.ifaceEq at *
  split at h <;> first | exact h | skip
  split at h
  · rename_i e
    subst e
    simp only [if_true]
    split at h
    · first | exact hb.sameBlockEq h | (rw [‹E.contains _ = true›]; exact hb.sameBlockEq h)
    · cases h
  · rename_i e; simp only [e, if_false]; exact h
theorem Heap.below.loadN {H H2 : Heap} (hb : H.below H2) {a : Addr} {n : Option Nat} {v : Value} (h : H.loadN a n = some v) : H2.loadN a n = some v := by
  unfold Heap.loadN at *
  cases n with
  | some n =>
    simp only at h ⊢
    cases hl : H.look a n with
    | none => rw [hl] at h; cases h
    | some cs => rw [hl] at h; rw [hb.look hl]; exact h
  | none =>
    simp only at h ⊢
    cases hl : H.look a 1 with
    | none => rw [hl] at h; cases h
    | some cs => rw [hl] at h; rw [hb.look hl]; exact h
theorem nots_some2 {neg : Bool} {r : Option Bool} {v : Value} {H H' : Heap} (h : (nots neg r).map (·, H) = some (v, H')) : ∃ b, r = some b ∧ H' = H ∧ v = .bool (if neg then !b else b) := by
  cases r with
  | none => cases h
  | some b =>
    simp only [nots, Option.map_some, Option.some.injEq, Prod.mk.injEq] at h
    exact ⟨b, rfl, h.2.symm, h.1.symm⟩

theorem evalOp_read {ev : Operand → Value} {H H' : Heap} {id : Nat} {op : DOp} {v : Value} (hc : op.cls = .read) (h : evalOp ev H id op = some (v, H')) :
    H' = H ∧ ∀ H2 id2, H.below H2 → evalOp ev H2 id2 op = some (v, H2) := by
  cases op <;> first | (cases hc; done) | skip
  case load n a =>
    simp only [evalOp] at h ⊢
    split at h
    · rename_i p hp
      cases hl : H.loadN p n with
      | none => rw [hl] at h; cases h
      | some u =>
        rw [hl] at h
        simp only [Option.map_some, Option.some.injEq, Prod.mk.injEq] at h
        obtain ⟨h1, h2⟩ := h
        subst h1; subst h2
        exact ⟨rfl, fun H2 _ hb => by simp only [hb.loadN hl, Option.map_some]⟩
    · cases h
  case eqIface neg lit E x y =>
    simp only [evalOp] at h ⊢
    obtain ⟨b, h1, rfl, rfl⟩ := nots_some2 h
    exact ⟨rfl, fun H2 _ hb => by simp only [hb.ifaceEq h1, nots, Option.map_some]⟩
  case eqPtr neg x y =>
    simp only [evalOp] at h ⊢
    split at h
    · rename_i e1 e2
      obtain ⟨b, h1, rfl, rfl⟩ := nots_some2 h
      exact ⟨rfl, fun H2 _ hb => by cases h1; simp only [nots, Option.map_some]⟩
    · rename_i e1 e2
      obtain ⟨b, h1, rfl, rfl⟩ := nots_some2 h
      exact ⟨rfl, fun H2 _ hb => by cases h1; simp only [nots, Option.map_some]⟩
    · rename_i e1 e2
      obtain ⟨b, h1, rfl, rfl⟩ := nots_some2 h
      exact ⟨rfl, fun H2 _ hb => by simp only [hb.sameBlockEq h1, nots, Option.map_some]⟩
    · cases h
  case bytesToStr x =>
    simp only [evalOp] at h ⊢
    split at h
    · rename_i e1
      cases h
      exact ⟨rfl, fun H2 _ hb => by simp only⟩
    · rename_i a len c e1
      cases hl : H.elems 1 len (.slice (some a) len len) with
      | none => rw [hl] at h; cases h
      | some cs =>
        rw [hl] at h
        obtain ⟨h1, h2⟩ := map_same' h
        exact ⟨h1, fun H2 _ hb => by simp only [hb.elems hl]; exact h2 H2⟩
    · cases h
  case lookup z ok m k =>
    simp only [evalOp] at h ⊢
    split at h
    · rename_i e1 e2
      cases h
      exact ⟨rfl, fun H2 _ hb => by simp only⟩
    · rename_i r e1 e2
      cases hr : H.mp.get r with
      | none => simp only [hr] at h; cases h
      | some es =>
        simp only [hr] at h
        cases hf : mapFind (ev k) es with
        | none =>
          simp only [hf] at h
          cases h
          exact ⟨rfl, fun H2 _ hb => by simp only [hb.2 _ _ hr, hf]⟩
        | some u =>
          simp only [hf] at h
          cases h
          exact ⟨rfl, fun H2 _ hb => by simp only [hb.2 _ _ hr, hf]⟩
    · cases h
  case sliceSl esz x lo hi =>
    simp only [evalOp] at h ⊢
    split at h
    · rename_i n c e1
      split at h
      · rename_i e2
        cases hb0 : bounds 0 0 (lo.map ev) (hi.map ev) with
        | none => rw [hb0] at h; cases h
        | some q =>
          rw [hb0] at h; cases h
          exact ⟨rfl, fun H2 _ hb => by simp only [e2, and_self, if_true]⟩
      · cases h
    · rename_i a len cap e1
      cases hb0 : bounds len cap (lo.map ev) (hi.map ev) with
      | none => rw [hb0] at h; cases h
      | some q =>
        obtain ⟨l, hh⟩ := q
        rw [hb0] at h
        simp only at h
        split at h
        · rename_i e2
          cases h
          exact ⟨rfl, fun H2 _ hb => by simp only [e2, if_true]⟩
        · rename_i e2
          cases hs : a.spot with
          | some z => simp only [hs] at h; cases h
          | none =>
            cases hB : H.blk.get a.block with
            | none => simp only [hs, hB] at h; cases h
            | some B =>
              simp only [hs, hB] at h
              split at h
              · rename_i e3
                cases h
                exact ⟨rfl, fun H2 _ hb => by simp only [e2, if_false, hb.1 _ _ hB, e3, if_true]⟩
              · cases h
    · cases h
  case sliceArr n esz x lo hi =>
    simp only [evalOp] at h ⊢
    split at h
    · rename_i a e1
      cases hb0 : bounds n n (lo.map ev) (hi.map ev) with
      | none => rw [hb0] at h; cases h
      | some q =>
        obtain ⟨l, hh⟩ := q
        rw [hb0] at h
        simp only at h
        split at h
        · rename_i e2
          cases h
          exact ⟨rfl, fun H2 _ hb => by simp only [e2, if_true]⟩
        · rename_i e2
          cases hs : a.spot with
          | some z => simp only [hs] at h; cases h
          | none =>
            cases hB : H.blk.get a.block with
            | none => simp only [hs, hB] at h; cases h
            | some B =>
              simp only [hs, hB] at h
              split at h
              · rename_i e3
                cases h
                exact ⟨rfl, fun H2 _ hb => by simp only [e2, if_false, hb.1 _ _ hB, e3, if_true]⟩
              · cases h
    · cases h

theorem evalOp_newOnly {ev : Operand → Value} {H H' : Heap} {id : Nat} {op : DOp} {v : Value} (h : evalOp ev H id op = some (v, H')) : NewOnly H H' id := by
  cases hc : op.cls with
  | pure => rw [(evalOp_pure hc h).1]; exact .refl _ _
  | read => rw [(evalOp_read hc h).1]; exact .refl _ _
  | make => obtain ⟨b, rfl, _⟩ := evalOp_make hc h; exact .make _ _ _
  | eff =>
    cases op <;> first | (cases hc; done) | skip
    case fail => simp [evalOp] at h
    case call => simp [evalOp] at h
    case append esz bytes s x => exact .append h
    case store n a x =>
      simp only [evalOp] at h
      split at h
      · split at h
        · rename_i p hp _
          cases hw : H.write p (ev x).cells.toList with
          | none => rw [hw] at h; cases h
          | some H1 => rw [hw] at h; cases h; exact .write _ hw
        · cases h
      · cases h
    case strToBytes x =>
      simp only [evalOp] at h
      split at h
      · cases h; exact .make _ _ _
      · cases h
    case makeMap =>
      simp only [evalOp] at h
      cases h
      exact ⟨fun _ _ h => h, fun k hk h => by simp only; rw [PM.get_set_ne _ _ (Ne.symm hk)]; exact h, Nat.le_max_left _ _⟩
    case mapUpdate m k x =>
      simp only [evalOp] at h
      split at h
      · rename_i r e1 e2
        cases hr : H.mp.get r with
        | none => simp only [hr] at h; cases h
        | some es =>
          simp only [hr] at h; cases h
          refine ⟨fun _ _ h => h, fun j _ hj => ?_, Nat.le_refl _⟩
          simp only
          rw [PM.get_set_ne _ _ (fun e => by subst e; rw [hr] at hj; cases hj)]
          exact hj
      · cases h
    case makeSlice =>
      simp only [evalOp] at h
      split at h
      · split at h
        · cases h; exact .make _ _ _
        · cases h
      · cases h
    case copy esz s x =>
      simp only [evalOp] at h
      split at h
      · rename_i base dLen _ m e1 e2
        cases hl : H.elems esz (Nat.min m dLen) (ev x) with
        | none => simp only [hl] at h; cases h
        | some cs =>
          simp only [hl] at h
          cases base with
          | none => cases h; exact .refl _ _
          | some a =>
            simp only at h
            split at h
            · cases h; exact .refl _ _
            · cases hw : H.write a cs with
              | none => rw [hw] at h; cases h
              | some H1 => rw [hw] at h; cases h; exact .write _ hw
      · cases h
end Go.Det
