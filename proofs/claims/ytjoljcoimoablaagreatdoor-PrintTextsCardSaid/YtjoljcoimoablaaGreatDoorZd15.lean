/-
  One operation: seventh part: interfaces, slices and structs compared; maps.
-/
import Derived.Test.YtjoljcoimoablaaGreatDoorZd14
namespace Go.Det
variable {ρ : Inj} {H : Heap} {w : World}
section
variable {P : Program} {ev ev' : Operand → Value} {id : Nat} {v : Value} {H' : Heap} {o : Oper}

/-- What is asked of the types of values behind an interface that are held against each other. -/
def EqTypes (P : Program) (E : List TypeId) : Prop := ∀ t ∈ E, ∃ e i q, P.underlying t = some (.pointer e) ∧ P.info? t = some i ∧ i.comparable = true ∧ P.info? e = some q ∧ q.size ≠ 0

theorem eqGuard_lit {op : BinOp} (hop : op = .eql ∨ op = .neq) (t : TypeId) {x y : Operand} (hl : (isConst x || isConst y) = true) : (eqGuard op t x y .nilIface .nilIface).run P w = .ok () w := by
  rcases hop with rfl | rfl <;> cases x <;> cases y <;> first | (simp [isConst] at hl; done) | simp [eqGuard]

theorem sim_eqIface (hH : HeapRel ρ H w) {E : List TypeId} (hE : EqTypes P E) (op : BinOp) (hop : op = .eql ∨ op = .neq) (t yt : TypeId) {ms : Array (String × TypeId)} (ht : P.underlying t = some (.interface ms)) (x y : Operand) (hx : VR ρ (ev x) (ev' x)) (hy : VR ρ (ev y) (ev' y)) (ho : o.op = .binOp op t x y yt)
    (h : evalOp ev H id (.eqIface (isNeq op) (isConst x || isConst y) E x y) = some (v, H')) : OpSim P ρ H w ev' o v H' := by
  simp only [evalOp] at h
  cases hi : ifaceEq H (isConst x || isConst y) E (ev x) (ev y) with
  | none => simp [nots, hi] at h
  | some r =>
    have hv : v = .bool (if (isNeq op) then !r else r) ∧ H' = H := by
      simp only [hi, nots, Option.map_some, Option.some.injEq, Prod.mk.injEq] at h
      exact ⟨h.1.symm, h.2.symm⟩
    obtain ⟨rfl, rfl⟩ := hv
    clear h
    cases e1 : ev x <;> rw [e1] at hi hx <;> (try (cases e2 : ev y <;> rw [e2] at hi <;> cases hi; done))
    case iface u a =>
      cases hx' : ev' x <;> rw [hx'] at hx <;> cases hx
      rename_i a' ha
      cases e2 : ev y <;> rw [e2] at hi hy <;> (try (cases hi; done))
      case nilIface =>
        cases hy' : ev' y <;> rw [hy'] at hy <;> cases hy
        simp only [ifaceEq, Option.some.injEq] at hi
        subst hi
        refine eq_finish hH op hop t yt x y ho (by rw [hx', hy']; rcases hop with rfl | rfl <;> simp [eqGuard]) (by rw [hx', hy']; rfl) (by rw [hx', hy']; rfl) ?_
        rw [hx', hy']
        have : ∀ d, (Op.equalIn (d + 1) t (.iface u a') .nilIface).run P w = .ok false w := fun d => by simp [Op.equalIn, run_underlying ht]
        exact this 9999
      case iface s b =>
        cases hy' : ev' y <;> rw [hy'] at hy <;> cases hy
        rename_i b' hb
        simp only [ifaceEq] at hi
        refine eq_finish hH op hop t yt x y ho (by rw [hx', hy']; rcases hop with rfl | rfl <;> simp [eqGuard]) (by rw [hx', hy']; rfl) (by rw [hx', hy']; rfl) ?_
        rw [hx', hy']
        by_cases hus : u = s
        · subst hus
          rw [if_pos rfl] at hi
          cases a <;> (try (cases hi; done))
          rename_i pa
          cases pa with
          | none => cases b <;> cases hi
          | some pa =>
            cases b <;> (try (cases hi; done))
            rename_i pb
            cases pb with
            | none => cases hi
            | some pb =>
              cases hc : E.contains u with
              | false => simp only [hc] at hi; cases hi
              | true =>
                simp only [hc] at hi
                obtain ⟨a1, rfl, ha1⟩ := vr_ptr ha
                obtain ⟨b1, rfl, hb1⟩ := vr_ptr hb
                obtain ⟨e, i, q, q1, q2, q3, q4, q5⟩ := hE u (by simpa using hc)
                have hs := sameBlock_run (P := P) hH ha1 hb1 hi
                have : ∀ d, (Op.equalIn (d + 2) t (.iface u (.pointer (some a1))) (.iface u (.pointer (some b1)))).run P w = .ok r w := fun d => by
                  simp [Op.equalIn, run_underlying ht, typeInfo, q2, q3, run_underlying q1, sizeOf, q4, q5, hs]
                exact this 9998
        · rw [if_neg hus] at hi
          simp only [Option.some.injEq] at hi
          subst hi
          have : ∀ d, (Op.equalIn (d + 1) t (.iface u a') (.iface s b')).run P w = .ok false w := fun d => by simp [Op.equalIn, run_underlying ht, hus]
          exact this 9999
    case nilIface =>
      cases hx' : ev' x <;> rw [hx'] at hx <;> cases hx
      cases e2 : ev y <;> rw [e2] at hi hy <;> (try (cases hi; done))
      case nilIface =>
        cases hy' : ev' y <;> rw [hy'] at hy <;> cases hy
        simp only [ifaceEq] at hi
        split at hi
        · rename_i hl
          simp only [Option.some.injEq] at hi
          subst hi
          have hg := eqGuard_lit (P := P) (w := w) hop t hl
          refine eq_finish hH op hop t yt x y ho (by rw [hx', hy']; exact hg) (by rw [hx', hy']; rfl) (by rw [hx', hy']; rfl) ?_
          rw [hx', hy']
          have : ∀ d, (Op.equalIn (d + 1) t .nilIface .nilIface).run P w = .ok true w := fun d => by simp [Op.equalIn, run_underlying ht]
          exact this 9999
        · cases hi
      case iface s b =>
        cases hy' : ev' y <;> rw [hy'] at hy <;> cases hy
        rename_i b' hb
        simp only [ifaceEq, Option.some.injEq] at hi
        subst hi
        refine eq_finish hH op hop t yt x y ho (by rw [hx', hy']; rcases hop with rfl | rfl <;> simp [eqGuard]) (by rw [hx', hy']; rfl) (by rw [hx', hy']; rfl) ?_
        rw [hx', hy']
        have : ∀ d, (Op.equalIn (d + 1) t .nilIface (.iface s b')).run P w = .ok false w := fun d => by simp [Op.equalIn, run_underlying ht]
        exact this 9999

theorem sim_eqNilSlice (hH : HeapRel ρ H w) (op : BinOp) (hop : op = .eql ∨ op = .neq) (t yt e : TypeId) (ht : P.underlying t = some (.slice e)) (x y : Operand) (hx : VR ρ (ev x) (ev' x)) (hy : VR ρ (ev y) (ev' y)) (ho : o.op = .binOp op t x y yt)
    (h : evalOp ev H id (.eqNilSlice (isNeq op) x y) = some (v, H')) : OpSim P ρ H w ev' o v H' := by
  simp only [evalOp] at h
  have shape : ∀ {a n c u}, VR ρ (.slice a n c) u → ∃ a' c', u = .slice a' n c' ∧ a'.isNone = a.isNone := by
    intro a n c u hv
    cases hv <;> exact ⟨_, _, rfl, rfl⟩
  cases e1 : ev x <;> simp only [e1] at h <;> try (cases h; done)
  rename_i a n c
  cases e2 : ev y <;> simp only [e2] at h <;> try (cases a <;> cases h; done)
  rename_i b m d
  rw [e1] at hx; rw [e2] at hy
  obtain ⟨a', c', h1, g1⟩ := shape hx
  obtain ⟨b', d', h2, g2⟩ := shape hy
  have fin : ∀ r, v = .bool (if (isNeq op) then !r else r) ∧ H' = H → (∀ k, (Op.equalIn (k + 1) t (.slice a' n c') (.slice b' m d')).run P w = .ok r w) → OpSim P ρ H w ev' o v H' := by
    rintro r ⟨rfl, rfl⟩ hr
    refine eq_finish hH op hop t yt x y ho (by rw [h1, h2]; rcases hop with rfl | rfl <;> simp [eqGuard]) (by rw [h1, h2]; rfl) (by rw [h1, h2]; rfl) ?_
    rw [h1, h2]
    exact hr 9999
  cases a with
  | none =>
    simp only [nots, Option.map_some, Option.some.injEq, Prod.mk.injEq] at h
    refine fin b.isNone ⟨h.1.symm, h.2.symm⟩ fun k => ?_
    cases a' with
    | none => simp [Op.equalIn, run_underlying ht, g2]
    | some _ => simp at g1
  | some a =>
    cases b with
    | none =>
      simp only [nots, Option.map_some, Option.some.injEq, Prod.mk.injEq] at h
      refine fin false ⟨h.1.symm, h.2.symm⟩ fun k => ?_
      cases a' with
      | none => simp at g1
      | some _ =>
        cases b' with
        | none => simp [Op.equalIn, run_underlying ht]
        | some _ => simp at g2
    | some b => simp only at h; cases h

theorem eqFields_run (d : Nat) {xs ys xs' ys' : Array Value} (hx : VRL ρ xs.toList xs'.toList) (hy : VRL ρ ys.toList ys'.toList) : ∀ (fs : List Field) (l : List Nat) (r : Bool),
    fs.mapM (fun f => if f.name = "_" then none else match P.underlying f.type with | some (.int _) => some f.offset | _ => none) = some l → leavesEq xs.toList ys.toList l = some r → (Op.eqFields (d + 1) xs' ys' fs).run P w = .ok r w
  | [], l, r, hl, hr => by
    simp at hl; subst hl
    simp [leavesEq] at hr; subst hr
    simp [Op.eqFields]
  | f :: fs, l, r, hl, hr => by
    simp only [List.mapM_cons, Option.bind_eq_bind, Option.bind_eq_some_iff, Option.pure_def, Option.some.injEq] at hl
    obtain ⟨off, h1, l', h2, rfl⟩ := hl
    by_cases hn : f.name = "_"
    · rw [if_pos hn] at h1; cases h1
    rw [if_neg hn] at h1
    cases ht : P.underlying f.type with
    | none => simp [ht] at h1
    | some dd =>
      cases dd <;> simp [ht] at h1
      rename_i kk
      subst h1
      simp only [leavesEq] at hr
      cases hx1 : xs.toList[f.offset]? with
      | none => simp only [hx1] at hr; cases hr
      | some a =>
        cases hy1 : ys.toList[f.offset]? with
        | none => simp only [hx1, hy1] at hr; cases a <;> cases hr
        | some b =>
          simp only [hx1, hy1] at hr
          cases a <;> try (cases hr; done)
          cases b <;> try (cases hr; done)
          rename_i k1 n1 k2 n2
          obtain ⟨a', p1, p2⟩ := hx.get hx1
          obtain ⟨b', p3, p4⟩ := hy.get hy1
          have := scalar_eq p2 rfl; subst this
          have := scalar_eq p4 rfl; subst this
          have p1' : xs'[f.offset]? = some (.int k1 n1) := by simpa using p1
          have p3' : ys'[f.offset]? = some (.int k2 n2) := by simpa using p3
          have hag : (isAgg f.type).run P w = .ok false w := by simp [isAgg, run_underlying ht]
          change (if k1 = k2 then (if n1 = n2 then leavesEq xs.toList ys.toList l' else some false) else none) = some r at hr
          split at hr
          · rename_i hk
            subst hk
            split at hr
            · rename_i hab
              subst hab
              have ih := eqFields_run d hx hy fs l' r h2 hr
              simp [Op.eqFields, hn, part, hag, p1', p3', Op.equalIn, run_underlying ht, ih]
            · rename_i hab
              simp only [Option.some.injEq] at hr
              subst hr
              simp [Op.eqFields, hn, part, hag, p1', p3', Op.equalIn, run_underlying ht, hab]
          · cases hr

theorem sim_eqAgg (hH : HeapRel ρ H w) (op : BinOp) (hop : op = .eql ∨ op = .neq) (t yt : TypeId) (hgd : P.eqGuardType P.depth t = false) {l : List Nat} (hl : leavesOf P t = some l) (x y : Operand) (hx : VR ρ (ev x) (ev' x)) (hy : VR ρ (ev y) (ev' y)) (ho : o.op = .binOp op t x y yt)
    (h : evalOp ev H id (.eqAgg (isNeq op) l x y) = some (v, H')) : OpSim P ρ H w ev' o v H' := by
  simp only [evalOp] at h
  cases e1 : ev x <;> simp only [e1] at h <;> try (cases h; done)
  rename_i xs
  cases e2 : ev y <;> simp only [e2] at h <;> try (cases h; done)
  rename_i ys
  rw [e1] at hx; rw [e2] at hy
  obtain ⟨xs', h1, v1⟩ := vr_agg hx
  obtain ⟨ys', h2, v2⟩ := vr_agg hy
  cases hr : leavesEq xs.toList ys.toList l with
  | none => simp [nots, hr] at h
  | some r =>
    have hv : v = .bool (if (isNeq op) then !r else r) ∧ H' = H := by
      simp only [hr, nots, Option.map_some, Option.some.injEq, Prod.mk.injEq] at h
      exact ⟨h.1.symm, h.2.symm⟩
    obtain ⟨rfl, rfl⟩ := hv
    unfold leavesOf at hl
    split at hl
    · cases hl
    · rename_i hst
      cases ht : P.underlying t with
      | none => simp only [ht] at hl; cases hl
      | some dd =>
        cases dd <;> simp only [ht] at hl <;> try (cases hl; done)
        rename_i fs
        have hf : P.fieldsOf t = fs := by simp [Program.fieldsOf, ht]
        refine eq_finish hH op hop t yt x y ho (by rw [h1, h2]; exact run_eqGuard_agg w op t x y xs' ys' hgd) (by rw [h1, h2]; rfl) (by rw [h1, h2]; rfl) ?_
        rw [h1, h2]
        have := run_equalIn_struct w (P := P) 9999 t xs' ys' (by rw [hf]; exact ht) (by simpa using hst)
        have hrun := eqFields_run (P := P) (w := w) 9998 v1 v2 fs.toList l r hl hr
        rw [hf] at this
        exact this.trans hrun
end
end Go.Det
