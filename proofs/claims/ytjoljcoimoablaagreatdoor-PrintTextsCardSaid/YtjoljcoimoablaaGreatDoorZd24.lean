/-
  All code, and calls: what the plain machine finds, the real one does.
-/
import Derived.Test.YtjoljcoimoablaaGreatDoorZd23
namespace Go.Det
section
variable {ext : FuncId → Option (List Value → Heap → Option Value)} {D : FuncId → Option DFunc} {N : Nat} {T T' : Tmps} {H H' : Heap}

theorem exec_zero {c : DCode} : exec ext D 0 c T H = none := by simp [exec]
theorem exec_fail : exec ext D (N + 1) .fail T H = none := rfl
theorem exec_skip : exec ext D (N + 1) .skip T H = some (.norm, T, H) := rfl
theorem exec_ops {os : List DOper} : exec ext D (N + 1) (.ops os) T H = (match runOps (callF ext D N) os T H with
  | some (T', H') => some (.norm, T', H')
  | none => none) := rfl
theorem exec_draw {m : Nat} {ord : List (Nat × DOper × List Nat)} : exec ext D (N + 1) (.draw m ord) T H = (match runDraw (callF ext D N) H.next ord [] T { H with next := H.next + m } with
  | some (T', H') => some (.norm, T', H')
  | none => none) := rfl
theorem exec_seq {a b : DCode} : exec ext D (N + 1) (.seq a b) T H = (match exec ext D N a T H with
  | some (.norm, T', H') => exec ext D N b T' H'
  | r => r) := rfl
theorem exec_cond {c : Operand} {a b : DCode} : exec ext D (N + 1) (.cond c a b) T H = (match ev T c with
  | .bool true => exec ext D N a T H
  | .bool false => exec ext D N b T H
  | _ => none) := rfl
theorem exec_block {id : Nat} {c : DCode} : exec ext D (N + 1) (.block id c) T H = (match exec ext D N c T H with
  | some (.exit i, T', H') => some (if i = id then .norm else .exit i, T', H')
  | r => r) := rfl
theorem exec_loop {c : DCode} : exec ext D (N + 1) (.loop c) T H = (match exec ext D N c T H with
  | some (.norm, T', H') => exec ext D N (.loop c) T' H'
  | r => r) := rfl
theorem exec_exit {id : Nat} : exec ext D (N + 1) (.exit id) T H = some (.exit id, T, H) := rfl
theorem exec_ret : exec ext D (N + 1) .ret T H = some (.ret, T, H) := rfl

/-! ### What was not there -/
def FreshTo (b : Nat) (H H' : Heap) : Prop := H.next ≤ H'.next ∧ (∀ k, k < b → H.blk.get k = none → H'.blk.get k = none) ∧ ∀ k, k < b → H.mp.get k = none → H'.mp.get k = none
theorem FreshTo.refl (b : Nat) (H : Heap) : FreshTo b H H := ⟨Nat.le_refl _, fun _ _ h => h, fun _ _ h => h⟩
theorem FreshTo.trans {b : Nat} {H H1 H2 : Heap} (h : FreshTo b H H1) (k : FreshTo b H1 H2) : FreshTo b H H2 := ⟨Nat.le_trans h.1 k.1, fun j hj hn => k.2.1 j hj (h.2.1 j hj hn), fun j hj hn => k.2.2 j hj (h.2.2 j hj hn)⟩
theorem FreshTo.weak {b c : Nat} {H H1 : Heap} (h : FreshTo b H H1) (hc : c ≤ b) : FreshTo c H H1 := ⟨h.1, fun j hj => h.2.1 j (Nat.lt_of_lt_of_le hj hc), fun j hj => h.2.2 j (Nat.lt_of_lt_of_le hj hc)⟩

theorem runOps_fresh {call : CallFn} (hF : CallFresh call) : ∀ (os : List DOper) (T : Tmps) (H : Heap), runOps call os T H = some (T', H') → FreshTo H.next H H' := by
  intro os
  induction os with
  | nil => intro T H h; simp only [runOps, Option.some.injEq, Prod.mk.injEq] at h; obtain ⟨_, rfl⟩ := h; exact .refl _ _
  | cons o os ih =>
    intro T H h
    simp only [runOps] at h
    split at h
    · cases hs : stepOp call T H H.next o.op with
      | none => rw [hs] at h; cases h
      | some q =>
        obtain ⟨v, H1⟩ := q
        rw [hs] at h
        have h1 : FreshTo H.next H H1 := step_fresh hF hs
        exact h1.trans ((ih _ _ h).weak h1.1)
    · exact ih _ _ h

theorem runDraw_fresh {call : CallFn} (hF : CallFresh call) {base : Nat} : ∀ (os : List (Nat × DOper × List Nat)) (s : Seen) (T : Tmps) (H : Heap), base ≤ H.next → runDraw call base os s T H = some (T', H') → FreshTo base H H' := by
  intro os
  induction os with
  | nil => intro s T H _ h; simp only [runDraw, Option.some.injEq, Prod.mk.injEq] at h; obtain ⟨_, rfl⟩ := h; exact .refl _ _
  | cons x os ih =>
    obtain ⟨i, o, js⟩ := x
    intro s T H hb h
    simp only [runDraw] at h
    have other : ∀ v H1, evalOp (ev T) H (base + i) o.op = some (v, H1) → FreshTo base H H1 := fun v H1 he => by
      have := evalOp_newOnly he
      exact ⟨this.next, fun k hk => this.blk k (by omega), fun k hk => this.mp k (by omega)⟩
    split at h
    · split at h
      · cases hs : stepOp call T H H.next o.op with
        | none => rw [hs] at h; cases h
        | some q =>
          obtain ⟨v, H1⟩ := q
          rw [hs] at h
          have h1 : FreshTo H.next H H1 := step_fresh hF hs
          simp only at h
          split at h
          · exact (h1.weak hb).trans (ih _ _ _ (Nat.le_trans hb h1.1) h)
          · cases h
      · cases he : evalOp (ev T) H 0 o.op with
        | none => rw [he] at h; cases h
        | some q => rw [he] at h; exact ih _ _ _ hb h
      · cases he : evalOp (ev T) H (base + i) o.op with
        | none => rw [he] at h; cases h
        | some q =>
          obtain ⟨v, H1⟩ := q
          rw [he] at h
          have h1 := other v H1 he
          exact h1.trans (ih _ _ _ (Nat.le_trans hb h1.1) h)
    · exact ih _ _ _ hb h

theorem callF_some {f : FuncId} {args : List Value} {v : Value} (h : callF ext D N f args H = some (v, H')) :
    (∃ g, ext f = some g ∧ g args H = some v ∧ H' = H) ∨ ∃ d ex T' vs, ext f = none ∧ D f = some d ∧ exec ext D N d.body (PM.ofList args) H = some (ex, T', H') ∧ (∀ i, ex ≠ .exit i) ∧ resultsOf T' H' d.results = some vs ∧ v = tupled vs := by
  unfold callF at h
  cases he : ext f with
  | some g =>
    simp only [he] at h
    cases hg : g args H with
    | none => rw [hg] at h; cases h
    | some u =>
      rw [hg] at h
      simp only [Option.map_some, Option.some.injEq, Prod.mk.injEq] at h
      exact .inl ⟨g, rfl, by rw [hg, h.1], h.2.symm⟩
  | none =>
    simp only [he] at h
    cases hd : D f with
    | none => simp only [hd] at h; cases h
    | some d =>
      simp only [hd] at h
      cases hx : exec ext D N d.body (PM.ofList args) H with
      | none => simp only [hx] at h; cases h
      | some q =>
        obtain ⟨ex, T', H1⟩ := q
        have fin : (match resultsOf T' H1 d.results with
          | some vs => some (tupled vs, H1)
          | none => none) = some (v, H') → (∀ i, ex ≠ .exit i) → ∃ d' ex' T'' vs, (none : Option (List Value → Heap → Option Value)) = none ∧ some d = some d' ∧ exec ext D N d'.body (PM.ofList args) H = some (ex', T'', H') ∧ (∀ i, ex' ≠ .exit i) ∧ resultsOf T'' H' d'.results = some vs ∧ v = tupled vs := fun h hn => by
          cases hr : resultsOf T' H1 d.results with
          | none => rw [hr] at h; cases h
          | some vs =>
            rw [hr] at h
            simp only [Option.some.injEq, Prod.mk.injEq] at h
            obtain ⟨h1, rfl⟩ := h
            exact ⟨d, ex, T', vs, rfl, rfl, hx, hn, hr, h1.symm⟩
        simp only [hx] at h
        cases ex with
        | exit i => cases h
        | norm => exact .inr (fin h (fun i => by simp))
        | ret => exact .inr (fin h (fun i => by simp))

theorem exec_fresh : ∀ (N : Nat), CallFresh (callF ext D N) ∧ ∀ (c : DCode) (T : Tmps) (H : Heap) (ex : Ex) (T' : Tmps) (H' : Heap), exec ext D N c T H = some (ex, T', H') → FreshTo H.next H H' := by
  have up : ∀ N, (∀ (c : DCode) (T : Tmps) (H : Heap) (ex : Ex) (T' : Tmps) (H' : Heap), exec ext D N c T H = some (ex, T', H') → FreshTo H.next H H') → CallFresh (callF ext D N) := by
    intro N ih f args H v H' h
    rcases callF_some h with ⟨_, _, _, rfl⟩ | ⟨d, ex, T', vs, _, _, hx, _⟩
    · exact FreshTo.refl _ _
    · exact ih _ _ _ _ _ _ hx
  intro N
  induction N with
  | zero =>
    have main : ∀ (c : DCode) (T : Tmps) (H : Heap) (ex : Ex) (T' : Tmps) (H' : Heap), exec ext D 0 c T H = some (ex, T', H') → FreshTo H.next H H' := fun c T H ex T' H' h => by rw [exec_zero] at h; cases h
    exact ⟨up 0 main, main⟩
  | succ N ih =>
    obtain ⟨hF, ih⟩ := ih
    have main : ∀ (c : DCode) (T : Tmps) (H : Heap) (ex : Ex) (T' : Tmps) (H' : Heap), exec ext D (N + 1) c T H = some (ex, T', H') → FreshTo H.next H H' := by
      intro c T H ex T' H' h
      cases c with
      | fail => rw [exec_fail] at h; cases h
      | skip => rw [exec_skip] at h; cases h; exact .refl _ _
      | ops os =>
        rw [exec_ops] at h
        cases hr : runOps (callF ext D N) os T H with
        | none => rw [hr] at h; cases h
        | some q => rw [hr] at h; cases h; exact runOps_fresh hF _ _ _ hr
      | draw m ord =>
        rw [exec_draw] at h
        cases hr : runDraw (callF ext D N) H.next ord [] T { H with next := H.next + m } with
        | none => rw [hr] at h; cases h
        | some q =>
          rw [hr] at h; cases h
          have h1 := runDraw_fresh hF (base := H.next) _ _ _ _ (Nat.le_add_right _ _) hr
          exact ⟨Nat.le_trans (Nat.le_add_right _ _) h1.1, h1.2.1, h1.2.2⟩
      | seq a b =>
        rw [exec_seq] at h
        cases hr : exec ext D N a T H with
        | none => rw [hr] at h; cases h
        | some q =>
          obtain ⟨e1, T1, H1⟩ := q
          rw [hr] at h
          have h1 := ih _ _ _ _ _ _ hr
          cases e1 with
          | norm => exact h1.trans ((ih _ _ _ _ _ _ h).weak h1.1)
          | exit i => cases h; exact h1
          | ret => cases h; exact h1
      | cond c a b =>
        rw [exec_cond] at h
        split at h
        · exact ih _ _ _ _ _ _ h
        · exact ih _ _ _ _ _ _ h
        · cases h
      | block id c =>
        rw [exec_block] at h
        cases hr : exec ext D N c T H with
        | none => rw [hr] at h; cases h
        | some q =>
          obtain ⟨e1, T1, H1⟩ := q
          rw [hr] at h
          have h1 := ih _ _ _ _ _ _ hr
          cases e1 <;> cases h <;> exact h1
      | loop c =>
        rw [exec_loop] at h
        cases hr : exec ext D N c T H with
        | none => rw [hr] at h; cases h
        | some q =>
          obtain ⟨e1, T1, H1⟩ := q
          rw [hr] at h
          have h1 := ih _ _ _ _ _ _ hr
          cases e1 with
          | norm => exact h1.trans ((ih _ _ _ _ _ _ h).weak h1.1)
          | exit i => cases h; exact h1
          | ret => cases h; exact h1
      | exit id => rw [exec_exit] at h; cases h; exact .refl _ _
      | ret => rw [exec_ret] at h; cases h; exact .refl _ _
    exact ⟨up _ main, main⟩
end

/-! ### The real machine -/
section
variable {P : Program} {G : Nat → Bool} {E : List TypeId} {ext : FuncId → Option (List Value → Heap → Option Value)} {D : FuncId → Option DFunc} {n : Nat}

/-- What is asked of the tables. -/
structure Env (P : Program) (G : Nat → Bool) (E : List TypeId) (ext : FuncId → Option (List Value → Heap → Option Value)) (D : FuncId → Option DFunc) : Prop where
  draws : P.follows .mixedOrders = true
  eqs : EqTypes P E
  funcs : ∀ f d, ext f = none → D f = some d → ∃ fn, P.funcs[f]? = some fn ∧ (fn.name == "runtime.NumGoroutine") = false ∧ convFunc P G E fn = some d
  exts : ∀ f g, ext f = some g → ∀ args H v, g args H = some v → ∀ ρ w (args' : Array Value), HeapRel ρ H w → VRL ρ args args'.toList → Gok ρ G → Answers P f args' w fun v' w' => ∃ ρ', VR ρ' v v' ∧ Sim ρ H w ρ' H w'

def exOf : Ex → Exit
  | .norm => .normal
  | .exit i => .exit i
  | .ret => .ret

def ExecOK (P : Program) (G : Nat → Bool) (E : List TypeId) (ext : FuncId → Option (List Value → Heap → Option Value)) (D : FuncId → Option DFunc) (N : Nat) : Prop :=
  ∀ (n : Nat) (c : Code) (T : Tmps) (H : Heap) (ex : Ex) (T' : Tmps) (H' : Heap), exec ext D N (convCode P G E n c) T H = some (ex, T', H') → ∀ (ρ : Inj) (a : Act) (w : World) (Q : Exit → Act → World → Prop), HeapRel ρ H w → Gok ρ G → TR ρ n T a →
    (∀ a' w' ρ', Sim ρ H w ρ' H' w' → TR ρ' n T' a' → a'.defers = a.defers → Q (exOf ex) a' w') → c.wp P Q a w
def LoopOK (P : Program) (G : Nat → Bool) (E : List TypeId) (ext : FuncId → Option (List Value → Heap → Option Value)) (D : FuncId → Option DFunc) (N : Nat) : Prop :=
  ∀ (n : Nat) (c : Code) (T : Tmps) (H : Heap) (ex : Ex) (T' : Tmps) (H' : Heap), exec ext D N (.loop (convCode P G E n c)) T H = some (ex, T', H') → ∀ (ρ : Inj) (a : Act) (w : World) (Q : Exit → Act → World → Prop), HeapRel ρ H w → Gok ρ G → TR ρ n T a →
    (∀ a' w' ρ', Sim ρ H w ρ' H' w' → TR ρ' n T' a' → a'.defers = a.defers → Q (exOf ex) a' w') → Code.rounds P c Q N a w

def oneRes (tmps : Array Value) : ResultVar → Sem Value
  | .tmp t => pure (tmps.getD t undef)
  | .cell a t => do loadVar t (← asAddr (tmps.getD a undef))
theorem results_def (fn : Func) (tmps : Array Value) : results fn tmps = (do
    let vs ← fn.results.mapM (oneRes tmps)
    pure (if h : vs.size = 1 then vs[0] else .tuple vs)) := rfl

theorem oneRes_run {ρ : Inj} {H : Heap} {w : World} {a : Act} {T : Tmps} (hH : HeapRel ρ H w) (ht : TR ρ n T a) {r : ResultVar} {d : DRes} {u : Value} (hr : convRes P r = some d) (hu : resultOf T H d = some u) :
    ∃ u', VR ρ u u' ∧ (oneRes a.tmps r).run P w = .ok u' w := by
  cases r with
  | tmp t =>
    cases hr
    simp only [resultOf, Option.some.injEq] at hu
    subst hu
    exact ⟨av a t, ht.val t, rfl⟩
  | cell b t =>
    simp only [convRes] at hr
    cases hn : aggN P t with
    | none => rw [hn] at hr; cases hr
    | some nn =>
      rw [hn] at hr
      cases hr
      simp only [resultOf] at hu
      split at hu
      · rename_i p hp
        have hvb := ht.val b
        simp only [tv, hp, Option.getD_some] at hvb
        obtain ⟨p', h1, h2⟩ := vr_ptr hvb
        obtain ⟨u', h3, h4⟩ := loadVar_run (P := P) hn hH h2 hu
        refine ⟨u', h3, ?_⟩
        unfold av at h1
        simp only [oneRes]
        rw [h1]
        simp [asAddr, h4]
      · cases hu

theorem manyRes_run {ρ : Inj} {H : Heap} {w : World} {a : Act} {T : Tmps} (hH : HeapRel ρ H w) (ht : TR ρ n T a) : ∀ (l : List ResultVar) (ds : List DRes) (us : List Value), l.mapM (convRes P) = some ds → resultsOf T H ds = some us → ∃ us', VRL ρ us us' ∧ (l.mapM (oneRes a.tmps)).run P w = .ok us' w := by
  intro l
  induction l with
  | nil =>
    intro ds us hd hu
    simp at hd
    subst hd
    simp only [resultsOf, Option.some.injEq] at hu
    subst hu
    exact ⟨[], VRL.nil ρ, by simp⟩
  | cons r l ih =>
    intro ds us hd hu
    obtain ⟨d, ds', e1, e2, rfl⟩ := mapM_cons_some hd
    simp only [resultsOf] at hu
    cases hx : resultOf T H d with
    | none => rw [hx] at hu; cases hu
    | some u =>
      rw [hx] at hu
      cases hy : resultsOf T H ds' with
      | none => simp only [hy] at hu; cases hu
      | some us0 =>
        simp only [hy, Option.map_some, Option.some.injEq] at hu
        subst hu
        obtain ⟨u', h1, h2⟩ := oneRes_run (P := P) hH ht e1 hx
        obtain ⟨us', h3, h4⟩ := ih ds' us0 e2 hy
        refine ⟨u' :: us', VRL.cons h1 h3, ?_⟩
        rw [List.mapM_cons]
        simp [h2, h4]

theorem results_run {ρ : Inj} {H : Heap} {w : World} {a : Act} {T : Tmps} {fn : Func} {rs : List DRes} {vs : List Value} (hH : HeapRel ρ H w) (ht : TR ρ n T a) (hrs : fn.results.toList.mapM (convRes P) = some rs) (hv : resultsOf T H rs = some vs) :
    ∃ v', VR ρ (tupled vs) v' ∧ (results fn a.tmps).run P w = .ok v' w := by
  obtain ⟨us', h1, h2⟩ := manyRes_run (P := P) hH ht _ _ _ hrs hv
  have hrun : (results fn a.tmps).run P w = .ok (if h : us'.toArray.size = 1 then us'.toArray[0] else .tuple us'.toArray) w := by
    rw [results_def, Array.mapM_eq_mapM_toList]
    simp [h2]
  refine ⟨_, ?_, hrun⟩
  by_cases h3 : us'.length = 1
  · obtain ⟨u', rfl⟩ := List.length_eq_one_iff.1 h3
    obtain ⟨u, rfl⟩ := List.length_eq_one_iff.1 (h1.1.trans h3)
    exact h1.2 0 _ _ rfl rfl
  · rw [dif_neg (by simpa using h3)]
    have hl : vs.length ≠ 1 := by rw [h1.1]; exact h3
    have ht : tupled vs = .tuple vs.toArray := by
      match vs, hl with
      | [], _ => rfl
      | _ :: _ :: _, _ => rfl
    rw [ht]
    exact h1.tuple

theorem tr_enter {ρ : Inj} {args : List Value} {args' : Array Value} (h : VRL ρ args args'.toList) (n : Nat) : TR ρ n (PM.ofList args) { tmps := args' ++ Array.replicate (n - args'.size) undef, defers := [] } := by
  refine ⟨by simp; omega, fun t => ?_⟩
  have hl : args.length = args'.size := by have := h.1; rw [Array.length_toList] at this; exact this
  simp only [tv, av, PM.get_ofList, Array.getD_eq_getD_getElem?]
  by_cases ht : t < args'.size
  · rw [Array.getElem?_append_left ht]
    have hlt : t < args.length := by rw [hl]; exact ht
    have h1 : args[t]? = some (args[t]'hlt) := List.getElem?_eq_getElem hlt
    have h2 : args'[t]? = some args'[t] := Array.getElem?_eq_getElem ht
    rw [h1, h2]
    exact h.2 t _ _ h1 (by simp)
  · have h1 : args[t]? = none := List.getElem?_eq_none (by rw [hl]; exact Nat.le_of_not_lt ht)
    rw [h1, Array.getElem?_append_right (Nat.le_of_not_lt ht), Array.getElem?_replicate]
    split <;> exact vr_undef

theorem call_ok (env : Env P G E ext D) {N : Nat} (ih : ExecOK P G E ext D N) : CallOK P G (callF ext D N) := by
  intro f args H v H' h ρ w args' hH hargs hG
  rcases callF_some h with ⟨g, hg, hv, rfl⟩ | ⟨d, ex, T', vs, he, hd, hx, hne, hres, rfl⟩
  · exact env.exts f g hg args H' v hv ρ w args' hH hargs hG
  · obtain ⟨fn, hf, hname, hconv⟩ := env.funcs f d he hd
    unfold convFunc at hconv
    cases hb : fn.body with
    | none => rw [hb] at hconv; cases hconv
    | some c =>
      simp only [hb] at hconv
      cases hrs : fn.results.toList.mapM (convRes P) with
      | none => rw [hrs] at hconv; cases hconv
      | some rs =>
        rw [hrs] at hconv
        simp only [Option.map_some, Option.some.injEq] at hconv
        subst hconv
        refine .of_calls hf (by rw [hb]; rfl) hname (calls_of_wp hf hb ?_)
        refine ih fn.ntmps c _ _ _ _ _ hx ρ _ w _ hH hG (tr_enter hargs fn.ntmps) fun a' w' ρ' hs ht hdf => ?_
        obtain ⟨v', h1, h2⟩ := results_run (P := P) hs.rel ht hrs hres
        cases ex with
        | norm => exact ⟨hdf, v', h2, v', rfl, ρ', h1, hs⟩
        | ret => exact ⟨hdf, v', h2, v', rfl, ρ', h1, hs⟩
        | exit i => exact absurd rfl (hne i)

theorem exec_ok (env : Env P G E ext D) : ∀ N, ExecOK P G E ext D N ∧ LoopOK P G E ext D N := by
  intro N
  induction N with
  | zero =>
    constructor
    · intro n c T H ex T' H' h; rw [exec_zero] at h; cases h
    · intro n c T H ex T' H' h; rw [exec_zero] at h; cases h
  | succ N ih =>
    obtain ⟨ih, ihl⟩ := ih
    have hC := call_ok env ih
    have hF : CallFresh (callF ext D N) := (exec_fresh N).1
    have hl : LoopOK P G E ext D (N + 1) := by
      intro n c T H ex T' H' h ρ a w Q hH hG ht hQ
      rw [exec_loop] at h
      rw [rounds_succ]
      cases hr : exec ext D N (convCode P G E n c) T H with
      | none => rw [hr] at h; cases h
      | some q =>
        obtain ⟨e1, T1, H1⟩ := q
        rw [hr] at h
        refine ih n c T H e1 T1 H1 hr ρ a w _ hH hG ht fun a' w' ρ' hs ht' hd => ?_
        cases e1 with
        | norm => exact ihl n c T1 H1 ex T' H' h ρ' a' w' Q hs.rel (hG.mono hs.le) ht' fun a2 w2 ρ2 hs2 ht2 hd2 => hQ a2 w2 ρ2 (hs.trans hs2) ht2 (hd2.trans hd)
        | exit i => cases h; exact hQ a' w' ρ' hs ht' hd
        | ret => cases h; exact hQ a' w' ρ' hs ht' hd
    refine ⟨?_, hl⟩
    intro n c T H ex T' H' h ρ a w Q hH hG ht hQ
    cases c with
    | skip =>
      simp only [convCode] at h
      rw [exec_skip] at h; cases h
      exact wp_skip (hQ a w ρ (.refl hH) ht rfl)
    | region id ops draw =>
      cases draw with
      | false =>
        simp only [convCode, Bool.false_eq_true, if_false] at h
        cases hos : ops.toList.mapM (convOper P G E n ops) with
        | none => simp only [hos] at h; rw [exec_fail] at h; cases h
        | some os =>
          simp only [hos] at h
          rw [exec_ops] at h
          cases hr : runOps (callF ext D N) os T H with
          | none => rw [hr] at h; cases h
          | some q =>
            obtain ⟨T1, H1⟩ := q
            rw [hr] at h; cases h
            refine wp_region ?_
            rw [List.range_eq_range']
            exact runOps_wp env.eqs hC hG (fun a' w' ρ' hs ht' hd => hQ a' w' ρ' hs ht' hd) ops.size 0 os T H ρ a w (by omega) (by simpa using hos) hr (.refl hH) ht rfl
      | true =>
        simp only [convCode, if_true] at h
        unfold convDraw at h
        cases hos : ops.toList.mapM (convOper P G E n ops) with
        | none => simp only [hos] at h; rw [exec_fail] at h; cases h
        | some os =>
          simp only [hos] at h
          split at h
          · rename_i items hmk
            rw [exec_draw] at h
            cases hr : runDraw (callF ext D N) H.next items [] T { H with next := H.next + ops.size } with
            | none => rw [hr] at h; cases h
            | some q =>
              obtain ⟨T1, H1⟩ := q
              rw [hr] at h; cases h
              exact draw_wp env.draws hos hmk env.eqs hC hF hG hH ht hr fun a' w' ρ' hs ht' hd => hQ a' w' ρ' hs ht' hd
          · rw [exec_fail] at h; cases h
    | seq x y =>
      simp only [convCode] at h
      rw [exec_seq] at h
      cases hr : exec ext D N (convCode P G E n x) T H with
      | none => rw [hr] at h; cases h
      | some q =>
        obtain ⟨e1, T1, H1⟩ := q
        rw [hr] at h
        refine wp_seq (ih n x T H e1 T1 H1 hr ρ a w _ hH hG ht fun a' w' ρ' hs ht' hd => ?_)
        cases e1 with
        | norm => exact ih n y T1 H1 ex T' H' h ρ' a' w' Q hs.rel (hG.mono hs.le) ht' fun a2 w2 ρ2 hs2 ht2 hd2 => hQ a2 w2 ρ2 (hs.trans hs2) ht2 (hd2.trans hd)
        | exit i => cases h; exact hQ a' w' ρ' hs ht' hd
        | ret => cases h; exact hQ a' w' ρ' hs ht' hd
    | cond c x y =>
      simp only [convCode] at h
      rw [exec_cond] at h
      have hc : ∀ b, ev T c = .bool b → a.eval c = .bool b := fun b e => by
        cases c with
        | tmp t =>
          have := ht.val t
          have e' : tv T t = .bool b := e
          rw [e'] at this
          change av a t = .bool b
          exact scalar_eq this rfl
        | const v => exact e
        | global g => cases e
        | func f => cases e
      split at h
      · rename_i e
        exact wp_cond_true (hc _ e) (ih n x T H ex T' H' h ρ a w Q hH hG ht hQ)
      · rename_i e
        exact wp_cond_false (hc _ e) (ih n y T H ex T' H' h ρ a w Q hH hG ht hQ)
      · cases h
    | block id c =>
      simp only [convCode] at h
      rw [exec_block] at h
      cases hr : exec ext D N (convCode P G E n c) T H with
      | none => rw [hr] at h; cases h
      | some q =>
        obtain ⟨e1, T1, H1⟩ := q
        rw [hr] at h
        refine wp_block (ih n c T H e1 T1 H1 hr ρ a w _ hH hG ht fun a' w' ρ' hs ht' hd => ?_)
        cases e1 with
        | norm => cases h; exact hQ a' w' ρ' hs ht' hd
        | ret => cases h; exact hQ a' w' ρ' hs ht' hd
        | exit i =>
          cases h
          have := hQ a' w' ρ' hs ht' hd
          simp only [exOf, Exit.inBlock]
          by_cases e : i = id
          · simp only [e, if_true] at this ⊢; exact this
          · simp only [e, if_false] at this ⊢; exact this
    | loop c =>
      simp only [convCode] at h
      exact wp_loop_rounds (N + 1) (hl n c T H ex T' H' h ρ a w Q hH hG ht hQ)
    | exit id =>
      simp only [convCode] at h
      rw [exec_exit] at h; cases h
      exact wp_exit (hQ a w ρ (.refl hH) ht rfl)
    | ret =>
      simp only [convCode] at h
      rw [exec_ret] at h; cases h
      exact wp_ret (hQ a w ρ (.refl hH) ht rfl)
    | _ => simp only [convCode] at h; rw [exec_fail] at h; cases h

/-- What the plain machine finds of a call, the real one does: whatever the tape and the world behind. -/
theorem calls_of_run (env : Env P G E ext D) {N : Nat} {f : FuncId} {args : List Value} {H H' : Heap} {v : Value} (h : callF ext D N f args H = some (v, H')) {ρ : Inj} {w : World} {args' : Array Value} (hH : HeapRel ρ H w) (hargs : VRL ρ args args'.toList) (hG : Gok ρ G) :
    Answers P f args' w fun v' w' => ∃ ρ', VR ρ' v v' ∧ Sim ρ H w ρ' H' w' := call_ok env (exec_ok env N).1 f args H v H' h ρ w args' hH hargs hG
theorem real_calls (env : Env P G E ext D) {N : Nat} {f : FuncId} (hext : ext f = none) {args : List Value} {H H' : Heap} {v : Value} (h : callF ext D N f args H = some (v, H')) {ρ : Inj} {w : World} {args' : Array Value} (hH : HeapRel ρ H w) (hargs : VRL ρ args args'.toList) (hG : Gok ρ G) :
    Calls P f args' w fun e w' => ∃ v', e = .returned v' ∧ ∃ ρ', VR ρ' v v' ∧ Sim ρ H w ρ' H' w' := by
  rcases callF_some h with ⟨g, hg, _⟩ | ⟨d, ex, T', vs, he, hd, hx, hne, hres, rfl⟩
  · rw [hext] at hg; cases hg
  · obtain ⟨fn, hf, hname, hconv⟩ := env.funcs f d he hd
    unfold convFunc at hconv
    cases hb : fn.body with
    | none => rw [hb] at hconv; cases hconv
    | some c =>
      simp only [hb] at hconv
      cases hrs : fn.results.toList.mapM (convRes P) with
      | none => rw [hrs] at hconv; cases hconv
      | some rs =>
        rw [hrs] at hconv
        simp only [Option.map_some, Option.some.injEq] at hconv
        subst hconv
        refine calls_of_wp hf hb ?_
        refine (exec_ok env N).1 fn.ntmps c _ _ _ _ _ hx ρ _ w _ hH hG (tr_enter hargs fn.ntmps) fun a' w' ρ' hs ht hdf => ?_
        obtain ⟨v', h1, h2⟩ := results_run (P := P) hs.rel ht hrs hres
        cases ex with
        | norm => exact ⟨hdf, v', h2, v', rfl, ρ', h1, hs⟩
        | ret => exact ⟨hdf, v', h2, v', rfl, ρ', h1, hs⟩
        | exit i => exact absurd rfl (hne i)
end
end Go.Det
