/-
  One step and a region in order: the plain machine and the real one.
-/
import Derived.Test.YtjoljcoimoablaaGreatDoorZd18
namespace Go.Det
variable {ρ : Inj} {H : Heap} {w : World}

/-! ### What is known of the frame -/
/-- The variables that may be touched lie in blocks of their own numbers. -/
def Gok (ρ : Inj) (G : Nat → Bool) : Prop := ∀ g, G g = true → ∃ I, ρ.b g = some I ∧ I.r = g ∧ I.o = 0
theorem Gok.mono {ρ ρ' : Inj} {G : Nat → Bool} (h : Gok ρ G) (hl : ρ.le ρ') : Gok ρ' G := fun g hg => let ⟨I, h1, h2⟩ := h g hg; ⟨I, hl.1 _ _ h1, h2⟩

def tv (T : Tmps) (t : Tmp) : Value := (T.get t).getD undef
def av (a : Act) (t : Tmp) : Value := a.tmps.getD t undef

structure TR (ρ : Inj) (n : Nat) (T : Tmps) (a : Act) : Prop where
  size : n ≤ a.tmps.size
  val : ∀ t, VR ρ (tv T t) (av a t)
theorem TR.mono {ρ ρ' : Inj} {n : Nat} {T : Tmps} {a : Act} (h : TR ρ n T a) (hl : ρ.le ρ') : TR ρ' n T a := ⟨h.size, fun t => (h.val t).mono hl⟩

theorem av_put (a : Act) (dst : Option Tmp) (v : Value) (t : Tmp) (hd : ∀ d, dst = some d → d < a.tmps.size) : av (a.put dst v) t = if dst = some t then v else av a t := by
  cases dst with
  | none => simp [Act.put]
  | some d =>
    have := hd d rfl
    simp only [Act.put, av, Option.some.injEq]
    by_cases e : d = t
    · subst e; simp [Array.getD_eq_getD_getElem?, this]
    · simp [Array.getD_eq_getD_getElem?, e]
theorem tv_put (T : Tmps) (dst : Option Tmp) (v : Value) (t : Tmp) : tv (putT T dst v) t = if dst = some t then v else tv T t := by
  cases dst with
  | none => simp [putT]
  | some d =>
    simp only [putT, tv, PM.get_set, Option.some.injEq]
    split <;> simp
theorem put_size (a : Act) (dst : Option Tmp) (v : Value) : (a.put dst v).tmps.size = a.tmps.size := by
  cases dst <;> simp [Act.put]
theorem put_defers (a : Act) (dst : Option Tmp) (v : Value) : (a.put dst v).defers = a.defers := by
  cases dst <;> simp [Act.put]

theorem TR.put {n : Nat} {T : Tmps} {a : Act} (h : TR ρ n T a) {dst : Option Tmp} (hd : ∀ d, dst = some d → d < n) {v v' : Value} (hv : VR ρ v v') : TR ρ n (putT T dst v) (a.put dst v') := by
  refine ⟨by rw [put_size]; exact h.size, fun t => ?_⟩
  rw [av_put _ _ _ _ (fun d e => Nat.lt_of_lt_of_le (hd d e) h.size), tv_put]
  split
  · exact hv
  · exact h.val t

/-- An operand, where the temporaries that it looks at fit. -/
theorem operand_vr {G : Nat → Bool} {T : Tmps} {a : Act} (hG : Gok ρ G) {x : Operand} (hx : operandOk G x = true) (ht : ∀ t, x = .tmp t → VR ρ (tv T t) (av a t)) : VR ρ (ev T x) (a.eval x) := by
  cases x with
  | tmp t => exact ht t rfl
  | const v => exact plain_vr ρ 30 v hx
  | global g =>
    obtain ⟨I, h1, h2, h3⟩ := hG g hx
    refine .ptr ⟨rfl, I, h1, ?_⟩
    simp [h2, h3]
  | func f => exact .func _ rfl (fun i u u' e _ => by simp at e) rfl (fun i u u' e _ => by simp at e)

theorem wanted_eq {ops : Array Oper} {o : Oper} {T : Tmps} {a : Act} {g : Option (Tmp × Bool)} (hg : convGuard ops o = some g) (ht : ∀ t b, g = some (t, b) → VR ρ (tv T t) (av a t)) :
    Region.wanted o (yielded ops a.tmps) = wantedT T g := by
  unfold convGuard at hg
  unfold Region.wanted
  cases hgo : o.guard with
  | none => rw [hgo] at hg; cases hg; rfl
  | some jw =>
    obtain ⟨j, want⟩ := jw
    simp only [hgo] at hg
    cases hb : (ops[j]?).bind (·.dst) with
    | none => rw [hb] at hg; cases hg
    | some t =>
      rw [hb] at hg
      cases hg
      have hv := ht t want rfl
      simp only [wantedT, yielded, hb, Option.bind_some]
      simp only [tv, av] at hv
      cases hT : T.get t with
      | none =>
        rw [hT] at hv
        simp only [Option.getD_none] at hv
        cases ha : a.tmps[t]? with
        | none => rfl
        | some u =>
          have : a.tmps.getD t undef = u := by simp [Array.getD_eq_getD_getElem?, ha]
          rw [this] at hv
          unfold undef at hv
          cases hv
          rfl
      | some u =>
        rw [hT] at hv
        simp only [Option.getD_some] at hv
        cases ha : a.tmps[t]? with
        | none =>
          have e : a.tmps.getD t undef = undef := by simp [Array.getD_eq_getD_getElem?, ha]
          rw [e] at hv
          unfold undef at hv
          cases hv
          rfl
        | some u' =>
          have e : a.tmps.getD t undef = u' := by simp [Array.getD_eq_getD_getElem?, ha]
          rw [e] at hv
          cases hv <;> first | rfl | (simp only; cases want <;> (rename_i bb; cases bb <;> rfl))

/-! ### One step -/
/-- A call of a function answers so (one entered, or one without a body). -/
def Answers (P : Program) (f : FuncId) (args : Array Value) (w : World) (R : Value → World → Prop) : Prop :=
  ∀ (o : Oper) (a : Act) (K : Act → World → Prop) (Q : Exit → Act → World → Prop), (∀ v w', R v w' → K (a.put o.dst v) w') → o.upon P a K Q ((callFunc f args).run P w)

theorem Answers.of_calls {P : Program} {f : FuncId} {fn : Func} {args : Array Value} {R : Value → World → Prop} (hf : P.funcs[f]? = some fn) (hb : fn.body.isSome = true) (hn : (fn.name == "runtime.NumGoroutine") = false)
    (h : Calls P f args w (fun e w' => ∃ v, e = .returned v ∧ R v w')) : Answers P f args w R := by
  intro o a K Q hK
  have hr : (callFunc f args).run P w = .ok (.enter f args) w := by
    have hb' : fn.body ≠ none := by intro e; simp [e] at hb
    have hn' : fn.name ≠ "runtime.NumGoroutine" := by simpa using hn
    simp [callFunc, hf, hn', hb']
  rw [hr, Oper.upon_enter]
  refine h.mono fun e w' he => ?_
  obtain ⟨v, rfl, hR⟩ := he
  exact hK v w' hR

def CallOK (P : Program) (G : Nat → Bool) (call : CallFn) : Prop :=
  ∀ f args H v H', call f args H = some (v, H') → ∀ ρ w (args' : Array Value), HeapRel ρ H w → VRL ρ args args'.toList → Gok ρ G →
    Answers P f args' w fun v' w' => ∃ ρ', VR ρ' v v' ∧ Sim ρ H w ρ' H' w'

theorem stepOp_eq {call : CallFn} {T : Tmps} {H : Heap} {id : Nat} {op : DOp} (h : isCall op = false) : stepOp call T H id op = evalOp (ev T) H id op := by
  cases op <;> first | rfl | (simp [isCall] at h; done)

theorem convOp_call {P : Program} {E : List TypeId} {o : Op} (h : isCall (convOp P E o) = true) : ∃ c f, o = .call c ∧ c.callee = .value f ∧ convOp P E o = .call (match f with | .func g => .func g | x => .value x) c.args.toList := by
  cases o <;> simp only [convOp, convBin, convConv] at h
  case call c =>
    obtain ⟨callee, args, argTypes⟩ := c
    cases callee with
    | value f =>
      refine ⟨_, f, rfl, rfl, ?_⟩
      cases f <;> rfl
    | invoke r m => simp [convCall, isCall] at h
    | builtin b =>
      exfalso
      cases b <;> simp only [convCall] at h <;> (repeat' split at h) <;> simp [isCall] at h
  all_goals (exfalso; (repeat' split at h) <;> first | (simp [isCall] at h; done) | (rename_i e; cases e))

theorem upon_yields {P : Program} {o : Oper} {ev' : Operand → Value} {v' : Value} {w' : World} (h : Yields P o ev' w v' w') {a : Act} {K : Act → World → Prop} {Q : Exit → Act → World → Prop} (hK : K (a.put o.dst v') w') :
    o.upon P a K Q ((execOp ev' o).run P w) := by
  rcases h with h | ⟨h, rfl⟩
  · rw [h]; exact hK
  · rw [h]; exact hK

theorem step_wp {P : Program} {G : Nat → Bool} {E : List TypeId} {call : CallFn} {o : Oper} {T : Tmps} {a : Act} {v : Value} {H' : Heap} (hH : HeapRel ρ H w) (hE : EqTypes P E) (hC : CallOK P G call) (hG : Gok ρ G)
    (hev : ∀ x ∈ o.op.operands, VR ρ (ev T x) (a.eval x)) (h : stepOp call T H H.next (convOp P E o.op) = some (v, H')) {K : Act → World → Prop} {Q : Exit → Act → World → Prop}
    (hK : ∀ v' w' ρ', VR ρ' v v' → Sim ρ H w ρ' H' w' → K (a.put o.dst v') w') : o.wp P a w K Q := by
  unfold Oper.wp
  cases hc : isCall (convOp P E o.op) with
  | false =>
    rw [stepOp_eq hc] at h
    have hn1 : H.blk.get H.next = none := by
      cases e : H.blk.get H.next with
      | none => rfl
      | some B => exact absurd (hH.lt _ _ e) (Nat.lt_irrefl _)
    have hn2 : H.mp.get H.next = none := by
      cases e : H.mp.get H.next with
      | none => rfl
      | some B => exact absurd (hH.mlt _ _ e) (Nat.lt_irrefl _)
    obtain ⟨v', w', ρ', hy, hv, hs⟩ := op_sim hH hE hn1 hn2 hev h
    exact upon_yields hy (hK v' w' ρ' hv hs)
  | true =>
    obtain ⟨c, f, ho, hcal, hconv⟩ := convOp_call hc
    rw [hconv] at h
    have hargs : VRL ρ (c.args.toList.map (ev T)) (c.args.map a.eval).toList := by
      rw [Array.toList_map]
      exact VRL.map _ _ _ fun x hx => hev x (by rw [ho]; simp [Op.operands, Call.operands, hcal]; exact .inr (by simpa using hx))
    have hfv : VR ρ (ev T f) (a.eval f) := hev f (by rw [ho]; simp [Op.operands, Call.operands, hcal])
    have main : ∀ g vs (args' : Array Value), call g vs H = some (v, H') → VRL ρ vs args'.toList → o.upon P a K Q ((callFunc g args').run P w) := fun g vs args' hcl hv =>
      hC g vs H v H' hcl ρ w args' hH hv hG o a K Q fun v' w' ⟨ρ', h1, h2⟩ => hK v' w' ρ' h1 h2
    have val : ∀ x, stepOp call T H H.next (.call (.value x) c.args.toList) = some (v, H') → VR ρ (ev T x) (a.eval f) → o.upon P a K Q ((execOp a.eval o).run P w) := fun x h hx => by
      simp only [stepOp] at h
      cases hr : resolveFn (ev T x) (c.args.toList.map (ev T)) with
      | none => rw [hr] at h; cases h
      | some q =>
        obtain ⟨g, vs⟩ := q
        rw [hr] at h
        simp only at h
        unfold resolveFn at hr
        split at hr
        · rename_i g' first captured e
          cases hr
          rw [e] at hx
          generalize he' : a.eval f = fv at hx
          cases hx with
          | func _ h1 h2 h3 h4 =>
            rename_i ys vs
            have hrun : (execOp a.eval o).run P w = (callFunc g (ys ++ c.args.map a.eval ++ vs)).run P w := by
              simp [execOp, ho, resolve, hcal, he', Deferred.ofValue, invoke]
            rw [hrun]
            refine main g _ _ h ?_
            simp only [Array.toList_append]
            exact ((VRL.of_arr h1 h2).append hargs).append (VRL.of_arr h3 h4)
        · cases hr
    cases f with
    | func g =>
      simp only [stepOp] at h
      have hrun : (execOp a.eval o).run P w = (callFunc g (c.args.map a.eval)).run P w := by
        simp [execOp, ho, resolve, hcal, Act.eval, Deferred.ofValue, invoke]
      rw [hrun]
      exact main g _ _ h hargs
    | tmp t => exact val (.tmp t) h hfv
    | const u => exact val (.const u) h hfv
    | global g => exact val (.global g) h hfv

/-! ### A region in order -/
theorem convOper_some {P : Program} {G : Nat → Bool} {E : List TypeId} {n : Nat} {ops : Array Oper} {o : Oper} {d : DOper} (h : convOper P G E n ops o = some d) :
    d.dst = o.dst ∧ d.op = convOp P E o.op ∧ convGuard ops o = some d.guard ∧ (∀ t, o.dst = some t → t < n) ∧ ∀ x ∈ o.op.operands, operandOk G x = true := by
  unfold convOper at h
  split at h
  · rename_i g h1 h2
    cases h
    unfold operandsOk at h1
    simp only [Bool.and_eq_true] at h1
    refine ⟨rfl, rfl, h2, fun t e => ?_, fun x hx => ?_⟩
    · have := h1.1
      simpa [e] using this
    · exact List.all_eq_true.1 h1.2 x (by simpa using hx)
  · cases h

theorem mapM_cons_some {α β : Type} {f : α → Option β} {x : α} {xs : List α} {l : List β} (h : (x :: xs).mapM f = some l) : ∃ y ys, f x = some y ∧ xs.mapM f = some ys ∧ l = y :: ys := by
  rw [List.mapM_cons] at h
  cases hx : f x with
  | none => simp [hx] at h
  | some y =>
    cases hs : xs.mapM f with
    | none => simp [hx, hs] at h
    | some ys => simp [hx, hs] at h; exact ⟨y, ys, rfl, rfl, h.symm⟩

theorem runOps_wp {P : Program} {G : Nat → Bool} {E : List TypeId} {call : CallFn} {n : Nat} {ops : Array Oper} (hE : EqTypes P E) (hC : CallOK P G call) {Q : Exit → Act → World → Prop} {a₀ : Act} {ρ₀ : Inj} {H₀ : Heap} {w₀ : World} {T' : Tmps} {H' : Heap} (hG : Gok ρ₀ G)
    (hQ : ∀ a' w' ρ', Sim ρ₀ H₀ w₀ ρ' H' w' → TR ρ' n T' a' → a'.defers = a₀.defers → Q .normal a' w') :
    ∀ (m k : Nat) (os : List DOper) (T : Tmps) (H : Heap) (ρ : Inj) (a : Act) (w : World), k + m = ops.size → (ops.toList.drop k).mapM (convOper P G E n ops) = some os → runOps call os T H = some (T', H') →
      Sim ρ₀ H₀ w₀ ρ H w → TR ρ n T a → a.defers = a₀.defers → wpOps P ops Q (List.range' k m) a w := by
  intro m
  induction m with
  | zero =>
    intro k os T H ρ a w hk hos hr hs ht hd
    have : ops.toList.drop k = [] := List.drop_eq_nil_of_le (by simp; omega)
    rw [this] at hos
    simp at hos
    subst hos
    simp only [runOps, Option.some.injEq, Prod.mk.injEq] at hr
    obtain ⟨rfl, rfl⟩ := hr
    exact hQ a w ρ hs ht hd
  | succ m ih =>
    intro k os T H ρ a w hk hos hr hs ht hd
    have hlt : k < ops.toList.length := by simp; omega
    rw [List.drop_eq_getElem_cons hlt] at hos
    obtain ⟨d, ds, h1, h2, rfl⟩ := mapM_cons_some hos
    obtain ⟨c1, c2, c3, c4, c5⟩ := convOper_some h1
    have hok : ops[k]? = some ops.toList[k] := by
      rw [← Array.getElem?_toList, List.getElem?_eq_getElem hlt]
    rw [List.range'_succ]
    simp only [wpOps, hok]
    have hw := wanted_eq (ρ := ρ) (T := T) (a := a) c3 (fun t b _ => ht.val t)
    rw [hw]
    simp only [runOps] at hr
    have hev : ∀ x ∈ ops.toList[k].op.operands, VR ρ (ev T x) (a.eval x) := fun x hx => operand_vr (hG.mono hs.le) (c5 x hx) fun t _ => ht.val t
    cases hwt : wantedT T d.guard with
    | true =>
      simp only [hwt] at hr
      simp only [if_true]
      left
      rw [c2] at hr
      cases hst : stepOp call T H H.next (convOp P E ops.toList[k].op) with
      | none => rw [hst] at hr; cases hr
      | some q =>
        obtain ⟨v, H1⟩ := q
        rw [hst] at hr
        simp only at hr
        refine step_wp hs.rel hE hC (hG.mono hs.le) hev hst fun v' w' ρ' hv hsim => ?_
        refine ih (k + 1) ds _ _ ρ' _ w' (by omega) h2 hr (hs.trans hsim) ?_ (by rw [put_defers]; exact hd)
        rw [c1]
        exact (ht.mono hsim.le).put c4 hv
    | false =>
      simp only [hwt] at hr
      simp only [Bool.false_eq_true, if_false]
      refine ih (k + 1) ds _ _ ρ _ w (by omega) h2 hr hs ?_ (by rw [put_defers]; exact hd)
      rw [c1]
      exact ht.put c4 vr_undef
end Go.Det
