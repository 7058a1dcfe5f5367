/-
  The plain machine told so that the kernel reckons it quickly. Fifth part: code and calls.
-/
import Derived.Test.YtjoljcoimoablaaGreatDoorZd28
namespace Go.Det

noncomputable def argsC (xs : List Operand) : Fn (Tmps → List Value) :=
  List.rec (motive := fun _ => Fn (Tmps → List Value)) ⟨fun _ => []⟩ (fun x _ ih => ⟨fun T => evF x T :: ih.run T⟩) xs
theorem argsC_eq (T : Tmps) : ∀ xs : List Operand, (argsC xs).run T = xs.map (ev T) := by
  intro xs
  induction xs with
  | nil => rfl
  | cons x xs ih =>
    change evF x T :: (argsC xs).run T = _
    rw [ih, evF_eq]
    rfl
noncomputable def stepC : DOp → Fn (CallFn → Tmps → Heap → Nat → Option (Value × Heap))
  | .call c args => (match c with
    | .func f => ⟨fun call T H _ => call f ((argsC args).run T) H⟩
    | .value x => ⟨fun call T H _ => (match resolveFn (evF x T) ((argsC args).run T) with
      | some (f, vs) => call f vs H
      | none => none)⟩)
  | op => ⟨fun _ T H id => (opC op).run T H id⟩
theorem stepC_eq (call : CallFn) (op : DOp) (T : Tmps) (H : Heap) (id : Nat) : (stepC op).run call T H id = stepOp call T H id op := by
  cases op
  case call c args =>
    cases c with
    | func f => simp only [stepC, stepOp, argsC_eq]
    | value x => simp only [stepC, stepOp, argsC_eq, evF_eq]; cases resolveFn (ev T x) (args.map (ev T)) <;> rfl
  all_goals (simp only [stepC, stepOp]; exact opF_eq _ _ _ _)

noncomputable def putF (T : Tmps) (dst : Option Tmp) (v : Value) : Tmps := match dst with
  | some d => (setC (road d d)).run v T
  | none => T
theorem putF_eq (T : Tmps) (dst : Option Tmp) (v : Value) : putF T dst v = putT T dst v := by
  cases dst with
  | none => rfl
  | some d => simp only [putF, putT, setC_eq]; rfl
noncomputable def wantedF : Option (Tmp × Bool) → Tmps → Bool
  | none => fun _ => true
  | some (t, b) => fun T => (match (getC (road t t)).run T with
    | some (.bool c) => c == b
    | _ => false)
theorem wantedF_eq (g : Option (Tmp × Bool)) (T : Tmps) : wantedF g T = wantedT T g := by
  cases g with
  | none => rfl
  | some q =>
    obtain ⟨t, b⟩ := q
    simp only [wantedF, wantedT, getC_eq]
    rfl

noncomputable def oneC (o : DOper) : Fn (CallFn → (Tmps → Heap → Option (Tmps × Heap)) → Tmps → Heap → Option (Tmps × Heap)) :=
  match o.guard with
  | none => (match o.dst with
    | some d => ⟨fun call k T H => (match (stepC o.op).run call T H H.next with
      | some (v, H') => k ((setC (road d d)).run v T) H'
      | none => none)⟩
    | none => ⟨fun call k T H => (match (stepC o.op).run call T H H.next with
      | some (_, H') => k T H'
      | none => none)⟩)
  | some g => ⟨fun call k T H => (match wantedF (some g) T with
    | true => (match (stepC o.op).run call T H H.next with
      | some (v, H') => k (putF T o.dst v) H'
      | none => none)
    | false => k (putF T o.dst undef) H)⟩
noncomputable def runOpsC (os : List DOper) : Fn (CallFn → Tmps → Heap → Option (Tmps × Heap)) :=
  List.rec (motive := fun _ => Fn (CallFn → Tmps → Heap → Option (Tmps × Heap))) ⟨fun _ T H => some (T, H)⟩ (fun o _ ih => ⟨fun call T H => (oneC o).run call (ih.run call) T H⟩) os
noncomputable def runOpsF (call : CallFn) (os : List DOper) : Tmps → Heap → Option (Tmps × Heap) := (runOpsC os).run call
theorem oneC_eq (call : CallFn) (o : DOper) (k : Tmps → Heap → Option (Tmps × Heap)) (T : Tmps) (H : Heap) : (oneC o).run call k T H = (match wantedT T o.guard with
    | true => match stepOp call T H H.next o.op with
      | some (v, H') => k (putT T o.dst v) H'
      | none => none
    | false => k (putT T o.dst undef) H) := by
  unfold oneC
  cases hg : o.guard with
  | none =>
    cases hd : o.dst with
    | some d => simp only [stepC_eq, setC_eq]; rfl
    | none => simp only [stepC_eq]; rfl
  | some g => simp only [wantedF_eq, stepC_eq, putF_eq]
theorem runOpsF_eq (call : CallFn) : ∀ (os : List DOper) (T : Tmps) (H : Heap), runOpsF call os T H = runOps call os T H := by
  intro os
  induction os with
  | nil => intro T H; rfl
  | cons o os ih =>
    intro T H
    have e : runOpsF call (o :: os) T H = (oneC o).run call (runOpsF call os) T H := rfl
    rw [e, oneC_eq]
    simp only [runOps]
    cases wantedT T o.guard with
    | true =>
      simp only
      cases stepOp call T H H.next o.op with
      | none => rfl
      | some q => exact ih _ _
    | false => exact ih _ _

noncomputable def againF (H : Heap) (js : List Nat) : Seen → Bool
  | [] => true
  | (j, op, T, v) :: rest => (match js.contains j with
    | false => true
    | true => (match opF op T H 0 with
      | some (u, _) => veqN 60 u v
      | none => false)) && againF H js rest
theorem againF_eq (H : Heap) (js : List Nat) : ∀ s, againF H js s = again H js s := by
  intro s
  induction s with
  | nil => rfl
  | cons x s ih =>
    obtain ⟨j, op, T, v⟩ := x
    simp only [againF, again, ih, opF_eq]
    cases js.contains j
    · simp
    · simp only [Bool.not_true, Bool.false_or]
      cases evalOp (ev T) H 0 op <;> rfl

noncomputable def runDrawF (call : CallFn) (base : Nat) : List (Nat × DOper × List Nat) → Seen → Tmps → Heap → Option (Tmps × Heap)
  | [] => fun _ T H => some (T, H)
  | (i, o, js) :: os => (match o.op.cls with
    | .eff => fun seen T H => (match wantedF o.guard T with
      | true => (match (stepC o.op).run call T H H.next with
        | some (v, H') => (match againF H' js seen with
          | true => runDrawF call base os seen (putF T o.dst v) H'
          | false => none)
        | none => none)
      | false => runDrawF call base os seen (putF T o.dst undef) H)
    | .read => fun seen T H => (match wantedF o.guard T with
      | true => (match opF o.op T H 0 with
        | some (v, _) => runDrawF call base os ((i, o.op, T, v) :: seen) (putF T o.dst v) H
        | none => none)
      | false => runDrawF call base os seen (putF T o.dst undef) H)
    | _ => fun seen T H => (match wantedF o.guard T with
      | true => (match opF o.op T H (base + i) with
        | some (v, H') => runDrawF call base os seen (putF T o.dst v) H'
        | none => none)
      | false => runDrawF call base os seen (putF T o.dst undef) H))
theorem runDrawF_eq (call : CallFn) (base : Nat) : ∀ (os : List (Nat × DOper × List Nat)) (s : Seen) (T : Tmps) (H : Heap), runDrawF call base os s T H = runDraw call base os s T H := by
  intro os
  induction os with
  | nil => intro s T H; rfl
  | cons x os ih =>
    obtain ⟨i, o, js⟩ := x
    intro s T H
    simp only [runDrawF, runDraw]
    cases hc : o.op.cls with
    | eff =>
      simp only [wantedF_eq, stepC_eq, putF_eq, ih, againF_eq]
      cases wantedT T o.guard with
      | false => rfl
      | true =>
        simp only
        cases stepOp call T H H.next o.op with
        | none => rfl
        | some q =>
          obtain ⟨v, H'⟩ := q
          simp only
          cases again H' js s <;> rfl
    | _ =>
      simp only [wantedF_eq, opF_eq, putF_eq, ih]
      cases wantedT T o.guard with
      | false => rfl
      | true => rfl

section
variable (ext : FuncId → Option (List Value → Heap → Option Value)) (D : FuncId → Option DFunc)
noncomputable def resultF (T : Tmps) (H : Heap) : DRes → Option Value
  | .tmp t => some (evF (.tmp t) T)
  | .cell a n => (match evF (.tmp a) T with
    | .pointer (some p) => loadNF H p n
    | _ => none)
noncomputable def resultsF (T : Tmps) (H : Heap) : List DRes → Option (List Value)
  | [] => some []
  | r :: rs => match resultF T H r with
    | some v => (match resultsF T H rs with
      | some vs => some (v :: vs)
      | none => none)
    | none => none
theorem resultsF_eq (T : Tmps) (H : Heap) : ∀ rs, resultsF T H rs = resultsOf T H rs := by
  have one : ∀ r, resultF T H r = resultOf T H r := by
    intro r
    cases r with
    | tmp t => simp only [resultF, resultOf, evF_eq]; rfl
    | cell a n =>
      simp only [resultF, resultOf, evF_eq, loadNF_eq, ev]
      cases T.get a with
      | none => rfl
      | some v => cases v <;> first | rfl | (rename_i p; cases p <;> rfl)
  intro rs
  induction rs with
  | nil => rfl
  | cons r rs ih =>
    simp only [resultsF, resultsOf, one, ih]
    cases resultOf T H r with
    | none => rfl
    | some v => cases resultsOf T H rs <;> rfl

noncomputable def bodyF (run : DCode → Tmps → Heap → Option (Ex × Tmps × Heap)) : CallFn := fun f args H =>
  match ext f with
  | some g => (match g args H with
    | some v => some (v, H)
    | none => none)
  | none => (match D f with
    | some d => (match run d.body (ofListF args) H with
      | some (e, T', H') => (match e with
        | .exit _ => none
        | _ => (match resultsF T' H' d.results with
          | some vs => some (tupled vs, H')
          | none => none))
      | none => none)
    | none => none)
noncomputable def codeC : DCode → Fn ((DCode → Tmps → Heap → Option (Ex × Tmps × Heap)) → Tmps → Heap → Option (Ex × Tmps × Heap))
  | .fail => ⟨fun _ _ _ => none⟩
  | .skip => ⟨fun _ T H => some (.norm, T, H)⟩
  | .ops os => ⟨fun run T H => (match (runOpsC os).run (bodyF ext D run) T H with
    | some (T', H') => some (.norm, T', H')
    | none => none)⟩
  | .draw m ord => ⟨fun run T H => (match runDrawF (bodyF ext D run) H.next ord [] T { H with next := Nat.add H.next m } with
    | some (T', H') => some (.norm, T', H')
    | none => none)⟩
  | .seq a b => ⟨fun run T H => (match run a T H with
    | some (e, T', H') => (match e with
      | .norm => run b T' H'
      | e => some (e, T', H'))
    | none => none)⟩
  | .cond c a b => ⟨fun run T H => (match evF c T with
    | .bool t => (match t with
      | true => run a T H
      | false => run b T H)
    | _ => none)⟩
  | .block id c => ⟨fun run T H => (match run c T H with
    | some (e, T', H') => (match e with
      | .exit i => (match Nat.beq i id with
        | true => some (.norm, T', H')
        | false => some (.exit i, T', H'))
      | e => some (e, T', H'))
    | none => none)⟩
  | .loop c => ⟨fun run T H => (match run c T H with
    | some (e, T', H') => (match e with
      | .norm => run (.loop c) T' H'
      | e => some (e, T', H'))
    | none => none)⟩
  | .exit id => ⟨fun _ T H => some (.exit id, T, H)⟩
  | .ret => ⟨fun _ T H => some (.ret, T, H)⟩
noncomputable def codeF (run : DCode → Tmps → Heap → Option (Ex × Tmps × Heap)) (c : DCode) : Tmps → Heap → Option (Ex × Tmps × Heap) := (codeC ext D c).run run
noncomputable def execF (n : Nat) : DCode → Tmps → Heap → Option (Ex × Tmps × Heap) :=
  Nat.rec (motive := fun _ => DCode → Tmps → Heap → Option (Ex × Tmps × Heap)) (fun _ _ _ => none) (fun _ ih c => (codeC ext D c).run ih) n
noncomputable def callFF (n : Nat) : CallFn := bodyF ext D (execF ext D n)

theorem bodyF_eq (n : Nat) : bodyF ext D (exec ext D n) = callF ext D n := by
  funext f args H
  unfold bodyF callF
  cases ext f with
  | some g => simp only; cases g args H <;> rfl
  | none =>
    simp only
    cases D f with
    | none => rfl
    | some d =>
      simp only [ofListF_eq, resultsF_eq]
      cases exec ext D n d.body (PM.ofList args) H with
      | none => rfl
      | some q =>
        obtain ⟨e, T', H'⟩ := q
        cases e <;> rfl
theorem codeF_eq (n : Nat) (c : DCode) (T : Tmps) (H : Heap) : codeF ext D (exec ext D n) c T H = exec ext D (n + 1) c T H := by
  cases c with
  | fail => rfl
  | skip => rfl
  | ops os =>
    rw [exec_ops]
    simp only [codeF, codeC, bodyF_eq]
    change (match runOpsF (callF ext D n) os T H with
      | some (T', H') => some (Ex.norm, T', H')
      | none => none) = _
    rw [runOpsF_eq]
    cases runOps (callF ext D n) os T H <;> rfl
  | draw m ord =>
    rw [exec_draw]
    simp only [codeF, codeC, bodyF_eq, runDrawF_eq]
    change (match runDraw (callF ext D n) H.next ord [] T { H with next := H.next + m } with
      | some (T', H') => some (Ex.norm, T', H')
      | none => none) = _
    cases runDraw (callF ext D n) H.next ord [] T { H with next := H.next + m } <;> rfl
  | seq a b =>
    rw [exec_seq]
    simp only [codeF, codeC]
    cases exec ext D n a T H with
    | none => rfl
    | some q => obtain ⟨e, T', H'⟩ := q; cases e <;> rfl
  | cond c a b =>
    rw [exec_cond]
    simp only [codeF, codeC, evF_eq]
    cases ev T c <;> first | rfl | (rename_i t; cases t <;> rfl)
  | block id c =>
    rw [exec_block]
    simp only [codeF, codeC]
    cases exec ext D n c T H with
    | none => rfl
    | some q =>
      obtain ⟨e, T', H'⟩ := q
      cases e with
      | exit i =>
        simp only
        have e : Nat.beq i id = decide (i = id) := by rw [Bool.eq_iff_iff, Nat.beq_eq]; simp
        rw [e]
        by_cases h : i = id <;> simp [h]
      | _ => rfl
  | loop c =>
    rw [exec_loop]
    simp only [codeF, codeC]
    cases exec ext D n c T H with
    | none => rfl
    | some q => obtain ⟨e, T', H'⟩ := q; cases e <;> rfl
  | exit id => rfl
  | ret => rfl
theorem execF_eq : ∀ (n : Nat), execF ext D n = exec ext D n := by
  intro n
  induction n with
  | zero => funext c T H; rw [exec_zero]; rfl
  | succ n ih =>
    funext c T H
    have e : execF ext D (n + 1) c T H = codeF ext D (execF ext D n) c T H := rfl
    rw [e, ih, codeF_eq]
theorem callFF_eq (n : Nat) : callFF ext D n = callF ext D n := by
  unfold callFF
  rw [execF_eq, bodyF_eq]
end
end Go.Det
