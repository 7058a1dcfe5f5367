/-
  The plain machine told so that the kernel reckons it quickly. Fourth part: all operations.
-/
import Derived.Test.YtjoljcoimoablaaGreatDoorZd27
namespace Go.Det

noncomputable def getC {α : Type} (p : List Bool) : Fn (PM α → Option α) :=
  List.rec (motive := fun _ => Fn (PM α → Option α)) ⟨fun t => PM.rec (motive := fun _ => Option α) none (fun v _ _ _ _ => v) t⟩
    (fun b _ ih => Bool.rec (motive := fun _ => Fn (PM α → Option α)) ⟨fun t => PM.rec (motive := fun _ => Option α) none (fun _ _ r _ _ => ih.run r) t⟩ ⟨fun t => PM.rec (motive := fun _ => Option α) none (fun _ l _ _ _ => ih.run l) t⟩ b) p
noncomputable def setC {α : Type} (p : List Bool) : Fn (α → PM α → PM α) :=
  List.rec (motive := fun _ => Fn (α → PM α → PM α)) ⟨fun x t => PM.rec (motive := fun _ => PM α) (.node (some x) .nil .nil) (fun _ l r _ _ => .node (some x) l r) t⟩
    (fun b _ ih => Bool.rec (motive := fun _ => Fn (α → PM α → PM α))
      ⟨fun x t => PM.rec (motive := fun _ => PM α) (.node none .nil (ih.run x .nil)) (fun v l r _ _ => .node v l (ih.run x r)) t⟩
      ⟨fun x t => PM.rec (motive := fun _ => PM α) (.node none (ih.run x .nil) .nil) (fun v l r _ _ => .node v (ih.run x l) r) t⟩ b) p
theorem getC_eq {α : Type} : ∀ (p : List Bool) (t : PM α), (getC p).run t = t.getP p := by
  intro p
  induction p with
  | nil => intro t; cases t <;> rfl
  | cons b p ih =>
    intro t
    cases b <;> cases t <;> first | rfl | exact ih _
theorem setC_eq {α : Type} (x : α) : ∀ (p : List Bool) (t : PM α), (setC p).run x t = PM.setP p x t := by
  intro p
  induction p with
  | nil => intro t; cases t <;> rfl
  | cons b p ih =>
    intro t
    cases b <;> cases t <;> simp only [PM.setP, ← ih] <;> rfl
noncomputable def evC : Operand → Fn (Tmps → Value)
  | .tmp t => ⟨fun T => (match (getC (road t t)).run T with
    | some v => v
    | none => undef)⟩
  | .const v => ⟨fun _ => v⟩
  | .global g => ⟨fun _ => .pointer (some ⟨g, 0, none⟩)⟩
  | .func f => ⟨fun _ => .func (.func f) #[] #[]⟩
noncomputable def evF (x : Operand) (T : Tmps) : Value := (evC x).run T
theorem evF_eq (x : Operand) (T : Tmps) : evF x T = ev T x := by
  cases x <;> first | rfl | skip
  rename_i t
  simp only [evF, evC, ev, getC_eq]
  change _ = (T.getP (road t t)).getD undef
  cases T.getP (road t t) <;> rfl
theorem evF_fun (T : Tmps) : (fun x => evF x T) = ev T := funext fun x => evF_eq x T

theorem idx_lem {α : Type} (v : Value) (len : Nat) (f : Nat → Option α) : (match intOf? v with
    | some j => if 0 ≤ j ∧ j < (len : Int) then f j.toNat else none
    | none => none) = (match idxF v len with
    | some m => f m
    | none => none) := by
  cases h : idxF v len with
  | some m =>
    obtain ⟨h1, h2⟩ := idxF_some.1 h
    rw [h1]
    have : (0 : Int) ≤ Int.ofNat m ∧ Int.ofNat m < (len : Int) := ⟨Int.natCast_nonneg m, by simp; exact h2⟩
    simp only [this, and_self, if_true]
    rfl
  | none =>
    cases h1 : intOf? v with
    | none => rfl
    | some j =>
      simp only
      rw [if_neg]
      rintro ⟨h2, h3⟩
      have : idxF v len = some j.toNat := idxF_some.2 ⟨by rw [h1]; congr 1; exact (Int.toNat_of_nonneg h2).symm, by omega⟩
      rw [h] at this; cases this

noncomputable def appendF (H : Heap) (id esz bytes : Nat) (s x : Value) : Option (Value × Heap) :=
  match s with
  | .slice base len cap => (match sliceLen x with
    | some n => (match elemsF H esz n x with
      | none => none
      | some new =>
        if n = 0 then (if len ≤ cap then some (s, H) else none) else
        if (len + n) * bytes ≤ 2 ^ 46 ∧ len + n ≤ 2 ^ 40 ∧ 0 < esz ∧ lenF new = n * esz ∧ new.all cellOk = true then
        (match base with
        | none => if cap = 0 ∧ len = 0 then some (.slice (some ⟨id, 0, none⟩) (len + n) (len + n), makeF H id (mkBlkF .row esz new)) else none
        | some a =>
          match a.spot, elemsF H esz len (.slice base len cap), getF H.blk a.block with
          | none, some old, some b =>
            if lenF old ≠ len * esz then none else
            (match b.kind with
            | .box => if len + n ≤ cap then none else some (.slice (some ⟨id, 0, none⟩) (len + n) (len + n), makeF H id (mkBlkF .row esz (appF old new)))
            | _ =>
              if b.esz = esz then
                if b.kind = .arr ∧ cap < len + n ∨ b.kind = .row ∧ a.off + cap * esz < b.size ∧ cap < len + n then some (.slice (some ⟨id, 0, none⟩) (len + n) (len + n), makeF H id (mkBlkF .row esz (appF old new)))
                else if b.ro = false ∧ b.ext = true ∧ (b.kind = .arr ∨ len = cap ∧ b.size ≤ a.off + len * esz) ∧ a.off + len * esz ≤ b.size then
                  some (.slice (some ⟨id, 0, none⟩) (len + n) (len + n), makeF { H with blk := setF { b with size := a.off + len * esz, ext := false } H.blk a.block } id { mkBlkF .row esz (appF old new) with anc := a.block :: b.anc })
                else none
              else none)
          | _, _, _ => none)
        else none)
    | none => none)
  | _ => none
theorem appendF_eq (H : Heap) (id esz bytes : Nat) (s x : Value) : appendF H id esz bytes s x = H.append id esz bytes s x := by
  unfold appendF Heap.append
  cases s <;> first | rfl | skip
  rename_i base len cap
  cases sliceLen x with
  | none => rfl
  | some n =>
    simp only [elemsF_eq, lenF_eq, makeF_eq, mkBlkF_eq, getF_eq, setF_eq, appF_eq]
    cases H.elems esz n x with
    | none => rfl
    | some new =>
      simp only
      split
      · rfl
      · split
        · cases base with
          | none => rfl
          | some a => rfl
        · rfl

noncomputable def opC : DOp → Fn (Tmps → Heap → Nat → Option (Value × Heap))
  | .fail => ⟨fun _ _ _ => none⟩
  | .move x => ⟨fun T H _ => some (evF x T, H)⟩
  | .pick c a b => ⟨fun T H _ => (match evF c T with
    | .bool t => (match t with
      | true => some (evF a T, H)
      | false => some (evF b T, H))
    | _ => none)⟩
  | .new cells => (match cells.all cellOk with
    | true => ⟨fun _ H id => some (ptr id, makeF H id (mkBlkF .box 0 cells))⟩
    | false => ⟨fun _ _ _ => none⟩)
  | .box x => ⟨fun T H id => (match (evF x T).cells.toList.all cellOk with
    | true => some (ptr id, makeF H id (mkBlkF .box 0 (evF x T).cells.toList))
    | false => none)⟩
  | .load n a => ⟨fun T H _ => (match evF a T with
    | .pointer (some p) => (match loadNF H p n with
      | some v => some (v, H)
      | none => none)
    | _ => none)⟩
  | .store n a v => ⟨fun T H _ => (match evF a T with
    | .pointer (some p) => (match Nat.beq (lenF (evF v T).cells.toList) n with
      | true => (match writeF H p (evF v T).cells.toList with
        | some H' => some (undef, H')
        | none => none)
      | false => none)
    | _ => none)⟩
  | .nilCheck x => ⟨fun T H _ => (match evF x T with
    | .pointer (some p) => some (.pointer (some p), H)
    | .func (.func f) a b => some (.func (.func f) a b, H)
    | _ => none)⟩
  | .bin op t x y => ⟨fun T H _ => (match (binC op t).run (evF x T) (evF y T) with
    | some u => some (u, H)
    | none => none)⟩
  | .convInt k x => ⟨fun T H _ => (match evF x T with
    | .int _ n => some (.int k (wrapF k n), H)
    | _ => none)⟩
  | .strStr x => ⟨fun T H _ => (match evF x T with
    | .string s => some (.string s, H)
    | _ => none)⟩
  | .iface t x => ⟨fun T H _ => some (.iface t (evF x T), H)⟩
  | .sliceStr x lo hi => ⟨fun T H _ => (match evF x T with
    | .string s => (match boundsF (sizeF s) (sizeF s) (lo.map fun z => evF z T) (hi.map fun z => evF z T) with
      | some (l, h) => some (.string (extractF s l h), H)
      | none => none)
    | _ => none)⟩
  | .sliceSl esz x lo hi => ⟨fun T H _ => (match evF x T with
    | .slice none n c => if n = 0 ∧ c = 0 then (match boundsF 0 0 (lo.map fun z => evF z T) (hi.map fun z => evF z T) with
      | some _ => some (.slice none 0 0, H)
      | none => none) else none
    | .slice (some a) len cap => (match boundsF len cap (lo.map fun z => evF z T) (hi.map fun z => evF z T) with
      | some (l, h) => if l = cap then some (.slice (some voidA) 0 0, H) else (match a.spot, getF H.blk a.block with
        | none, some b => if b.kind = .box ∨ b.esz = esz then some (.slice (some (addA a (l * esz))) (h - l) (cap - l), H) else none
        | _, _ => none)
      | none => none)
    | _ => none)⟩
  | .fieldAddr off x => ⟨fun T H _ => (match evF x T with
    | .pointer (some a) => some (.pointer (some ⟨a.block, Nat.add a.off off, a.spot⟩), H)
    | _ => none)⟩
  | .field off n x => ⟨fun T H _ => (match evF x T with
    | .agg cs => (match n with
      | none => (match nthF cs.toList off with
        | some v => some (v, H)
        | none => none)
      | some k => (match Nat.ble (Nat.add off k) (lenF cs.toList) with
        | true => some (.agg (takeF k (dropF off cs.toList)).toArray, H)
        | false => none))
    | _ => none)⟩
  | .idxArr len esz x i => ⟨fun T H _ => (match evF x T with
    | .pointer (some a) => (match idxF (evF i T) len with
      | some m => some (.pointer (some ⟨a.block, Nat.add a.off (Nat.mul m esz), a.spot⟩), H)
      | none => none)
    | _ => none)⟩
  | .idxSl esz x i => ⟨fun T H _ => (match evF x T with
    | .slice (some a) len _ => (match idxF (evF i T) len with
      | some m => some (.pointer (some ⟨a.block, Nat.add a.off (Nat.mul m esz), a.spot⟩), H)
      | none => none)
    | _ => none)⟩
  | .indexStr x i => ⟨fun T H _ => (match evF x T with
    | .string s => (match evF i T with
      | .int _ j => (match j with
        | .ofNat m => (match nthF (strList s) m with
          | some b => some (.int .u8 (Int.ofNat b.toNat), H)
          | none => none)
        | .negSucc _ => none)
      | _ => none)
    | _ => none)⟩
  | .extract i x => ⟨fun T H _ => (match evF x T with
    | .tuple vs => (match nthF vs.toList i with
      | some v => some (v, H)
      | none => none)
    | _ => none)⟩
  | .lenOf str x => (match str with
    | true => ⟨fun T H _ => (match evF x T with
      | .string s => some (.int .i64 (Int.ofNat (sizeF s)), H)
      | _ => none)⟩
    | false => ⟨fun T H _ => (match evF x T with
      | .slice _ n _ => some (.int .i64 (Int.ofNat n), H)
      | _ => none)⟩)
  | .build zero parts => ⟨fun T H _ => (match lay (fun z => evF z T) zero parts with
    | some cs => some (.agg cs.toArray, H)
    | none => none)⟩
  | .buildSlice len esz zero parts => ⟨fun T H id => (match lay (fun z => evF z T) (zeros zero len) parts with
    | some cs => (match cs.all cellOk && Nat.beq (Nat.mul len esz) (lenF cs) with
      | true => some (.slice (some ⟨id, 0, none⟩) len len, makeF H id (mkBlkF .row esz cs))
      | false => none)
    | none => none)⟩
  | .bytesToStr x => ⟨fun T H _ => (match evF x T with
    | .slice none _ _ => some (.string .empty, H)
    | .slice (some a) len _ => (match elemsF H 1 len (.slice (some a) len len) with
      | some cs => (match bytesString cs with
        | some l => some (.string ⟨l.toArray⟩, H)
        | none => none)
      | none => none)
    | _ => none)⟩
  | .append esz bytes s x => ⟨fun T H id => appendF H id esz bytes (evF s T) (evF x T)⟩
  | op => ⟨fun T H id => evalOp (fun z => evF z T) H id op⟩
noncomputable def opF (op : DOp) : Tmps → Heap → Nat → Option (Value × Heap) := (opC op).run

theorem map_some_eq {α β : Type} (o : Option α) (f : α → β) : (match o with
    | some v => some (f v)
    | none => none) = o.map f := by cases o <;> rfl

theorem opF_eq (op : DOp) (T : Tmps) (H : Heap) (id : Nat) : opF op T H id = evalOp (ev T) H id op := by
  cases op
  case fail => rfl
  case move x => simp only [opF, opC, evalOp, evF_eq]
  case pick c a b => simp only [opF, opC, evalOp, evF_eq]; cases ev T c <;> first | rfl | skip; rename_i t; cases t <;> rfl
  case new cells => simp only [opF, opC, evalOp]; cases h : cells.all cellOk <;> simp [makeF_eq, mkBlkF_eq]
  case box x => simp only [opF, opC, evalOp, evF_eq]; cases h : (ev T x).cells.toList.all cellOk <;> simp [makeF_eq, mkBlkF_eq]
  case load n a =>
    simp only [opF, opC, evalOp, evF_eq]
    cases ev T a <;> first | rfl | skip
    rename_i p
    cases p with
    | none => rfl
    | some p => simp only [loadNF_eq]; cases H.loadN p n <;> rfl
  case store n a v =>
    simp only [opF, opC, evalOp, evF_eq]
    cases ev T a <;> first | rfl | skip
    rename_i p
    cases p with
    | none => rfl
    | some p =>
      simp only [writeF_eq, lenF_eq]
      have e : Nat.beq (ev T v).cells.toList.length n = decide ((ev T v).cells.toList.length = n) := by rw [Bool.eq_iff_iff, Nat.beq_eq]; simp
      rw [e]
      by_cases h : (ev T v).cells.toList.length = n
      · simp only [h, decide_true, if_true]; cases H.write p (ev T v).cells.toList <;> rfl
      · simp only [h, decide_false, if_false]
  case nilCheck x =>
    simp only [opF, opC, evalOp, evF_eq]
    cases ev T x <;> rfl
  case bin op t x y => simp only [opF, opC, evalOp, evF_eq, binC_eq, binG_eq]; cases binG op t (ev T x) (ev T y) <;> rfl
  case convInt k x => simp only [opF, opC, evalOp, evF_eq, wrapF_eq]; cases ev T x <;> rfl
  case strStr x => simp only [opF, opC, evalOp, evF_eq]; cases ev T x <;> rfl
  case iface t x => simp only [opF, opC, evalOp, evF_eq]
  case sliceStr x lo hi =>
    simp only [opF, opC, evalOp, evF_eq]
    cases ev T x <;> first | rfl | skip
    rename_i s
    simp only [boundsF_eq, sizeF_eq, extractF_eq]
    cases bounds s.size s.size (lo.map (ev T)) (hi.map (ev T)) <;> rfl
  case sliceSl esz x lo hi =>
    simp only [opF, opC, evalOp, evF_eq, boundsF_eq, getF_eq]
    cases ev T x <;> rfl
  case fieldAddr off x => simp only [opF, opC, evalOp, evF_eq]; rfl
  case field off n x =>
    simp only [opF, opC, evalOp, evF_eq]
    cases ev T x <;> first | rfl | skip
    rename_i cs
    cases n with
    | none => simp only [partOf, nthF_eq]; cases cs.toList[off]? <;> rfl
    | some k =>
      simp only [partOf, takeF_eq, dropF_eq, lenF_eq, ble_dec]
      change (match decide (off + k ≤ cs.toList.length) with
        | true => some (Value.agg ((cs.toList.drop off).take k).toArray, H)
        | false => none) = _
      by_cases h : off + k ≤ cs.toList.length <;> simp only [h, decide_true, decide_false, if_true, if_false] <;> rfl
  case idxArr len esz x i =>
    simp only [opF, opC, evalOp, evF_eq]
    cases ev T x <;> first | rfl | skip
    rename_i p
    cases p with
    | none => rfl
    | some a =>
      change (match idxF (ev T i) len with
        | some m => some (Value.pointer (some (addA a (m * esz))), H)
        | none => none) = _
      rw [← idx_lem (ev T i) len fun m => some (Value.pointer (some (addA a (m * esz))), H)]
      cases intOf? (ev T i) <;> rfl
  case idxSl esz x i =>
    simp only [opF, opC, evalOp, evF_eq]
    cases ev T x <;> first | rfl | skip
    rename_i p len _
    cases p with
    | none => rfl
    | some a =>
      change (match idxF (ev T i) len with
        | some m => some (Value.pointer (some (addA a (m * esz))), H)
        | none => none) = _
      rw [← idx_lem (ev T i) len fun m => some (Value.pointer (some (addA a (m * esz))), H)]
      cases intOf? (ev T i) <;> rfl
  case indexStr x i =>
    simp only [opF, opC, evalOp, evF_eq]
    cases ev T x <;> first | rfl | skip
    rename_i s
    cases ev T i <;> first | rfl | skip
    rename_i k j
    cases j with
    | ofNat m => simp only [nthF_eq, strList, intOf?]; rw [if_pos (show (0 : Int) ≤ Int.ofNat m from Int.natCast_nonneg m)]; rfl
    | negSucc m => simp only [intOf?]; rw [if_neg (by omega)]
  case extract i x =>
    simp only [opF, opC, evalOp, evF_eq]
    cases ev T x <;> first | rfl | skip
    rename_i vs
    simp only [nthF_eq]
    cases vs.toList[i]? <;> rfl
  case lenOf str x =>
    cases str
    · simp only [opF, opC, evalOp, evF_eq]; cases ev T x <;> rfl
    · simp only [opF, opC, evalOp, evF_eq, sizeF_eq]; cases ev T x <;> rfl
  case build zero parts => simp only [opF, opC, evalOp, evF_fun]; cases lay (ev T) zero parts <;> rfl
  case buildSlice len esz zero parts =>
    simp only [opF, opC, evalOp, evF_fun]
    cases lay (ev T) (zeros zero len) parts with
    | none => rfl
    | some cs =>
      simp only [makeF_eq, mkBlkF_eq, lenF_eq]
      have e : Nat.beq (Nat.mul len esz) cs.length = decide (len * esz = cs.length) := by rw [Bool.eq_iff_iff, Nat.beq_eq]; simp
      rw [e]
      cases cs.all cellOk && decide (len * esz = cs.length) <;> rfl
  case bytesToStr x =>
    simp only [opF, opC, evalOp, evF_eq]
    cases ev T x <;> first | rfl | skip
    rename_i p len _
    cases p with
    | none => rfl
    | some a =>
      simp only [elemsF_eq]
      cases H.elems 1 len (.slice (some a) len len) with
      | none => rfl
      | some cs => simp only; cases bytesString cs <;> rfl
  case append esz bytes s x => simp only [opF, opC, evalOp, evF_eq, appendF_eq]
  all_goals (simp only [opF, opC, evF_fun])
end Go.Det
