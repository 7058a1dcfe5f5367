/-
  The plain machine told so that the kernel reckons it quickly. Third part: heaps.
-/
import Derived.Test.YtjoljcoimoablaaGreatDoorZd26
namespace Go.Det

noncomputable def getNF {α : Type} (t : PM α) (k n : Nat) : Option (List α) :=
  Nat.rec (motive := fun _ => Nat → Option (List α)) (fun _ => some [])
    (fun _ ih k => match getF t k with
      | some x => (match ih (Nat.succ k) with
        | some xs => some (x :: xs)
        | none => none)
      | none => none) n k
theorem getNF_eq {α : Type} (t : PM α) : ∀ (n k : Nat), getNF t k n = t.getN k n := by
  intro n
  induction n with
  | zero => intro k; rfl
  | succ n ih =>
    intro k
    have e : getNF t k (n + 1) = (match getF t k with
      | some x => (match getNF t (k + 1) n with
        | some xs => some (x :: xs)
        | none => none)
      | none => none) := rfl
    rw [e, getF_eq, ih]
    simp only [PM.getN]
    cases t.get k with
    | none => rfl
    | some x => cases t.getN (k + 1) n <;> rfl
noncomputable def setListF {α : Type} (t : PM α) (k : Nat) (xs : List α) : PM α :=
  List.rec (motive := fun _ => PM α → Nat → PM α) (fun t _ => t) (fun x _ ih t k => ih (setF x t k) (Nat.succ k)) xs t k
theorem setListF_eq {α : Type} : ∀ (xs : List α) (t : PM α) (k : Nat), setListF t k xs = t.setList k xs := by
  intro xs
  induction xs with
  | nil => intro t k; rfl
  | cons x xs ih =>
    intro t k
    have e : setListF t k (x :: xs) = setListF (setF x t k) (k + 1) xs := rfl
    rw [e, ih, setF_eq]
    rfl
noncomputable def ofListF {α : Type} (xs : List α) : PM α := match xs with
  | [] => .nil
  | [x] => .node (some x) .nil .nil
  | xs => setListF .nil 0 xs
theorem ofListF_eq {α : Type} (xs : List α) : ofListF xs = PM.ofList xs := by
  unfold ofListF PM.ofList
  split
  · rfl
  · rfl
  · rw [setListF_eq]
theorem ble_dec (m n : Nat) : Nat.ble m n = decide (m ≤ n) := by rw [Bool.eq_iff_iff, Nat.ble_eq]; simp

noncomputable def lookF (H : Heap) (a : Addr) (n : Nat) : Option (List Value) :=
  match a.spot with
  | some _ => none
  | none => match getF H.blk a.block with
    | some b => (match Nat.ble (Nat.add a.off n) b.size with
      | true => getNF b.cells a.off n
      | false => none)
    | none => none
theorem lookF_eq (H : Heap) (a : Addr) (n : Nat) : lookF H a n = H.look a n := by
  unfold lookF Heap.look
  cases a.spot with
  | some z => rfl
  | none =>
    simp only [getF_eq, getNF_eq, ble_dec]
    cases H.blk.get a.block with
    | none => rfl
    | some b =>
      simp only
      change (match decide (a.off + n ≤ b.size) with
        | true => b.cells.getN a.off n
        | false => none) = _
      by_cases h : a.off + n ≤ b.size <;> simp [h]
noncomputable def load1F (H : Heap) (a : Addr) : Option Value :=
  match a.spot with
  | some _ => none
  | none => match getF H.blk a.block with
    | some b => (match Nat.ble (Nat.succ a.off) b.size with
      | true => getF b.cells a.off
      | false => none)
    | none => none
noncomputable def loadNF (H : Heap) (a : Addr) : Option Nat → Option Value
  | some n => (match lookF H a n with
    | some cs => some (.agg cs.toArray)
    | none => none)
  | none => load1F H a
theorem loadNF_eq (H : Heap) (a : Addr) (n : Option Nat) : loadNF H a n = H.loadN a n := by
  cases n with
  | some n =>
    simp only [loadNF, Heap.loadN, lookF_eq]
    cases H.look a n <;> rfl
  | none =>
    simp only [loadNF, Heap.loadN, load1F, Heap.look]
    cases a.spot with
    | some z => rfl
    | none =>
      simp only [getF_eq, ble_dec]
      cases H.blk.get a.block with
      | none => rfl
      | some b =>
        simp only
        change (match decide (a.off + 1 ≤ b.size) with
          | true => b.cells.get a.off
          | false => none) = _
        by_cases h : a.off + 1 ≤ b.size
        · simp only [h, decide_true, if_true]
          cases hb : b.cells.get a.off with
          | none => simp [PM.getN, hb]
          | some x => simp [PM.getN, hb]
        · simp [h]

noncomputable def makeF (H : Heap) (id : Nat) (b : Blk) : Heap := { blk := setF b H.blk id, mp := H.mp, next := match Nat.ble H.next id with
  | true => Nat.succ id
  | false => H.next }
theorem makeF_eq (H : Heap) (id : Nat) (b : Blk) : makeF H id b = H.make id b := by
  unfold makeF Heap.make
  rw [setF_eq, ble_dec]
  congr 1
  by_cases h : H.next ≤ id
  · simp only [h, decide_true]
    exact (Nat.max_eq_right (by omega)).symm
  · simp only [h, decide_false]
    exact (Nat.max_eq_left (by omega)).symm
noncomputable def mkBlkF (kind : Kind) (esz : Nat) (cells : List Value) : Blk := { size := lenF cells, cells := ofListF cells, kind, esz, ext := true, anc := [], ro := false }
theorem mkBlkF_eq (kind : Kind) (esz : Nat) (cells : List Value) : mkBlkF kind esz cells = mkBlk kind esz cells := by
  unfold mkBlkF mkBlk
  rw [lenF_eq, ofListF_eq]
noncomputable def writeF (H : Heap) (a : Addr) (vs : List Value) : Option Heap :=
  match a.spot with
  | some _ => none
  | none => match getF H.blk a.block with
    | some b => (match b.ro with
      | true => none
      | false => (match Nat.ble (Nat.add a.off (lenF vs)) b.size with
        | false => none
        | true => (match vs.all cellOk with
          | false => none
          | true => (match b.kind with
            | .box => some { H with blk := setF { b with cells := setListF b.cells a.off vs } H.blk a.block }
            | _ => (match b.ext with
              | true => some { H with blk := setF { b with cells := setListF b.cells a.off vs, anc := [] } (kill b.anc H.blk) a.block }
              | false => none)))))
    | none => none
theorem writeF_eq (H : Heap) (a : Addr) (vs : List Value) : writeF H a vs = H.write a vs := by
  unfold writeF Heap.write
  cases a.spot with
  | some z => rfl
  | none =>
    simp only [getF_eq, setF_eq, setListF_eq, lenF_eq, ble_dec]
    cases H.blk.get a.block with
    | none => rfl
    | some b =>
      simp only
      change (match b.ro with
      | true => none
      | false => (match decide (a.off + vs.length ≤ b.size) with
        | false => none
        | true => (match vs.all cellOk with
          | false => none
          | true => _))) = _
      cases b.ro
      · by_cases h : a.off + vs.length ≤ b.size
        · cases h2 : vs.all cellOk
          · simp [h]
          · simp only [h, decide_true, Bool.not_true, Bool.or_self, Bool.false_eq_true, if_false]
            cases b.kind
            · rfl
            · simp only; cases b.ext <;> rfl
            · simp only; cases b.ext <;> rfl
        · simp [h]
      · simp
noncomputable def elemsF (H : Heap) (esz n : Nat) : Value → Option (List Value)
  | .slice none _ _ => some []
  | .slice (some a) _ _ => (match Nat.mul n esz with
    | 0 => some []
    | k + 1 => lookF H a (k + 1))
  | .string s => (match esz with
    | 1 => some (takeF n (bytesOfStr s))
    | _ => none)
  | _ => none
theorem elemsF_eq (H : Heap) (esz n : Nat) (v : Value) : elemsF H esz n v = H.elems esz n v := by
  cases v <;> first | rfl | skip
  case slice a _ _ =>
    cases a with
    | none => rfl
    | some a =>
      simp only [elemsF, Heap.elems]
      change (match n * esz with
        | 0 => some []
        | k + 1 => lookF H a (k + 1)) = _
      cases h : n * esz with
      | zero => simp
      | succ k => simp [lookF_eq]
  case string s =>
    simp only [elemsF, Heap.elems, takeF_eq]
    split
    · simp
    · rename_i h; rw [if_neg (fun e => h e)]
noncomputable def bounds1 (most dflt : Nat) : Option Value → Option Nat
  | none => some dflt
  | some v => match v with
    | .int _ i => (match i with
      | .ofNat m => (match Nat.ble m most with
        | true => some m
        | false => none)
      | .negSucc _ => none)
    | _ => none
theorem bounds1_eq (most dflt : Nat) (v : Option Value) : bounds1 most dflt v = boundOf most dflt v := by
  cases v with
  | none => rfl
  | some v =>
    cases v <;> first | rfl | skip
    rename_i k i
    simp only [bounds1, boundOf, intOf?]
    cases i with
    | ofNat m =>
      simp only [ble_dec]
      by_cases h : m ≤ most
      · simp [h]
      · simp [h]
    | negSucc m =>
      simp only
      rw [if_neg]
      omega
noncomputable def boundsF (len cap : Nat) (lo hi : Option Value) : Option (Nat × Nat) :=
  match bounds1 cap len hi with
  | none => none
  | some h => (match bounds1 h 0 lo with
    | some l => some (l, h)
    | none => none)
theorem boundsF_eq (len cap : Nat) (lo hi : Option Value) : boundsF len cap lo hi = bounds len cap lo hi := by
  unfold boundsF bounds
  rw [bounds1_eq]
  cases boundOf cap len hi with
  | none => rfl
  | some h =>
    simp only [bounds1_eq]
    cases boundOf h 0 lo <;> rfl
/-- A number below another, as a natural one. -/
noncomputable def idxF (v : Value) (len : Nat) : Option Nat :=
  match v with
  | .int _ i => (match i with
    | .ofNat m => (match Nat.blt m len with
      | true => some m
      | false => none)
    | .negSucc _ => none)
  | _ => none
theorem idxF_some {v : Value} {len m : Nat} : idxF v len = some m ↔ intOf? v = some (Int.ofNat m) ∧ m < len := by
  unfold idxF
  cases v <;> simp [intOf?]
  rename_i k i
  cases i with
  | ofNat j =>
    simp only
    cases h : Nat.blt j len with
    | true =>
      rw [Nat.blt_eq] at h
      simp
      constructor
      · intro e; subst e; exact ⟨rfl, h⟩
      · intro e; have := e.1; omega
    | false =>
      have h' : ¬ j < len := fun e => by rw [← Nat.blt_eq, h] at e; cases e
      simp
      intro e; omega
  | negSucc j => simp
end Go.Det
