/-
  How the plain machine's heap stands to a world.
-/
import Derived.Test.YtjoljcoimoablaaGreatDoorZd2
import Derived.Calls
import Derived.Laws.Cells
import Derived.Laws.CopyRow
import Derived.Laws.AppendOwn
import Derived.Orders
namespace Go.Det

/-- Where a block lies: the real block, from which cell on, how many cells that one has; the block's own number of cells at its making. -/
structure Img where
  r : Nat
  o : Nat
  cs : Nat
  n0 : Nat
  esz : Nat
  kind : Kind
  ro : Bool

structure Inj where
  b : Nat → Option Img
  m : Nat → Option Nat

def Inj.le (ρ ρ' : Inj) : Prop := (∀ k I, ρ.b k = some I → ρ'.b k = some I) ∧ ∀ k r, ρ.m k = some r → ρ'.m k = some r
theorem Inj.le.refl (ρ : Inj) : ρ.le ρ := ⟨fun _ _ h => h, fun _ _ h => h⟩
theorem Inj.le.trans {a b c : Inj} (h : a.le b) (k : b.le c) : a.le c := ⟨fun _ _ x => k.1 _ _ (h.1 _ _ x), fun _ _ x => k.2 _ _ (h.2 _ _ x)⟩

def AR (ρ : Inj) (a a' : Addr) : Prop := a.spot = none ∧ ∃ I, ρ.b a.block = some I ∧ a' = ⟨I.r, I.o + a.off, none⟩
def SR (ρ : Inj) (a : Addr) (len cap : Nat) (a' : Addr) (cap' : Nat) : Prop :=
  a.spot = none ∧ len ≤ cap ∧ ∃ I, ρ.b a.block = some I ∧ a' = ⟨I.r, I.o + a.off, none⟩ ∧ (I.kind ≠ .box → a.off + cap * I.esz ≤ I.n0) ∧
    (cap' = cap ∨ (I.kind = .row ∧ cap ≤ cap' ∧ I.n0 ≤ a.off + cap * I.esz ∧ I.o + a.off + cap' * I.esz ≤ I.cs))

inductive VR (ρ : Inj) : Value → Value → Prop where
  | bool (b : Bool) : VR ρ (.bool b) (.bool b)
  | int (k : IntKind) (n : Int) : VR ρ (.int k n) (.int k n)
  | float (k : FloatKind) (n : Nat) : VR ρ (.float k n) (.float k n)
  | complex (k : FloatKind) (n m : Nat) : VR ρ (.complex k n m) (.complex k n m)
  | string (s : ByteArray) : VR ρ (.string s) (.string s)
  | ptr0 : VR ρ (.pointer none) (.pointer none)
  | ptr {a a' : Addr} (h : AR ρ a a') : VR ρ (.pointer (some a)) (.pointer (some a'))
  | slice0 (n c : Nat) : VR ρ (.slice none n c) (.slice none n c)
  | slice {a a' : Addr} {n c c' : Nat} (h : SR ρ a n c a' c') : VR ρ (.slice (some a) n c) (.slice (some a') n c')
  | void (a' : Addr) (c' : Nat) : VR ρ (.slice (some voidA) 0 0) (.slice (some a') 0 c')
  | map0 : VR ρ (.map none) (.map none)
  | map {r r' : Nat} (h : ρ.m r = some r') : VR ρ (.map (some r)) (.map (some r'))
  | chan0 : VR ρ (.chan none) (.chan none)
  | func (f : Fn) {xs ys us vs : Array Value} (h1 : xs.size = ys.size) (h2 : ∀ (i : Nat) v v', xs[i]? = some v → ys[i]? = some v' → VR ρ v v')
      (h3 : us.size = vs.size) (h4 : ∀ (i : Nat) v v', us[i]? = some v → vs[i]? = some v' → VR ρ v v') : VR ρ (.func f xs us) (.func f ys vs)
  | nilFunc : VR ρ .nilFunc .nilFunc
  | iface (t : TypeId) {v v' : Value} (h : VR ρ v v') : VR ρ (.iface t v) (.iface t v')
  | nilIface : VR ρ .nilIface .nilIface
  | agg {xs ys : Array Value} (h1 : xs.size = ys.size) (h2 : ∀ (i : Nat) v v', xs[i]? = some v → ys[i]? = some v' → VR ρ v v') : VR ρ (.agg xs) (.agg ys)
  | tuple {xs ys : Array Value} (h1 : xs.size = ys.size) (h2 : ∀ (i : Nat) v v', xs[i]? = some v → ys[i]? = some v' → VR ρ v v') : VR ρ (.tuple xs) (.tuple ys)

theorem AR.mono {ρ ρ' : Inj} (hl : ρ.le ρ') {a a' : Addr} (h : AR ρ a a') : AR ρ' a a' :=
  ⟨h.1, let ⟨I, h1, h2⟩ := h.2; ⟨I, hl.1 _ _ h1, h2⟩⟩
theorem VR.mono {ρ ρ' : Inj} (hl : ρ.le ρ') {v v' : Value} (h : VR ρ v v') : VR ρ' v v' := by
  induction h with
  | ptr h => exact .ptr (h.mono hl)
  | slice h =>
    obtain ⟨h1, h2, I, h3, h4⟩ := h
    exact .slice ⟨h1, h2, I, hl.1 _ _ h3, h4⟩
  | map h => exact .map (hl.2 _ _ h)
  | func f h1 _ h3 _ i1 i2 => exact .func f h1 i1 h3 i2
  | iface t _ ih => exact .iface t ih
  | agg h1 _ ih => exact .agg h1 ih
  | tuple h1 _ ih => exact .tuple h1 ih
  | void => exact .void _ _
  | slice0 => exact .slice0 _ _
  | _ => constructor

/-- Lists of values, one by one. -/
def VRL (ρ : Inj) (xs ys : List Value) : Prop := xs.length = ys.length ∧ ∀ (i : Nat) v v', xs[i]? = some v → ys[i]? = some v' → VR ρ v v'
theorem VRL.nil (ρ : Inj) : VRL ρ [] [] := ⟨rfl, fun i v v' h => by simp at h⟩
theorem VRL.cons {ρ : Inj} {x y : Value} {xs ys : List Value} (h : VR ρ x y) (hs : VRL ρ xs ys) : VRL ρ (x :: xs) (y :: ys) := by
  refine ⟨by simp [hs.1], fun i v v' h1 h2 => ?_⟩
  cases i with
  | zero => simp at h1 h2; subst h1; subst h2; exact h
  | succ i => simp at h1 h2; exact hs.2 i v v' h1 h2
theorem VRL.uncons {ρ : Inj} {x : Value} {xs ys : List Value} (h : VRL ρ (x :: xs) ys) : ∃ y ys', ys = y :: ys' ∧ VR ρ x y ∧ VRL ρ xs ys' := by
  cases ys with
  | nil => have := h.1; simp at this
  | cons y ys =>
    refine ⟨y, ys, rfl, h.2 0 _ _ rfl rfl, by have := h.1; simpa using this, fun i v v' h1 h2 => h.2 (i + 1) v v' (by simpa using h1) (by simpa using h2)⟩
theorem VRL.mono {ρ ρ' : Inj} (hl : ρ.le ρ') {xs ys : List Value} (h : VRL ρ xs ys) : VRL ρ' xs ys := ⟨h.1, fun i v v' a b => (h.2 i v v' a b).mono hl⟩
theorem VRL.append {ρ : Inj} {xs ys us vs : List Value} (h : VRL ρ xs ys) (k : VRL ρ us vs) : VRL ρ (xs ++ us) (ys ++ vs) := by
  induction xs generalizing ys with
  | nil => have h0 := h.1; simp at h0; rw [List.length_eq_zero_iff.1 h0.symm]; simpa using k
  | cons x xs ih =>
    obtain ⟨y, ys', rfl, h1, h2⟩ := h.uncons
    exact VRL.cons h1 (ih h2)
theorem VRL.get {ρ : Inj} {xs ys : List Value} (h : VRL ρ xs ys) {i : Nat} {v : Value} (hi : xs[i]? = some v) : ∃ v', ys[i]? = some v' ∧ VR ρ v v' := by
  have hlt : i < ys.length := by rw [← h.1]; exact (List.getElem?_eq_some_iff.1 hi).1
  exact ⟨ys[i], List.getElem?_eq_getElem hlt, h.2 i _ _ hi (List.getElem?_eq_getElem hlt)⟩
theorem VRL.take {ρ : Inj} {xs ys : List Value} (h : VRL ρ xs ys) (n : Nat) : VRL ρ (xs.take n) (ys.take n) :=
  ⟨by simp [h.1], fun i v v' h1 h2 => by
    rw [List.getElem?_take] at h1 h2
    split at h1
    · rename_i hl; rw [if_pos hl] at h2; exact h.2 i v v' h1 h2
    · simp at h1⟩
theorem VRL.drop {ρ : Inj} {xs ys : List Value} (h : VRL ρ xs ys) (n : Nat) : VRL ρ (xs.drop n) (ys.drop n) :=
  ⟨by simp [h.1], fun i v v' h1 h2 => by
    rw [List.getElem?_drop] at h1 h2
    exact h.2 _ v v' h1 h2⟩
theorem VRL.of_arr {ρ : Inj} {xs ys : Array Value} (h1 : xs.size = ys.size) (h2 : ∀ (i : Nat) v v', xs[i]? = some v → ys[i]? = some v' → VR ρ v v') : VRL ρ xs.toList ys.toList :=
  ⟨by simpa using h1, fun i v v' a b => h2 i v v' (by simpa using a) (by simpa using b)⟩
theorem VRL.agg {ρ : Inj} {xs ys : List Value} (h : VRL ρ xs ys) : VR ρ (.agg xs.toArray) (.agg ys.toArray) :=
  .agg (by simpa using h.1) (fun i v v' a b => h.2 i v v' (by simpa using a) (by simpa using b))
theorem VRL.tuple {ρ : Inj} {xs ys : List Value} (h : VRL ρ xs ys) : VR ρ (.tuple xs.toArray) (.tuple ys.toArray) :=
  .tuple (by simpa using h.1) (fun i v v' a b => h.2 i v v' (by simpa using a) (by simpa using b))
theorem VR.cells {ρ : Inj} {v v' : Value} (h : VR ρ v v') : VRL ρ v.cells.toList v'.cells.toList := by
  by_cases ha : ∃ xs, v = .agg xs
  · obtain ⟨xs, rfl⟩ := ha
    cases h with
    | agg h1 h2 => exact VRL.of_arr h1 h2
  · have e1 : v.cells = #[v] := by
      cases v <;> first | rfl | exact absurd ⟨_, rfl⟩ ha
    have e2 : v'.cells = #[v'] := by
      cases h <;> first | rfl | exact absurd ⟨_, rfl⟩ ha
    rw [e1, e2]
    exact VRL.cons h (VRL.nil ρ)
theorem VRL.map {α : Type} {ρ : Inj} (l : List α) (f g : α → Value) (h : ∀ x ∈ l, VR ρ (f x) (g x)) : VRL ρ (l.map f) (l.map g) := by
  induction l with
  | nil => exact VRL.nil ρ
  | cons x l ih => exact VRL.cons (h x (by simp)) (ih fun y hy => h y (by simp [hy]))
theorem VRL.cellOk {ρ : Inj} {xs ys : List Value} (h : VRL ρ xs ys) (hc : xs.all cellOk = true) : ∀ v ∈ ys, v.oneCell' = true := by
  intro v hv
  obtain ⟨i, hi, rfl⟩ := List.getElem_of_mem hv
  have hi' : i < xs.length := by rw [h.1]; exact hi
  have h1 := h.2 i xs[i] ys[i] (List.getElem?_eq_getElem hi') (List.getElem?_eq_getElem hi)
  have h2 := List.all_eq_true.1 hc xs[i] (List.getElem_mem hi')
  generalize xs[i] = a at h1 h2
  generalize ys[i] = b at h1
  cases h1 <;> first | rfl | cases h2

/-! ### Heaps -/
structure BlkRel (ρ : Inj) (B : Blk) (I : Img) (w : World) : Prop where
  row : ∃ c ty fr, w.heap[I.r]? = some (.cells c ty fr) ∧ c.size = I.cs ∧
    (∀ i, i < B.size → ∃ v v', B.cells.get i = some v ∧ c[I.o + i]? = some v' ∧ VR ρ v v') ∧
    (I.ro = false → ∀ j, j < I.cs → ¬ (fr.1 ≤ j ∧ j < fr.2)) ∧ (I.kind = .box → fr = (0, 0))
  size : B.size ≤ I.n0
  fits : I.o + I.n0 ≤ I.cs
  kind : B.kind = I.kind
  esz : B.esz = I.esz
  ro : B.ro = I.ro
  anc : I.kind ≠ .row → B.anc = []
  ext : I.kind = .box → I.ro = false → B.ext = true

def EntR (ρ : Inj) : List (Value × Value) → List MapEntry → Prop
  | [], [] => True
  | (k, v) :: es, e :: es' => keyOk k = true ∧ e.key = k ∧ VR ρ v e.val ∧ EntR ρ es es'
  | _, _ => False

structure HeapRel (ρ : Inj) (H : Heap) (w : World) : Prop where
  blk : ∀ k B I, H.blk.get k = some B → ρ.b k = some I → BlkRel ρ B I w
  dom : ∀ k I, ρ.b k = some I → ∃ B, H.blk.get k = some B
  lt : ∀ k B, H.blk.get k = some B → k < H.next
  share : ∀ k₁ k₂ B₁ B₂ I₁ I₂, k₁ ≠ k₂ → H.blk.get k₁ = some B₁ → H.blk.get k₂ = some B₂ → ρ.b k₁ = some I₁ → ρ.b k₂ = some I₂ → I₁.r = I₂.r → B₁.ext = true → I₁.ro = false →
    B₂.ext = false ∧ (B₂.size = 0 ∨ (I₂.o + B₂.size ≤ I₁.o + B₁.size ∧ k₂ ∈ B₁.anc))
  ros : ∀ k₁ k₂ I₁ I₂, ρ.b k₁ = some I₁ → ρ.b k₂ = some I₂ → I₁.ro = true → I₂.ro = false → I₁.r ≠ I₂.r
  boxInj : ∀ k₁ k₂ I₁ I₂, k₁ ≠ k₂ → ρ.b k₁ = some I₁ → ρ.b k₂ = some I₂ → I₁.kind = .box → I₂.kind = .box → I₁.r = I₂.r → I₁.ro = true ∧ I₂.ro = true ∧ (I₁.o + I₁.n0 ≤ I₂.o ∨ I₂.o + I₂.n0 ≤ I₁.o)
  anc : ∀ k B I p, H.blk.get k = some B → ρ.b k = some I → p ∈ B.anc → ∃ J, ρ.b p = some J ∧ J.ro = false ∧ J.kind ≠ .box
  mp : ∀ k es r, H.mp.get k = some es → ρ.m k = some r → ∃ es' clock, w.heap[r]? = some (.map es' clock) ∧ EntR ρ es es'.toList
  mdom : ∀ k r, ρ.m k = some r → ∃ es, H.mp.get k = some es
  mlt : ∀ k es, H.mp.get k = some es → k < H.next
  minj : ∀ k₁ k₂ r, ρ.m k₁ = some r → ρ.m k₂ = some r → k₁ = k₂

/-- A real block that something leads to, and that may be written. -/
def Inj.mine (ρ : Inj) (r : Nat) : Prop := (∃ k I, ρ.b k = some I ∧ I.r = r ∧ I.ro = false) ∨ ∃ k, ρ.m k = some r

/-- From one pair to a later one. -/
structure Sim (ρ : Inj) (H : Heap) (w : World) (ρ' : Inj) (H' : Heap) (w' : World) : Prop where
  le : ρ.le ρ'
  rel : HeapRel ρ' H' w'
  os : w'.os = w.os
  tape : w'.tape = w.tape
  output : w'.output = w.output
  size : w.heap.size ≤ w'.heap.size
  keep : ∀ r, r < w.heap.size → ¬ ρ.mine r → w'.heap[r]? = w.heap[r]?
  fresh : ∀ r, ρ'.mine r → r < w.heap.size → ρ.mine r
  newB : ∀ k I, ρ'.b k = some I → ρ.b k = none → H.blk.get k = none
  newM : ∀ k r, ρ'.m k = some r → ρ.m k = none → H.mp.get k = none
  still : ∀ k B, H.blk.get k = some B → ρ.b k = none → H'.blk.get k = some B
  stillM : ∀ k es, H.mp.get k = some es → ρ.m k = none → H'.mp.get k = some es
  next : H.next ≤ H'.next
  grow : ∀ k B, H.blk.get k = some B → ∃ B', H'.blk.get k = some B'
  growM : ∀ k es, H.mp.get k = some es → ∃ es', H'.mp.get k = some es'

theorem Inj.mine.mono {ρ ρ' : Inj} (h : ρ.le ρ') {r : Nat} (k : ρ.mine r) : ρ'.mine r := by
  rcases k with ⟨k, I, a, b, c⟩ | ⟨k, a⟩
  · exact .inl ⟨k, I, h.1 _ _ a, b, c⟩
  · exact .inr ⟨k, h.2 _ _ a⟩

theorem Sim.trans {ρ ρ₁ ρ₂ : Inj} {H H₁ H₂ : Heap} {w w₁ w₂ : World} (a : Sim ρ H w ρ₁ H₁ w₁) (b : Sim ρ₁ H₁ w₁ ρ₂ H₂ w₂) : Sim ρ H w ρ₂ H₂ w₂ where
  le := a.le.trans b.le
  rel := b.rel
  os := b.os.trans a.os
  tape := b.tape.trans a.tape
  output := b.output.trans a.output
  size := Nat.le_trans a.size b.size
  keep := fun r hr hm => (b.keep r (Nat.lt_of_lt_of_le hr a.size) (fun h => hm (a.fresh r h hr))).trans (a.keep r hr hm)
  fresh := fun r h hr => a.fresh r (b.fresh r h (Nat.lt_of_lt_of_le hr a.size)) hr
  newB := fun k I h h0 => by
    cases h1 : ρ₁.b k with
    | some J => exact a.newB k J h1 h0
    | none =>
      have h2 := b.newB k I h h1
      cases h3 : H.blk.get k with
      | none => rfl
      | some B => obtain ⟨B', h4⟩ := a.grow k B h3; rw [h4] at h2; cases h2
  newM := fun k r h h0 => by
    cases h1 : ρ₁.m k with
    | some J => exact a.newM k J h1 h0
    | none =>
      have h2 := b.newM k r h h1
      cases h3 : H.mp.get k with
      | none => rfl
      | some B => obtain ⟨B', h4⟩ := a.growM k B h3; rw [h4] at h2; cases h2
  still := fun k B h h0 => b.still k B (a.still k B h h0) (by
    cases h1 : ρ₁.b k with
    | none => rfl
    | some J => have := a.newB k J h1 h0; rw [h] at this; cases this)
  stillM := fun k B h h0 => b.stillM k B (a.stillM k B h h0) (by
    cases h1 : ρ₁.m k with
    | none => rfl
    | some J => have := a.newM k J h1 h0; rw [h] at this; cases this)
  next := Nat.le_trans a.next b.next
  grow := fun k B h => let ⟨_, h1⟩ := a.grow k B h; b.grow k _ h1
  growM := fun k B h => let ⟨_, h1⟩ := a.growM k B h; b.growM k _ h1
theorem Sim.refl {ρ : Inj} {H : Heap} {w : World} (h : HeapRel ρ H w) : Sim ρ H w ρ H w where
  le := .refl ρ
  rel := h
  os := rfl
  tape := rfl
  output := rfl
  size := Nat.le_refl _
  keep := fun _ _ _ => rfl
  fresh := fun _ h _ => h
  newB := fun k I h h0 => by rw [h0] at h; cases h
  newM := fun k I h h0 => by rw [h0] at h; cases h
  still := fun _ _ h _ => h
  stillM := fun _ _ h _ => h
  next := Nat.le_refl _
  grow := fun _ B h => ⟨B, h⟩
  growM := fun _ B h => ⟨B, h⟩

/-- A draw turns nothing. -/
theorem BlkRel.of_heap {ρ : Inj} {B : Blk} {I : Img} {w w' : World} (h : BlkRel ρ B I w) (e : w'.heap[I.r]? = w.heap[I.r]?) : BlkRel ρ B I w' :=
  { h with row := by rw [e]; exact h.row }
theorem HeapRel.of_heap {ρ : Inj} {H : Heap} {w w' : World} (h : HeapRel ρ H w) (e : w'.heap = w.heap) : HeapRel ρ H w' :=
  { h with
    blk := fun k B I h1 h2 => (h.blk k B I h1 h2).of_heap (by rw [e])
    mp := fun k es r h1 h2 => by rw [e]; exact h.mp k es r h1 h2 }
theorem Sim.draw {ρ : Inj} {H : Heap} {w : World} (h : HeapRel ρ H w) (n : Nat) : Sim ρ H w ρ H { w with drawn := n } :=
  { Sim.refl h with rel := h.of_heap rfl, os := rfl, tape := rfl, output := rfl, keep := fun _ _ _ => rfl, size := Nat.le_refl _ }
end Go.Det
