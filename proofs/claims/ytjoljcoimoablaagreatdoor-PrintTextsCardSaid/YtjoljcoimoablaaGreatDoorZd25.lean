/-
  The plain machine told so that the kernel reckons it quickly. First part: maps and arithmetic.
-/
import Derived.Test.YtjoljcoimoablaaGreatDoorZd24
namespace Go.Det

/-! ### Maps -/
noncomputable def getF {α : Type} (t : PM α) : Nat → Option α :=
  PM.rec (motive := fun _ => Nat → Option α) (fun _ => none)
    (fun v _ _ gl gr k => Nat.rec (motive := fun _ => Option α) v (fun m _ => Nat.rec (motive := fun _ => Option α) (gl (Nat.div m 2)) (fun _ _ => gr (Nat.div m 2)) (Nat.mod m 2)) k) t
noncomputable def setF {α : Type} (x : α) (t : PM α) : Nat → PM α :=
  PM.rec (motive := fun _ => Nat → PM α) (fun k => PM.setP (road k k) x .nil)
    (fun v l r gl gr k => Nat.rec (motive := fun _ => PM α) (.node (some x) l r) (fun m _ => Nat.rec (motive := fun _ => PM α) (.node v (gl (Nat.div m 2)) r) (fun _ _ => .node v l (gr (Nat.div m 2))) (Nat.mod m 2)) k) t
noncomputable def getR {α : Type} (t : PM α) : List Bool → Option α :=
  PM.rec (motive := fun _ => List Bool → Option α) (fun _ => none)
    (fun v _ _ gl gr p => List.rec (motive := fun _ => Option α) v (fun b p' _ => Bool.rec (motive := fun _ => Option α) (gr p') (gl p') b) p) t
noncomputable def setR {α : Type} (x : α) (p : List Bool) : PM α → PM α :=
  List.rec (motive := fun _ => PM α → PM α)
    (fun t => PM.rec (motive := fun _ => PM α) (.node (some x) .nil .nil) (fun _ l r _ _ => .node (some x) l r) t)
    (fun b _ ih t => Bool.rec (motive := fun _ => PM α)
      (PM.rec (motive := fun _ => PM α) (.node none .nil (ih .nil)) (fun v l r _ _ => .node v l (ih r)) t)
      (PM.rec (motive := fun _ => PM α) (.node none (ih .nil) .nil) (fun v l r _ _ => .node v (ih l) r) t) b) p

theorem road_stable : ∀ (f g k : Nat), k ≤ f → k ≤ g → road f k = road g k := by
  intro f
  induction f with
  | zero =>
    intro g k hf hg
    have : k = 0 := by omega
    subst this
    cases g <;> simp [road]
  | succ f ih =>
    intro g k hf hg
    cases g with
    | zero =>
      have : k = 0 := by omega
      subst this
      simp [road]
    | succ g =>
      simp only [road]
      by_cases h : k = 0
      · simp [h]
      · simp only [h, if_false]
        rw [ih g ((k - 1) / 2) (by omega) (by omega)]
theorem road_succ (m : Nat) : road (m + 1) (m + 1) = ((m + 1) % 2 == 1) :: road (m / 2) (m / 2) := by
  simp only [road]
  rw [if_neg (by omega), Nat.add_sub_cancel, road_stable m (m / 2) (m / 2) (by omega) (by omega)]

theorem getR_eq {α : Type} (t : PM α) : ∀ p, getR t p = t.getP p := by
  induction t with
  | nil => intro p; simp [getR, PM.getP]
  | node v l r il ir =>
    intro p
    cases p with
    | nil => rfl
    | cons b p =>
      cases b
      · exact (ir p)
      · exact (il p)
theorem setR_eq {α : Type} (x : α) : ∀ (p : List Bool) (t : PM α), setR x p t = PM.setP p x t := by
  intro p
  induction p with
  | nil => intro t; cases t <;> rfl
  | cons b p ih =>
    intro t
    cases b <;> cases t <;> simp only [PM.setP, ← ih] <;> rfl
theorem mod2 (m : Nat) : ((m + 1) % 2 == 1) = match Nat.mod m 2 with
    | 0 => true
    | _ + 1 => false := by
  have e : Nat.mod m 2 = m % 2 := rfl
  rw [e]
  have : m % 2 = 0 ∨ m % 2 = 1 := by omega
  rcases this with h | h <;> rw [h]
  · have : (m + 1) % 2 = 1 := by omega
    rw [this]; rfl
  · have : (m + 1) % 2 = 0 := by omega
    rw [this]; rfl
theorem getF_eq {α : Type} (t : PM α) : ∀ k, getF t k = t.get k := by
  induction t with
  | nil => intro k; simp [getF, PM.get, PM.getP]
  | node v l r il ir =>
    intro k
    cases k with
    | zero => rfl
    | succ m =>
      unfold PM.get
      rw [road_succ, mod2]
      have e1 : getF (.node v l r) (m + 1) = Nat.rec (motive := fun _ => Option α) (getF l (Nat.div m 2)) (fun _ _ => getF r (Nat.div m 2)) (Nat.mod m 2) := rfl
      rw [e1]
      cases h : Nat.mod m 2 with
      | zero => exact il (m / 2)
      | succ j => exact ir (m / 2)
theorem setF_eq {α : Type} (x : α) (t : PM α) : ∀ k, setF x t k = t.set k x := by
  induction t with
  | nil => intro k; rfl
  | node v l r il ir =>
    intro k
    cases k with
    | zero => rfl
    | succ m =>
      unfold PM.set
      rw [road_succ, mod2]
      have e1 : setF x (.node v l r) (m + 1) = Nat.rec (motive := fun _ => PM α) (.node v (setF x l (Nat.div m 2)) r) (fun _ _ => .node v l (setF x r (Nat.div m 2))) (Nat.mod m 2) := rfl
      rw [e1]
      cases h : Nat.mod m 2 with
      | zero =>
        change PM.node v (setF x l (m / 2)) r = _
        rw [il]; rfl
      | succ j =>
        change PM.node v l (setF x r (m / 2)) = _
        rw [ir]; rfl

/-! ### Whole numbers -/
def limOf : IntKind → Nat
  | .i8 => 128 | .i16 => 32768 | .i32 => 2147483648 | .i64 => 9223372036854775808
  | .u8 => 256 | .u16 => 65536 | .u32 => 4294967296 | .u64 => 18446744073709551616
theorem wrap_small (k : IntKind) (m : Nat) (h : m < limOf k) : k.wrap (Int.ofNat m) = Int.ofNat m := by
  cases k <;> simp only [limOf] at h <;> simp [IntKind.wrap, IntKind.bits, IntKind.signed] <;> omega
def wrapF (k : IntKind) (n : Int) : Int :=
  match n with
  | .ofNat m => (match Nat.blt m (limOf k) with
    | true => .ofNat m
    | false => k.wrap (.ofNat m))
  | .negSucc m => k.wrap (.negSucc m)
theorem wrapF_eq (k : IntKind) (n : Int) : wrapF k n = k.wrap n := by
  cases n with
  | ofNat m =>
    simp only [wrapF]
    cases h : Nat.blt m (limOf k) with
    | true => exact (wrap_small k m (by rw [Nat.blt_eq] at h; exact h)).symm
    | false => rfl
  | negSucc m => rfl

def addF (a b : Int) : Int := match a, b with
  | .ofNat m, .ofNat n => .ofNat (Nat.add m n)
  | a, b => a + b
theorem addF_eq (a b : Int) : addF a b = a + b := by cases a <;> cases b <;> rfl
def subF (a b : Int) : Int := match a, b with
  | .ofNat m, .ofNat n => (match Nat.ble n m with
    | true => .ofNat (Nat.sub m n)
    | false => .ofNat m - .ofNat n)
  | a, b => a - b
theorem subF_eq (a b : Int) : subF a b = a - b := by
  cases a with
  | negSucc m => cases b <;> rfl
  | ofNat m =>
    cases b with
    | negSucc n => rfl
    | ofNat n =>
      simp only [subF]
      cases h : Nat.ble n m with
      | false => rfl
      | true =>
        have : n ≤ m := by rw [Nat.ble_eq] at h; exact h
        change Int.ofNat (m - n) = Int.ofNat m - Int.ofNat n
        simp; omega
def mulF (a b : Int) : Int := match a, b with
  | .ofNat m, .ofNat n => .ofNat (Nat.mul m n)
  | a, b => a * b
theorem mulF_eq (a b : Int) : mulF a b = a * b := by cases a <;> cases b <;> rfl
def ltF (a b : Int) : Bool := match a, b with
  | .ofNat m, .ofNat n => Nat.blt m n
  | a, b => decide (a < b)
theorem ltF_eq (a b : Int) : ltF a b = decide (a < b) := by
  cases a with
  | negSucc m => cases b <;> rfl
  | ofNat m =>
    cases b with
    | negSucc n => rfl
    | ofNat n =>
      simp only [ltF]
      rw [Bool.eq_iff_iff, Nat.blt_eq]; simp
def leF (a b : Int) : Bool := match a, b with
  | .ofNat m, .ofNat n => Nat.ble m n
  | a, b => decide (a ≤ b)
theorem leF_eq (a b : Int) : leF a b = decide (a ≤ b) := by
  cases a with
  | negSucc m => cases b <;> rfl
  | ofNat m =>
    cases b with
    | negSucc n => rfl
    | ofNat n =>
      simp only [leF]
      rw [Bool.eq_iff_iff, Nat.ble_eq]; simp
def eqF (a b : Int) : Bool := match a, b with
  | .ofNat m, .ofNat n => Nat.beq m n
  | .negSucc m, .negSucc n => Nat.beq m n
  | _, _ => false
theorem eqF_eq (a b : Int) : eqF a b = (a == b) := by
  cases a <;> cases b <;> simp only [eqF] <;> rw [Bool.eq_iff_iff] <;> simp <;> omega
def kindEqF : IntKind → IntKind → Bool
  | .i8, .i8 | .i16, .i16 | .i32, .i32 | .i64, .i64 | .u8, .u8 | .u16, .u16 | .u32, .u32 | .u64, .u64 => true
  | _, _ => false
theorem kindEqF_eq (k l : IntKind) : kindEqF k l = decide (k = l) := by cases k <;> cases l <;> rfl

/-! ### Bytes -/
def byteEqF (a b : UInt8) : Bool := Nat.beq a.toNat b.toNat
theorem byteEqF_eq (a b : UInt8) : byteEqF a b = (a == b) := by
  unfold byteEqF
  rw [Bool.eq_iff_iff, Nat.beq_eq, beq_iff_eq, UInt8.toNat_inj]
noncomputable def bytesEqF (a : List UInt8) : List UInt8 → Bool :=
  List.rec (motive := fun _ => List UInt8 → Bool) (fun b => List.rec (motive := fun _ => Bool) true (fun _ _ _ => false) b)
    (fun x _ ih b => List.rec (motive := fun _ => Bool) false (fun y ys _ => Bool.rec (motive := fun _ => Bool) false (ih ys) (byteEqF x y)) b) a
theorem bytesEqF_eq (a : List UInt8) : ∀ b, bytesEqF a b = (a == b) := by
  induction a with
  | nil => intro b; cases b <;> rfl
  | cons x xs ih =>
    intro b
    cases b with
    | nil => rfl
    | cons y ys =>
      have e : bytesEqF (x :: xs) (y :: ys) = Bool.rec (motive := fun _ => Bool) false (bytesEqF xs ys) (byteEqF x y) := rfl
      rw [e, byteEqF_eq, ih]
      rw [List.cons_beq_cons]
      cases x == y <;> rfl
noncomputable def takeF {α : Type} (n : Nat) : List α → List α :=
  Nat.rec (motive := fun _ => List α → List α) (fun _ => []) (fun _ ih l => List.rec (motive := fun _ => List α) [] (fun x xs _ => x :: ih xs) l) n
theorem takeF_eq {α : Type} : ∀ (n : Nat) (l : List α), takeF n l = l.take n := by
  intro n
  induction n with
  | zero => intro l; rfl
  | succ n ih =>
    intro l
    cases l with
    | nil => rfl
    | cons x xs =>
      change x :: takeF n xs = _
      rw [ih]; rfl
noncomputable def dropF {α : Type} (n : Nat) : List α → List α :=
  Nat.rec (motive := fun _ => List α → List α) (fun l => l) (fun _ ih l => List.rec (motive := fun _ => List α) [] (fun _ xs _ => ih xs) l) n
theorem dropF_eq {α : Type} : ∀ (n : Nat) (l : List α), dropF n l = l.drop n := by
  intro n
  induction n with
  | zero => intro l; rfl
  | succ n ih =>
    intro l
    cases l with
    | nil => rfl
    | cons x xs =>
      change dropF n xs = _
      rw [ih]; rfl
noncomputable def appF {α : Type} (l m : List α) : List α := List.rec (motive := fun _ => List α) m (fun x _ ih => x :: ih) l
theorem appF_eq {α : Type} (l m : List α) : appF l m = l ++ m := by
  induction l with
  | nil => rfl
  | cons x xs ih => change x :: appF xs m = _; rw [ih]; rfl
noncomputable def lenF {α : Type} (l : List α) : Nat := List.rec (motive := fun _ => Nat) 0 (fun _ _ ih => Nat.succ ih) l
theorem lenF_eq {α : Type} (l : List α) : lenF l = l.length := by
  induction l with
  | nil => rfl
  | cons x xs ih => change Nat.succ (lenF xs) = _; rw [ih]; rfl
noncomputable def nthF {α : Type} (l : List α) : Nat → Option α :=
  List.rec (motive := fun _ => Nat → Option α) (fun _ => none) (fun x _ ih n => Nat.rec (motive := fun _ => Option α) (some x) (fun m _ => ih m) n) l
theorem nthF_eq {α : Type} (l : List α) : ∀ n, nthF l n = l[n]? := by
  induction l with
  | nil => intro n; rfl
  | cons x xs ih =>
    intro n
    cases n with
    | zero => rfl
    | succ n => change nthF xs n = _; rw [ih]; rfl

noncomputable def strList (s : ByteArray) : List UInt8 := s.data.toList
noncomputable def ofBytes (l : List UInt8) : ByteArray := ⟨⟨l⟩⟩
noncomputable def extractF (s : ByteArray) (l h : Nat) : ByteArray := ofBytes (takeF (Nat.sub h l) (dropF l (strList s)))
theorem extractF_eq (s : ByteArray) (l h : Nat) : extractF s l h = s.extract l h := by
  apply ByteArray.ext
  unfold extractF ofBytes strList
  rw [takeF_eq, dropF_eq, ByteArray.data_extract]
  apply Array.ext'
  simp
noncomputable def concatF (s t : ByteArray) : ByteArray := ofBytes (appF (strList s) (strList t))
theorem concatF_eq (s t : ByteArray) : concatF s t = s ++ t := by
  apply ByteArray.ext
  unfold concatF ofBytes strList
  rw [appF_eq]
  simp
noncomputable def sizeF (s : ByteArray) : Nat := lenF (strList s)
theorem sizeF_eq (s : ByteArray) : sizeF s = s.size := by
  unfold sizeF strList
  rw [lenF_eq]
  rfl
end Go.Det
