/-
  A persistent map keyed by numbers: a binary tree; its two laws.
-/
import GoSem.Dispatch
import GoSem.Machine.Frame
namespace Go.Det

/-- A number as a road: root at 0, then odd to the left, even to the right. -/
def road : Nat → Nat → List Bool
  | 0, _ => []
  | f + 1, k => if k = 0 then [] else (k % 2 == 1) :: road f ((k - 1) / 2)

theorem road_inj : ∀ (f g a b : Nat), a ≤ f → b ≤ g → road f a = road g b → a = b := by
  intro f
  induction f with
  | zero =>
    intro g a b ha hb h
    cases g with
    | zero => omega
    | succ g =>
      simp only [road] at h
      by_cases e : b = 0
      · omega
      · simp [e] at h
  | succ f ih =>
    intro g a b ha hb h
    cases g with
    | zero =>
      simp only [road] at h
      by_cases e : a = 0
      · omega
      · simp [e] at h
    | succ g =>
      simp only [road] at h
      by_cases ea : a = 0
      · by_cases eb : b = 0
        · omega
        · simp [ea, eb] at h
      · by_cases eb : b = 0
        · simp [ea, eb] at h
        · simp only [ea, eb, if_false, List.cons.injEq] at h
          obtain ⟨h1, h2⟩ := h
          have h3 := ih g ((a - 1) / 2) ((b - 1) / 2) (by omega) (by omega) h2
          have h4 : (a % 2 = 1) ↔ (b % 2 = 1) := by
            rw [Bool.eq_iff_iff, beq_iff_eq, beq_iff_eq] at h1
            exact h1
          omega

inductive PM (α : Type) where
  | nil
  | node (v : Option α) (l r : PM α)

namespace PM
variable {α : Type}

def getP : PM α → List Bool → Option α
  | .nil, _ => none
  | .node v _ _, [] => v
  | .node _ l r, b :: p => match b with
    | true => l.getP p
    | false => r.getP p

def setP : List Bool → α → PM α → PM α
  | [], x, .nil => .node (some x) .nil .nil
  | [], x, .node _ l r => .node (some x) l r
  | b :: p, x, .nil => match b with
    | true => .node none (setP p x .nil) .nil
    | false => .node none .nil (setP p x .nil)
  | b :: p, x, .node v l r => match b with
    | true => .node v (setP p x l) r
    | false => .node v l (setP p x r)

theorem getP_setP (p q : List Bool) (x : α) : ∀ t : PM α, (setP p x t).getP q = if p = q then some x else t.getP q := by
  induction p generalizing q with
  | nil =>
    intro t
    cases t <;> cases q <;> simp [setP, getP]
    split <;> rfl
  | cons b p ih =>
    intro t
    cases t with
    | nil =>
      cases q with
      | nil => cases b <;> simp [setP, getP]
      | cons c q =>
        cases b <;> cases c <;> simp [setP, getP, ih]
    | node v l r =>
      cases q with
      | nil => cases b <;> simp [setP, getP]
      | cons c q =>
        cases b <;> cases c <;> simp [setP, getP, ih]

def get (t : PM α) (k : Nat) : Option α := t.getP (road k k)
def set (t : PM α) (k : Nat) (x : α) : PM α := setP (road k k) x t

theorem get_set (t : PM α) (k j : Nat) (x : α) : (t.set k x).get j = if k = j then some x else t.get j := by
  unfold get set
  rw [getP_setP]
  by_cases h : k = j
  · simp [h]
  · have : road k k ≠ road j j := fun e => h (road_inj k j k j (Nat.le_refl _) (Nat.le_refl _) e)
    simp [h, this]
theorem get_set_same (t : PM α) (k : Nat) (x : α) : (t.set k x).get k = some x := by simp [get_set]
theorem get_set_ne (t : PM α) {k j : Nat} (x : α) (h : k ≠ j) : (t.set k x).get j = t.get j := by simp [get_set, h]
theorem get_nil (k : Nat) : (PM.nil : PM α).get k = none := by simp [get, getP]

/-- The list, from a number on. -/
def setList (t : PM α) (k : Nat) : List α → PM α
  | [] => t
  | x :: xs => (t.set k x).setList (k + 1) xs

theorem get_setList (xs : List α) : ∀ (t : PM α) (k j : Nat), (t.setList k xs).get j = if k ≤ j ∧ j < k + xs.length then xs[j - k]? else t.get j := by
  induction xs with
  | nil => intro t k j; simp [setList]; omega
  | cons x xs ih =>
    intro t k j
    simp only [setList, ih, get_set, List.length_cons]
    by_cases h1 : k = j
    · subst h1
      rw [if_neg (by omega), if_pos rfl, if_pos (by omega)]
      simp
    · by_cases h2 : k + 1 ≤ j ∧ j < k + 1 + xs.length
      · rw [if_pos h2, if_pos (by omega)]
        have : j - k = (j - (k + 1)) + 1 := by omega
        rw [this]; simp
      · rw [if_neg h2, if_neg h1, if_neg (by omega)]

def ofList (xs : List α) : PM α := PM.nil.setList 0 xs
theorem get_ofList (xs : List α) (j : Nat) : (ofList xs).get j = xs[j]? := by
  unfold ofList
  rw [get_setList]
  by_cases h : j < xs.length
  · simp [h]
  · simp [h, get_nil]

/-- So many from a number on; none where one is missing. -/
def getN (t : PM α) (k : Nat) : Nat → Option (List α)
  | 0 => some []
  | n + 1 => match t.get k with
    | some x => (t.getN (k + 1) n).map (x :: ·)
    | none => none

theorem getN_some {t : PM α} : ∀ {n k : Nat} {l : List α}, t.getN k n = some l → l.length = n ∧ ∀ i, i < n → t.get (k + i) = l[i]? := by
  intro n
  induction n with
  | zero => intro k l h; simp [getN] at h; subst h; simp
  | succ n ih =>
    intro k l h
    simp only [getN] at h
    cases hx : t.get k with
    | none => simp [hx] at h
    | some x =>
      simp only [hx] at h
      cases hr : t.getN (k + 1) n with
      | none => simp [hr] at h
      | some r =>
        simp only [hr, Option.map_some, Option.some.injEq] at h
        subst h
        obtain ⟨h1, h2⟩ := ih hr
        refine ⟨by simp [h1], fun i hi => ?_⟩
        cases i with
        | zero => simpa using hx
        | succ i =>
          have := h2 i (by omega)
          simp only [List.getElem?_cons_succ, ← this]
          congr 1; omega
theorem getN_of {t : PM α} : ∀ {n k : Nat} {l : List α}, l.length = n → (∀ i, i < n → t.get (k + i) = l[i]?) → t.getN k n = some l := by
  intro n
  induction n with
  | zero => intro k l h _; simp [List.length_eq_zero_iff.1 h, getN]
  | succ n ih =>
    intro k l h h2
    cases l with
    | nil => simp at h
    | cons x l =>
      simp only [getN]
      have h0 := h2 0 (by omega)
      simp only [Nat.add_zero, List.getElem?_cons_zero] at h0
      rw [h0]
      have := ih (k := k + 1) (l := l) (by simpa using h) (fun i hi => by
        have := h2 (i + 1) (by omega)
        simp only [List.getElem?_cons_succ] at this
        rw [← this]; congr 1; omega)
      simp [this]

def delP : List Bool → PM α → PM α
  | _, .nil => .nil
  | [], .node _ l r => .node none l r
  | b :: p, .node v l r => match b with
    | true => .node v (delP p l) r
    | false => .node v l (delP p r)
theorem getP_delP (p q : List Bool) : ∀ t : PM α, (delP p t).getP q = if p = q then none else t.getP q := by
  induction p generalizing q with
  | nil =>
    intro t
    cases t <;> cases q <;> simp [delP, getP]
  | cons b p ih =>
    intro t
    cases t with
    | nil => simp [delP, getP]
    | node v l r =>
      cases q with
      | nil => cases b <;> simp [delP, getP]
      | cons c q =>
        cases b <;> cases c <;> simp [delP, getP, ih]
def del (t : PM α) (k : Nat) : PM α := delP (road k k) t
theorem get_del (t : PM α) (k j : Nat) : (t.del k).get j = if k = j then none else t.get j := by
  unfold get del
  rw [getP_delP]
  by_cases h : k = j
  · simp [h]
  · have : road k k ≠ road j j := fun e => h (road_inj k j k j (Nat.le_refl _) (Nat.le_refl _) e)
    simp [h, this]
end PM
end Go.Det
