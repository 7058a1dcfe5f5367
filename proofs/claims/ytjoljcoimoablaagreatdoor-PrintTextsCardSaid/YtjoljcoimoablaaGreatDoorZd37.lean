/-
  The start out of what is laid: closed facts as Bool.
-/
import Derived.Test.YtjoljcoimoablaaGreatDoorZd36
namespace Go.Det
def distinctB : List Nat → Bool
  | [] => true
  | x :: xs => (xs.all fun y => !(Nat.beq x y)) && distinctB xs
theorem distinctB_of : ∀ {l : List Nat}, distinctB l = true → l.Pairwise (· ≠ ·) := by
  intro l
  induction l with
  | nil => intro _; exact .nil
  | cons x xs ih =>
    intro h
    simp only [distinctB, Bool.and_eq_true, List.all_eq_true] at h
    refine .cons (fun y hy e => ?_) (ih h.2)
    have := h.1 y hy
    subst e
    simp at this
theorem start_of_laidB {P : Program} {ti tp : TypeId} {nm : String} (T : ErrTypes P ti tp nm) {W : World} {l : List (String × DataW Unit)} {ys : List (Nat × Want)} {ids : List (Nat × List Value)} {next : Nat}
    (hw : WantsOK P ti tp nm l ys ids) (hd : distinctB (ids.map (·.1)) = true) (hlt : (ids.all fun x => Nat.blt x.1 next) = true) (h : laidMet P l W) : ∃ ρ : Inj, Start ρ (entHeap ids next) W ∧ Gok ρ (fun g => ys.any fun y => Nat.beq y.1 g && (match y.2 with | .skip => false | _ => true)) :=
  start_of_laid T hw (distinctB_of hd) (fun x hx => by
    have := List.all_eq_true.1 hlt x hx
    rw [Nat.blt_eq] at this
    exact this) h
end Go.Det
