/- Three facts on a program's head, out of its fourth word: over any program. -/
import GoSem.Claim
import GoSem.ClaimJoined
import Derived.KernelRfl
namespace Go.Pax
/-- The word 'cut', letter by letter. -/
def cutWord : List Char := [Char.ofNat 99, Char.ofNat 117, Char.ofNat 116]
theorem make_of {P : Program} {R : List (List Char)} (h : behindMainWord (wordsSigns P.initOrder.toList) = cutWord :: R) : P.make = some .cut := by
  have h1 : (cutWord == "gc".toList) = false := by kernel_rfl
  have h2 : (cutWord == "spec".toList) = false := by kernel_rfl
  have h3 : (cutWord == "cut".toList) = true := by kernel_rfl
  unfold Program.make
  rw [h]
  simp only [h1, h2, h3, Bool.or_self, Bool.false_eq_true, if_false, Bool.true_or, if_true]
theorem strip_cut (R : List (List Char)) : stripLifts liftWords (cutWord :: R) = ([], cutWord :: R) := by
  have : ∀ os : List String, (∀ o ∈ os, (cutWord == o.toList) = false) → stripLifts os (cutWord :: R) = ([], cutWord :: R) := by
    intro os
    induction os with
    | nil => intro _; rfl
    | cons o os ih =>
      intro h
      simp only [stripLifts]
      rw [if_neg (by rw [h o (by simp)]; exact Bool.false_ne_true)]
      exact ih fun o' h' => h o' (by simp [h'])
  refine this _ ?_
  intro o ho
  simp only [liftWords, List.mem_cons, List.not_mem_nil, or_false] at ho
  rcases ho with rfl | rfl | rfl | rfl | rfl | rfl | rfl | rfl | rfl | rfl | rfl | rfl | rfl | rfl | rfl <;> kernel_rfl
theorem lifts_of {P : Program} {R : List (List Char)} (h : behindMainWord (wordsSigns P.initOrder.toList) = cutWord :: R) : P.liftsFinal = false := by
  have h1 : (cutWord == "carried".toList) = false := by kernel_rfl
  unfold Program.liftsFinal Program.headLifts
  simp only [h, strip_cut, List.head?_cons]
  have h2 : (some cutWord == some "carried".toList) = false := h1
  have h3 : (some cutWord == some "cut".toList) = true := by kernel_rfl
  rw [h2, if_pos h3]
  rfl
theorem enter_of {P : Program} {R : List (List Char)} (h : behindMainWord (wordsSigns P.initOrder.toList) = cutWord :: R) (a1 : P.laysLater = false) (a2 : P.bearsReflect = false) (a3 : P.doorRows = []) : P.mayEnter = true := by
  have h3 : (some cutWord == some "cut".toList) = true := by kernel_rfl
  unfold Program.mayEnter Program.doorFits
  rw [h]
  simp only [strip_cut, a1, a2, a3, List.head?_cons, h3]
  simp [List.any]
end Go.Pax
