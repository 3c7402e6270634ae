/- Lists: several places stored at once. Plain Lean. -/
import Derived.Test.YtfioekkegihkoaaGLib
set_option linter.unusedVariables false
set_option linter.unusedSimpArgs false
namespace Go.Proofs.Ytfioekkegihkoaa
def setAll {β : Type} (xs : List β) (p : Nat) : List β → List β
  | [] => xs
  | a :: l => setAll (xs.set p a) (p + 1) l
theorem setAll_eq {β : Type} (xs : List β) (p : Nat) (ys : List β) (h : p + ys.length ≤ xs.length) : setAll xs p ys = xs.take p ++ ys ++ xs.drop (p + ys.length) := by
  induction ys generalizing xs p with
  | nil => simp [setAll]
  | cons a l ih =>
    simp only [List.length_cons] at h
    rw [setAll, ih _ _ (by simp; omega)]
    have h1 : (xs.set p a).take (p + 1) = xs.take p ++ [a] := by
      rw [List.take_add_one, List.take_set_of_le (Nat.le_refl _)]; simp [show p < xs.length by omega]
    have h2 : (xs.set p a).drop (p + 1 + l.length) = xs.drop (p + (l.length + 1)) := by
      rw [List.drop_set_of_lt (by omega)]; congr 1; omega
    rw [h1, h2]; simp
end Go.Proofs.Ytfioekkegihkoaa
