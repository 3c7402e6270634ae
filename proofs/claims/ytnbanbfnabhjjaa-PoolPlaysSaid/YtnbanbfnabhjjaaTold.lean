/- What the pool's iterator tells: the next one after what is told. -/
import Derived.Test.YtnbanbfnabhjjaaPoolAll
namespace Go.Proofs.Ytnbanbfnabhjjaa
open Go.RowKit
set_option linter.unusedVariables false
set_option linter.unusedSimpArgs false
/-- Where the place after what is told begins. -/
def nxP (k : Nat) : List (Nat × Int) → Nat
  | [] => k
  | e :: pre => nxP (e.1 + 1) pre
theorem nxP_app (k : Nat) (pre : List (Nat × Int)) (x : Nat × Int) : nxP k (pre ++ [x]) = x.1 + 1 := by
  induction pre generalizing k with
  | nil => rfl
  | cons e pre ih => exact ih _
theorem told_next (l : List (Option Int)) : ∀ (k : Nat) (pre : List (Nat × Int)), pre <+: toldP l k → pre.length < (toldP l k).length →
    ∃ i v, k ≤ nxP k pre ∧ nxP k pre ≤ i ∧ l[i - k]? = some (some v) ∧ (∀ j, nxP k pre ≤ j → j < i → l[j - k]? = some none) ∧ (∀ x, pre ++ [x] <+: toldP l k ↔ x = (i, v)) := by
  induction l with
  | nil => intro k pre _ h; simp [toldP] at h
  | cons o l ih =>
    intro k pre hp hl
    cases o with
    | none =>
      simp only [toldP] at hp hl
      obtain ⟨i, v, h1, h2, h3, h4, h5⟩ := ih (k + 1) pre hp hl
      have hk : nxP k pre = k ∨ nxP k pre = nxP (k + 1) pre := by cases pre <;> simp [nxP]
      refine ⟨i, v, ?_, by omega, ?_, ?_, by simpa [toldP] using h5⟩
      · omega
      · rw [show i - k = (i - (k + 1)) + 1 by omega]; simpa using h3
      · intro j hj hji
        by_cases hjk : j = k
        · subst hjk; simp
        · rw [show j - k = (j - (k + 1)) + 1 by omega]
          have := h4 j (by
            cases pre with
            | nil => show k + 1 ≤ j; have : k ≤ j := hj; omega
            | cons e pre => exact hj) hji
          simpa using this
    | some u =>
      simp only [toldP] at hp hl
      cases pre with
      | nil =>
        refine ⟨k, u, Nat.le_refl _, Nat.le_refl _, by simp, fun j h1 h2 => by have h1 : k ≤ j := h1; omega, fun x => ?_⟩
        simp [toldP, List.cons_prefix_cons]
      | cons e pre =>
        obtain ⟨rfl, hp2⟩ := List.cons_prefix_cons.1 hp
        obtain ⟨i, v, h1, h2, h3, h4, h5⟩ := ih (k + 1) pre hp2 (by simpa using hl)
        have hn : nxP k ((k, u) :: pre) = nxP (k + 1) pre := rfl
        refine ⟨i, v, by omega, by omega, ?_, ?_, fun x => ?_⟩
        · rw [show i - k = (i - (k + 1)) + 1 by omega]; simpa using h3
        · intro j hj hji
          rw [show j - k = (j - (k + 1)) + 1 by omega]
          have := h4 j (by omega) hji
          simpa using this
        · simp only [toldP, List.cons_append, List.cons_prefix_cons, true_and]; exact h5 x
end Go.Proofs.Ytnbanbfnabhjjaa
