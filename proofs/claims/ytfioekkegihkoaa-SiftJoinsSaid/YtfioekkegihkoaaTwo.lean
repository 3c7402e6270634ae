/- Two rising lists joined (plain): what one has, rising. -/
import Derived.Test.YtfioekkegihkoaaGOrd
namespace Go.Proofs.Ytfioekkegihkoaa
open Go.RowKit
set_option linter.unusedVariables false
set_option linter.unusedSimpArgs false
/-- Joined, as the program joins: the lesser head first; equal heads once. -/
def twoL : List Int → List Int → List Int
  | [], b => b
  | a, [] => a
  | x :: a, y :: b => if x < y then x :: twoL a (y :: b) else if y < x then y :: twoL (x :: a) b else x :: twoL a b
  termination_by a b => a.length + b.length
theorem twoL_nil (a : List Int) : twoL a [] = a := by cases a <;> simp [twoL]
theorem twoL_mem {z : Int} : ∀ (n : Nat) (a b : List Int), a.length + b.length ≤ n → (z ∈ twoL a b ↔ z ∈ a ∨ z ∈ b)
  | _, [], b, _ => by simp [twoL]
  | _, x :: a, [], _ => by simp [twoL]
  | 0, x :: a, y :: b, h => by simp at h
  | n + 1, x :: a, y :: b, h => by
    simp only [List.length_cons] at h
    unfold twoL
    by_cases h1 : x < y
    · rw [if_pos h1, List.mem_cons, twoL_mem n a (y :: b) (by simp; omega)]; simp [or_assoc]
    · rw [if_neg h1]
      by_cases h2 : y < x
      · rw [if_pos h2, List.mem_cons, twoL_mem n (x :: a) b (by simp; omega)]
        simp only [List.mem_cons]
        constructor
        · rintro (h | h | h)
          · exact .inr (.inl h)
          · exact .inl h
          · exact .inr (.inr h)
        · rintro (h | h | h)
          · exact .inr (.inl h)
          · exact .inl h
          · exact .inr (.inr h)
      · have e : x = y := by omega
        rw [if_neg h2, List.mem_cons, twoL_mem n a b (by omega)]
        subst e
        simp only [List.mem_cons]
        constructor
        · rintro (h | h | h)
          · exact .inl (.inl h)
          · exact .inl (.inr h)
          · exact .inr (.inr h)
        · rintro ((h | h) | (h | h))
          · exact .inl h
          · exact .inr (.inl h)
          · exact .inl h
          · exact .inr (.inr h)
theorem twoL_rises : ∀ (n : Nat) (a b : List Int), a.length + b.length ≤ n → a.Pairwise (· < ·) → b.Pairwise (· < ·) → (twoL a b).Pairwise (· < ·)
  | _, [], b, _, _, hb => by simpa [twoL] using hb
  | _, x :: a, [], _, ha, _ => by simpa [twoL] using ha
  | 0, x :: a, y :: b, h, _, _ => by simp at h
  | n + 1, x :: a, y :: b, h, ha, hb => by
    simp only [List.length_cons] at h
    have ha' := List.pairwise_cons.1 ha
    have hb' := List.pairwise_cons.1 hb
    unfold twoL
    by_cases h1 : x < y
    · rw [if_pos h1, List.pairwise_cons]
      refine ⟨fun z hz => ?_, twoL_rises n a (y :: b) (by simp; omega) ha'.2 hb⟩
      rcases (twoL_mem _ a (y :: b) (Nat.le_refl _)).1 hz with h2 | h2
      · exact ha'.1 z h2
      · rcases List.mem_cons.1 h2 with rfl | h2
        · exact h1
        · exact Int.lt_trans h1 (hb'.1 z h2)
    · rw [if_neg h1]
      by_cases h2 : y < x
      · rw [if_pos h2, List.pairwise_cons]
        refine ⟨fun z hz => ?_, twoL_rises n (x :: a) b (by simp; omega) ha hb'.2⟩
        rcases (twoL_mem _ (x :: a) b (Nat.le_refl _)).1 hz with h3 | h3
        · rcases List.mem_cons.1 h3 with rfl | h3
          · exact h2
          · exact Int.lt_trans h2 (ha'.1 z h3)
        · exact hb'.1 z h3
      · have e : x = y := by omega
        rw [if_neg h2, List.pairwise_cons]
        refine ⟨fun z hz => ?_, twoL_rises n a b (by omega) ha'.2 hb'.2⟩
        rcases (twoL_mem _ a b (Nat.le_refl _)).1 hz with h3 | h3
        · exact ha'.1 z h3
        · rw [e]; exact hb'.1 z h3
/-- Rising lists with the same members are the same. -/
theorem twoL_asc {a b : List Int} (ha : a.Pairwise (· < ·)) (hb : b.Pairwise (· < ·)) : twoL a b = asc (a ++ b) :=
  rise_ext (twoL_rises _ a b (Nat.le_refl _) ha hb) (asc_rises _) (fun z => by rw [twoL_mem _ a b (Nat.le_refl _), asc_mem, List.mem_append])
end Go.Proofs.Ytfioekkegihkoaa
