/- What a pool's model holds at a place, behind each of its changes. Plain Lean. -/
import Derived.Test.YtnbanbfnabhjjaaPoolM
namespace Go.Proofs.Ytnbanbfnabhjjaa
set_option linter.unusedVariables false
set_option linter.unusedSimpArgs false
section
variable {α : Type}
theorem PS.get_nat (s : PS α) (i : Nat) : s.get (i : Int) = (s.cells[i]?).join := by
  have : ¬ ((i : Int) < 0) := by omega
  simp [PS.get, this]
theorem PS.get_neg (s : PS α) {i : Int} (h : i < 0) : s.get i = none := by simp [PS.get, h]
theorem PS.get_put {s : PS α} {i : Nat} (hi : i < s.cells.length) (v : α) (j : Int) : (s.put i v).get j = if j = i then some v else s.get j := by
  by_cases hj : j < 0
  · rw [PS.get_neg _ hj, PS.get_neg _ hj, if_neg (by omega)]
  · obtain ⟨j, rfl⟩ : ∃ q : Nat, j = q := ⟨j.toNat, by omega⟩
    rw [PS.get_nat, PS.get_nat]; simp only [PS.put, List.getElem?_set]
    by_cases h : i = j
    · subst h; simp [hi]
    · rw [if_neg h, if_neg (by omega)]
theorem PS.get_drop {s : PS α} {i : Nat} (hi : i < s.cells.length) (j : Int) : (s.drop i).get j = if j = i then none else s.get j := by
  by_cases hj : j < 0
  · rw [PS.get_neg _ hj, PS.get_neg _ hj, if_neg (by omega)]
  · obtain ⟨j, rfl⟩ : ∃ q : Nat, j = q := ⟨j.toNat, by omega⟩
    rw [PS.get_nat, PS.get_nat]; simp only [PS.drop, List.getElem?_set]
    by_cases h : i = j
    · subst h; simp [hi]
    · rw [if_neg h, if_neg (by omega)]
theorem PS.get_next {s : PS α} (h : s.wf) : s.get (s.nextAt : Int) = none := by
  rw [PS.get_nat]; unfold PS.nextAt
  cases hf : s.free.getLast? with
  | none => simp
  | some i => rw [Option.getD_some, (h.mem i).1 (PS.last_mem hf)]; rfl
theorem PS.get_take {s : PS α} (h : s.wf) (v : α) (j : Int) : (s.take v).get j = if j = s.nextAt then some v else s.get j := by
  by_cases hj : j < 0
  · rw [PS.get_neg _ hj, PS.get_neg _ hj, if_neg (by omega)]
  · obtain ⟨j, rfl⟩ : ∃ q : Nat, j = q := ⟨j.toNat, by omega⟩
    rw [PS.get_nat, PS.get_nat]; unfold PS.take PS.nextAt
    cases hf : s.free.getLast? with
    | none =>
      simp only [Option.getD_none, List.getElem?_append]
      by_cases hl : j < s.cells.length
      · rw [if_pos hl, if_neg (by omega)]
      · rw [if_neg hl]
        by_cases he : j = s.cells.length
        · subst he; simp
        · rw [if_neg (by omega), List.getElem?_eq_none (by simp; omega), List.getElem?_eq_none (by omega)]
    | some i =>
      have hi : i < s.cells.length := (List.getElem?_eq_some_iff.1 ((h.mem i).1 (PS.last_mem hf))).1
      simp only [Option.getD_some, List.getElem?_set]
      by_cases he : i = j
      · subst he; simp [hi]
      · rw [if_neg he, if_neg (by omega)]
theorem PS.get_lt {s : PS α} {i : Int} {v : α} (h : s.get i = some v) : i.toNat < s.cells.length ∧ 0 ≤ i := by
  obtain ⟨h0, h1⟩ := PS.get_some h
  exact ⟨(List.getElem?_eq_some_iff.1 h1).1, h0⟩
end
end Go.Proofs.Ytnbanbfnabhjjaa
