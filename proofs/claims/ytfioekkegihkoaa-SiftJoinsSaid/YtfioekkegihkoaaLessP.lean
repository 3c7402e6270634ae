/- What is left of a rising list from a key on (plain). -/
import Derived.Test.YtfioekkegihkoaaGOrd
namespace Go.Proofs.Ytfioekkegihkoaa
set_option linter.unusedVariables false
set_option linter.unusedSimpArgs false
theorem rk_drop {m : List Int} (hm : m.Pairwise (· < ·)) {x : Int} {r : Nat} (hr : r ≤ rk m x) : rk m x = r + rk (m.drop r) x := by
  have hle := rk_le m x
  have e : rk m x = rk (m.take r) x + rk (m.drop r) x := by
    unfold rk; rw [← List.countP_append, List.take_append_drop]
  have h1 : rk (m.take r) x = r := by
    have hl : (m.take r).length = r := by rw [List.length_take]; omega
    conv => rhs; rw [← hl]
    unfold rk
    rw [List.countP_eq_length]
    intro y hy
    obtain ⟨i, hi, rfl⟩ := List.mem_iff_getElem.1 hy
    have h2 := (rk_lt (rises_le hm) (t := x) (p := i) (by omega)).1
    rw [List.getElem_take]
    rw [List.getD_eq_getElem?_getD, List.getElem?_eq_getElem (by omega)] at h2
    simpa using h2
  omega
theorem mem_drop_rk {m : List Int} (hm : m.Pairwise (· < ·)) {x : Int} {r : Nat} (hr : r ≤ rk m x) : x ∈ m.drop r ↔ x ∈ m := by
  refine ⟨fun h => List.mem_of_mem_drop h, fun h => ?_⟩
  obtain ⟨h1, h2⟩ := (mem_rk (rises_le hm)).1 h
  rw [List.mem_iff_getElem]
  refine ⟨rk m x - r, by rw [List.length_drop]; omega, ?_⟩
  rw [List.getElem_drop]
  rw [List.getD_eq_getElem?_getD, List.getElem?_eq_getElem h1] at h2
  simp only [Option.getD_some] at h2
  simp only [show r + (rk m x - r) = rk m x from by omega]
  exact h2
end Go.Proofs.Ytfioekkegihkoaa
