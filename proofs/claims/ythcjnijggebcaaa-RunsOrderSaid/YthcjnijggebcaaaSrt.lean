/- A list of whole numbers, sorted (plain); a row that is sorted, and back. -/
import Derived.Test.YthcjnijggebcaaaSortR
import Derived.Test.YthcjnijggebcaaaSl
namespace Go.Proofs.Ythcjnijggebcaaa
open Go.RowKit
set_option linter.unusedVariables false
/-- Sorted. -/
def srt (l : List Int) : List Int := l.mergeSort (fun x y => decide (x ≤ y))
theorem srt_perm (l : List Int) : (srt l).Perm l := List.mergeSort_perm _ _
theorem srt_length (l : List Int) : (srt l).length = l.length := (srt_perm l).length_eq
theorem srt_mem {l : List Int} {x : Int} : x ∈ srt l ↔ x ∈ l := (srt_perm l).mem_iff
theorem srt_rises (l : List Int) : (srt l).Pairwise (· ≤ ·) := by
  have h := List.pairwise_mergeSort (le := fun x y : Int => decide (x ≤ y)) (by intro a b c h1 h2; simp at h1 h2 ⊢; omega) (by intro a b; simp; omega) l
  exact h.imp (by simp)
theorem srt_of {l : List Int} {d' : Array Int} (h1 : Sort.PermIn 0 l.length l.toArray d') (h2 : Sort.SortedIn Sort.ltInt 0 l.length d') : d'.toList = srt l := by
  have h := Sort.sorted_unique_holds (lt := Sort.ltInt) Sort.swo_ltInt (by intro x y h1 h2; simp [Sort.ltInt] at h1 h2; omega) l.toArray d' (by simpa using h1) (by simpa using h2)
  rw [h]
  unfold srt
  simp only [Sort.ltInt]
  congr 1
  funext x y
  by_cases hxy : x ≤ y
  · rw [decide_eq_true hxy, decide_eq_false (by omega)]; rfl
  · rw [decide_eq_false hxy, decide_eq_true (by omega)]; rfl
theorem SR.of_row {k : IntKind} {e : Nat} {w : World} {v : Value} {l : List Int} (h : Row w e 1 v l.length (icells k l)) (hpos : 0 < l.length) :
    ∃ g cap, v = .slice (some ⟨g, 0, none⟩) l.length cap ∧ rb v = [g] ∧ SR k e cap g 0 l.length w w l.toArray ∧ l.length ≤ cap ∧ cap ≤ 9223372036854775807 := by
  rcases h.2 with ⟨rfl, h2⟩ | ⟨g, cap, cur, rfl, hb, hgg, h3, h4, h5, h6⟩
  · omega
  · refine ⟨g, cap, rfl, by simp [rb, Value.ownBlock], ⟨by simp, Mod.refl _ _, cur, hgg, by simpa using h5, fun t ht => ?_⟩, h3, by unfold maxLen at h4; exact h4⟩
    have h7 : cur.toList[t]? = (icells k l)[t]? := by rw [← h6]; simp [List.getElem?_take, ht]
    have h8 : l[t]? = some l[t] := List.getElem?_eq_getElem ht
    rw [Nat.zero_add]
    have h9 : cur[t]? = cur.toList[t]? := by simp
    rw [h9, h7, icells_get h8]
    simp [ht]
theorem SR.to_row {k : IntKind} {e g cap n : Nat} {w0 w w' : World} {d' : Array Int} {xs : List Value} (h : SR k e cap g 0 n w0 w' d') (h0 : Row w e 1 (.slice (some ⟨g, 0, none⟩) n cap) n xs) :
    Row w' e 1 (.slice (some ⟨g, 0, none⟩) n cap) n (icells k d'.toList) := by
  have hz := h.size
  refine ⟨by simp [icells, hz], ?_⟩
  rcases h0.2 with ⟨h1, _⟩ | ⟨g2, cap2, cur, hv, hb, hgg, h3, h4, h5, h6⟩
  · cases h1
  · injection hv with hv hv2 hv3
    injection hv with hv
    injection hv with hv
    subst hv hv3
    obtain ⟨cs, c1, c2, c3⟩ := h.blk
    refine .inr ⟨g, cap, cs, rfl, hb, c1, h3, h4, by simpa using c2, ?_⟩
    apply List.ext_getElem?
    intro t
    by_cases ht : t < n
    · have h7 := c3 t ht
      rw [Nat.zero_add] at h7
      rw [List.getElem?_take_of_lt (by simpa using ht)]
      have h9 : cs.toList[t]? = cs[t]? := by simp
      rw [h9, h7]
      have h8 : d'.toList[t]? = some d'[t]! := by
        have : t < d'.size := by omega
        simp [this]
      exact (icells_get h8).symm
    · rw [List.getElem?_eq_none (by simp; omega), List.getElem?_eq_none (by simp [icells, hz]; omega)]
end Go.Proofs.Ythcjnijggebcaaa
