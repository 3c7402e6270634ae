/- Lists of whole numbers (plain): what Compact makes; the rising list of some numbers; lists that rise are their members. -/
import Derived.Test.YthcjnijggebcaaaSrt
namespace Go.Proofs.Ythcjnijggebcaaa
set_option linter.unusedVariables false
/-- Compact, so far. -/
def cpt (l : List Int) : Nat → List Int
  | 0 => []
  | j + 1 => if j = 0 ∨ l.getD j 0 ≠ l.getD (j - 1) 0 then cpt l j ++ [l.getD j 0] else cpt l j
theorem cpt_new {l : List Int} {j : Nat} (h : j = 0 ∨ l.getD j 0 ≠ l.getD (j - 1) 0) : cpt l (j + 1) = cpt l j ++ [l.getD j 0] := by rw [cpt, if_pos h]
theorem cpt_old {l : List Int} {j : Nat} (h0 : 0 < j) (h : l.getD j 0 = l.getD (j - 1) 0) : cpt l (j + 1) = cpt l j := by rw [cpt, if_neg (fun hh => hh.elim (fun h1 => by omega) (fun h1 => h1 h))]
theorem cpt_le (l : List Int) : ∀ j, (cpt l j).length ≤ j
  | 0 => Nat.le_refl _
  | j + 1 => by
    have := cpt_le l j
    rw [cpt]; split
    · simp; omega
    · omega
/-- So long as nothing is twice. -/
theorem cpt_take {l : List Int} : ∀ j, j ≤ l.length → (∀ i, 0 < i → i < j → l.getD i 0 ≠ l.getD (i - 1) 0) → cpt l j = l.take j
  | 0, _, _ => rfl
  | j + 1, hj, h => by
    have hn : j = 0 ∨ l.getD j 0 ≠ l.getD (j - 1) 0 := by
      rcases Nat.eq_zero_or_pos j with h0 | h0
      · exact .inl h0
      · exact .inr (h j h0 (by omega))
    rw [cpt_new hn, cpt_take j (by omega) (fun i h1 h2 => h i h1 (by omega)), List.take_add_one]
    have : l[j]? = some (l.getD j 0) := by
      rw [List.getD_eq_getElem?_getD, List.getElem?_eq_getElem (by omega)]; rfl
    rw [this]; rfl
theorem cpt_mem {l : List Int} {x : Int} : ∀ j, j ≤ l.length → (x ∈ cpt l j ↔ x ∈ l.take j)
  | 0, _ => by simp [cpt]
  | j + 1, hj => by
    have hg : l[j]? = some (l.getD j 0) := by
      rw [List.getD_eq_getElem?_getD, List.getElem?_eq_getElem (by omega)]; rfl
    have ih := cpt_mem (l := l) (x := x) j (by omega)
    rw [List.take_add_one, hg]
    by_cases hn : j = 0 ∨ l.getD j 0 ≠ l.getD (j - 1) 0
    · rw [cpt_new hn]; simp only [List.mem_append, Option.toList_some, ih]
    · have h0 : 0 < j := Nat.pos_of_ne_zero (fun h => hn (.inl h))
      have he : l.getD j 0 = l.getD (j - 1) 0 := by
        rcases Classical.em (l.getD j 0 = l.getD (j - 1) 0) with h | h
        · exact h
        · exact absurd (.inr h) hn
      rw [cpt_old h0 he, ih]
      simp only [List.mem_append, Option.toList_some, List.mem_singleton]
      refine ⟨.inl, ?_⟩
      rintro (h | h)
      · exact h
      · rw [h, he]
        have hg2 : l[j - 1]? = some (l.getD (j - 1) 0) := by
          rw [List.getD_eq_getElem?_getD, List.getElem?_eq_getElem (by omega)]; rfl
        have : (l.take j)[j - 1]? = some (l.getD (j - 1) 0) := by rw [List.getElem?_take_of_lt (by omega)]; exact hg2
        exact List.mem_of_getElem? this
theorem cpt_rises {l : List Int} (hl : l.Pairwise (· ≤ ·)) : ∀ j, j ≤ l.length → (cpt l j).Pairwise (· < ·)
  | 0, _ => by simp [cpt]
  | j + 1, hj => by
    have ih := cpt_rises hl j (by omega)
    by_cases hn : j = 0 ∨ l.getD j 0 ≠ l.getD (j - 1) 0
    · rw [cpt_new hn, List.pairwise_append]
      refine ⟨ih, by simp, fun x hx y hy => ?_⟩
      simp only [List.mem_singleton] at hy
      subst hy
      rcases Nat.eq_zero_or_pos j with h0 | h0
      · subst h0; simp [cpt] at hx
      · have hne : l.getD j 0 ≠ l.getD (j - 1) 0 := by
          rcases hn with h | h
          · omega
          · exact h
        have hx2 := (cpt_mem j (by omega)).1 hx
        obtain ⟨i, hi, rfl⟩ := List.getElem_of_mem hx2
        have hi2 : i < j := by rw [List.length_take] at hi; omega
        rw [List.getElem_take]
        have e1 : l.getD j 0 = l[j] := by simp [List.getD_eq_getElem?_getD, List.getElem?_eq_getElem (show j < l.length by omega)]
        have e2 : l.getD (j - 1) 0 = l[j - 1] := by simp [List.getD_eq_getElem?_getD, List.getElem?_eq_getElem (show j - 1 < l.length by omega)]
        have h1 : l[j - 1] ≤ l[j] := List.pairwise_iff_getElem.1 hl (j - 1) j (by omega) (by omega) (by omega)
        have h2 : l[i] ≤ l[j - 1] := by
          rcases Nat.lt_or_ge i (j - 1) with h | h
          · exact List.pairwise_iff_getElem.1 hl i (j - 1) (by omega) (by omega) h
          · have : i = j - 1 := by omega
            subst this; exact Int.le_refl _
        rw [e1] at hne ⊢
        rw [e2] at hne
        omega
    · have h0 : 0 < j := Nat.pos_of_ne_zero (fun h => hn (.inl h))
      have he : l.getD j 0 = l.getD (j - 1) 0 := by
        rcases Classical.em (l.getD j 0 = l.getD (j - 1) 0) with h | h
        · exact h
        · exact absurd (.inr h) hn
      rw [cpt_old h0 he]; exact ih
/-- Compact. -/
def cpc (l : List Int) : List Int := cpt l l.length
/-- The rising list of these numbers. -/
def asc (l : List Int) : List Int := cpc (srt l)
theorem asc_mem {l : List Int} {x : Int} : x ∈ asc l ↔ x ∈ l := by
  unfold asc cpc
  rw [cpt_mem _ (Nat.le_refl _), List.take_length, srt_mem]
theorem asc_rises (l : List Int) : (asc l).Pairwise (· < ·) := cpt_rises (srt_rises l) _ (Nat.le_refl _)
theorem asc_le (l : List Int) : (asc l).length ≤ l.length := by
  have := cpt_le (srt l) (srt l).length
  rw [srt_length] at this; unfold asc cpc; rw [srt_length]; exact this
/-- Two rising lists of the same members are one. -/
theorem rise_ext {a b : List Int} (ha : a.Pairwise (· < ·)) (hb : b.Pairwise (· < ·)) (h : ∀ x, x ∈ a ↔ x ∈ b) : a = b := by
  induction a generalizing b with
  | nil =>
    cases b with
    | nil => rfl
    | cons y b => exact absurd ((h y).2 (by simp)) (by simp)
  | cons x a ih =>
    cases b with
    | nil => exact absurd ((h x).1 (by simp)) (by simp)
    | cons y b =>
      rw [List.pairwise_cons] at ha hb
      have hx := (h x).1 (by simp)
      have hy := (h y).2 (by simp)
      have e : x = y := by
        rcases List.mem_cons.1 hx with h1 | h1
        · exact h1
        · rcases List.mem_cons.1 hy with h2 | h2
          · exact h2.symm
          · have := hb.1 x h1; have := ha.1 y h2; omega
      subst e
      congr 1
      refine ih ha.2 hb.2 (fun z => ?_)
      have hz := h z
      simp only [List.mem_cons] at hz
      constructor
      · intro h1
        rcases hz.1 (.inr h1) with h2 | h2
        · have := ha.1 z h1; omega
        · exact h2
      · intro h1
        rcases hz.2 (.inr h1) with h2 | h2
        · have := hb.1 z h1; omega
        · exact h2
theorem asc_eq {a l : List Int} (ha : a.Pairwise (· < ·)) (h : ∀ x, x ∈ a ↔ x ∈ l) : asc l = a := rise_ext (asc_rises l) ha (fun x => by rw [asc_mem, h x])
theorem asc_self {a : List Int} (ha : a.Pairwise (· < ·)) : asc a = a := asc_eq ha (fun _ => Iff.rfl)
/-- How many are below. -/
def rk (l : List Int) (t : Int) : Nat := l.countP (fun x => decide (x < t))
theorem rk_le (l : List Int) (t : Int) : rk l t ≤ l.length := List.countP_le_length
/-- In a list that does not fall the place that parts it is the count. -/
theorem rk_at {l : List Int} {t : Int} {i : Nat} (hi : i ≤ l.length) (h1 : ∀ p, p < i → l.getD p 0 < t) (h2 : ∀ p, i ≤ p → p < l.length → t ≤ l.getD p 0) : rk l t = i := by
  unfold rk
  have e : l = l.take i ++ l.drop i := (List.take_append_drop i l).symm
  rw [e, List.countP_append]
  have a1 : (l.take i).countP (fun x => decide (x < t)) = i := by
    have : (l.take i).countP (fun x => decide (x < t)) = (l.take i).length := by
      rw [List.countP_eq_length]
      intro x hx
      obtain ⟨p, hp, rfl⟩ := List.getElem_of_mem hx
      have hp2 : p < i ∧ p < l.length := by rw [List.length_take] at hp; omega
      have := h1 p hp2.1
      rw [List.getElem_take]
      simpa [List.getD_eq_getElem?_getD, List.getElem?_eq_getElem hp2.2] using this
    rw [this, List.length_take]; omega
  have a2 : (l.drop i).countP (fun x => decide (x < t)) = 0 := by
    rw [List.countP_eq_zero]
    intro x hx
    obtain ⟨p, hp, rfl⟩ := List.getElem_of_mem hx
    have hp2 : i + p < l.length := by rw [List.length_drop] at hp; omega
    have := h2 (i + p) (by omega) hp2
    rw [List.getElem_drop]
    simp [List.getD_eq_getElem?_getD, List.getElem?_eq_getElem hp2] at this
    simp; omega
  rw [a1, a2]; omega
theorem rk_lt {l : List Int} {t : Int} (hl : l.Pairwise (· ≤ ·)) {p : Nat} (hp : p < rk l t) : l.getD p 0 < t ∧ p < l.length := by
  have hlen := rk_le l t
  refine ⟨?_, by omega⟩
  rcases Int.lt_or_le (l.getD p 0) t with h | h
  · exact h
  · -- all from p on are as great as t, so at most p are below
    have : rk l t ≤ p := by
      unfold rk
      have e : l = l.take p ++ l.drop p := (List.take_append_drop p l).symm
      rw [e, List.countP_append]
      have a2 : (l.drop p).countP (fun x => decide (x < t)) = 0 := by
        rw [List.countP_eq_zero]
        intro x hx
        obtain ⟨q, hq, rfl⟩ := List.getElem_of_mem hx
        have hq2 : p + q < l.length := by rw [List.length_drop] at hq; omega
        rw [List.getElem_drop]
        have e1 : l.getD p 0 = l[p] := by simp [List.getD_eq_getElem?_getD, List.getElem?_eq_getElem (show p < l.length by omega)]
        rw [e1] at h
        have h3 : l[p] ≤ l[p + q] := by
          rcases Nat.eq_zero_or_pos q with h0 | h0
          · subst h0; exact Int.le_refl _
          · exact List.pairwise_iff_getElem.1 hl p (p + q) (by omega) hq2 (by omega)
        simp; omega
      have a1 : (l.take p).countP (fun x => decide (x < t)) ≤ (l.take p).length := List.countP_le_length
      rw [List.length_take] at a1
      omega
    omega
theorem rk_ge {l : List Int} {t : Int} (hl : l.Pairwise (· ≤ ·)) {p : Nat} (hp : rk l t ≤ p) (hp2 : p < l.length) : t ≤ l.getD p 0 := by
  rcases Int.lt_or_le (l.getD p 0) t with h | h
  · have e1 : l.getD p 0 = l[p] := by simp [List.getD_eq_getElem?_getD, List.getElem?_eq_getElem hp2]
    rw [e1] at h
    have : p + 1 ≤ rk l t := by
      unfold rk
      have e : l = l.take (p + 1) ++ l.drop (p + 1) := (List.take_append_drop (p + 1) l).symm
      rw [e, List.countP_append]
      have a1 : (l.take (p + 1)).countP (fun x => decide (x < t)) = (l.take (p + 1)).length := by
        rw [List.countP_eq_length]
        intro x hx
        obtain ⟨q, hq, rfl⟩ := List.getElem_of_mem hx
        rw [List.length_take] at hq
        rw [List.getElem_take]
        have h3 : l[q]'(by omega) ≤ l[p] := by
          rcases Nat.lt_or_ge q p with h0 | h0
          · exact List.pairwise_iff_getElem.1 hl q p (by omega) hp2 h0
          · have : q = p := by omega
            subst this; exact Int.le_refl _
        simp; omega
      rw [a1, List.length_take]; omega
    omega
  · exact h
/-- It is in it just if it stands at its rank. -/
theorem mem_rk {l : List Int} {t : Int} (hl : l.Pairwise (· ≤ ·)) : t ∈ l ↔ rk l t < l.length ∧ l.getD (rk l t) 0 = t := by
  constructor
  · intro h
    obtain ⟨p, hp, rfl⟩ := List.getElem_of_mem h
    have e1 : l.getD p 0 = l[p] := by simp [List.getD_eq_getElem?_getD, List.getElem?_eq_getElem hp]
    have h1 : rk l l[p] ≤ p := by
      rcases Nat.lt_or_ge p (rk l l[p]) with h2 | h2
      · have := (rk_lt hl h2).1; omega
      · exact h2
    refine ⟨by omega, ?_⟩
    have h2 := rk_ge hl (Nat.le_refl (rk l l[p])) (by omega)
    have h3 : l.getD (rk l l[p]) 0 ≤ l[p] := by
      have e2 : l.getD (rk l l[p]) 0 = l[rk l l[p]]'(by omega) := by simp [List.getD_eq_getElem?_getD, List.getElem?_eq_getElem (show rk l l[p] < l.length by omega)]
      rw [e2]
      rcases Nat.lt_or_ge (rk l l[p]) p with h3 | h3
      · exact List.pairwise_iff_getElem.1 hl _ p (by omega) hp h3
      · have : rk l l[p] = p := by omega
        simp only [this]; exact Int.le_refl _
    omega
  · rintro ⟨h1, h2⟩
    rw [← h2]
    have e1 : l.getD (rk l t) 0 = l[rk l t] := by simp [List.getD_eq_getElem?_getD, List.getElem?_eq_getElem h1]
    rw [e1]; exact List.getElem_mem _
theorem rises_le {l : List Int} (h : l.Pairwise (· < ·)) : l.Pairwise (· ≤ ·) := h.imp (fun h => Int.le_of_lt h)
end Go.Proofs.Ythcjnijggebcaaa
