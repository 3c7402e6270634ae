/- Plain laws for ArrayChanges. -/
import Derived.Test.YthcjnijggebcaaaSetL
import Derived.Test.YthcjnijggebcaaaArrB
namespace Go.Proofs.Ythcjnijggebcaaa
set_option linter.unusedVariables false
set_option linter.unusedSimpArgs false
/-- A list of different numbers of sixteen bits, rising. -/
def Nums16 (l : List Int) : Prop := l.Pairwise (· < ·) ∧ ∀ x ∈ l, 0 ≤ x ∧ x < 65536
theorem lst_nums16 {f : Nat → Bool} {l : List Int} (h : Nums16 l) (hf : ∀ i, i < Most → f i = decide ((i : Int) ∈ l)) : lst f = l := by
  rw [lst_asc h.2 hf, asc_self h.1]
/-- The part from p to q. -/
def ptL (l : List Int) (p q : Int) : List Int := l.filter (fun x => decide (p ≤ x) && decide (x ≤ q))
theorem part_pt {l : List Int} (hl : l.Pairwise (· < ·)) (p q : Int) : (l.take (rk l q + (if q ∈ l then 1 else 0))).drop (rk l p) = ptL l p q := by
  have hle := rises_le hl
  have hA : ∀ k, k < l.length → (rk l p ≤ k ↔ p ≤ l.getD k 0) := fun k hk => by
    constructor
    · exact fun h => rk_ge hle h hk
    · intro h
      rcases Nat.lt_or_ge k (rk l p) with h1 | h1
      · have := (rk_lt hle h1).1; omega
      · exact h1
  have hB : ∀ k, k < l.length → (k < rk l q + (if q ∈ l then 1 else 0) ↔ l.getD k 0 ≤ q) := fun k hk => by
    rcases Nat.lt_or_ge k (rk l q) with h1 | h1
    · have := (rk_lt hle h1).1
      constructor
      · intro _; omega
      · intro _; omega
    · have h2 := rk_ge hle h1 hk
      by_cases hq : q ∈ l
      · rw [if_pos hq]
        obtain ⟨h3, h4⟩ := (mem_rk hle).1 hq
        rcases Nat.eq_or_lt_of_le h1 with h5 | h5
        · rw [← h5, h4]; constructor
          · intro _; exact Int.le_refl _
          · intro _; omega
        · have := List.pairwise_iff_getElem.1 hl (rk l q) k h3 hk h5
          rw [get_at h3] at h4
          rw [get_at hk]
          constructor
          · intro h; omega
          · intro h; omega
      · rw [if_neg hq]
        have : l.getD k 0 ≠ q := fun h => hq (by rw [← h, get_at hk]; exact List.getElem_mem hk)
        constructor
        · intro h; omega
        · intro h; omega
  refine rise_ext (hl.sublist ((List.drop_sublist _ _).trans (List.take_sublist _ _))) (hl.filter _) (fun x => ?_)
  unfold ptL
  rw [List.mem_filter]
  constructor
  · intro hx
    obtain ⟨k, hk, rfl⟩ := List.getElem_of_mem hx
    rw [List.length_drop, List.length_take] at hk
    rw [List.getElem_drop, List.getElem_take]
    have hk2 : rk l p + k < l.length := by omega
    have h1 := (hA _ hk2).1 (by omega)
    have h2 := (hB _ hk2).1 (by omega)
    rw [get_at hk2] at h1 h2
    exact ⟨List.getElem_mem _, by simp [h1, h2]⟩
  · rintro ⟨hx, hc⟩
    obtain ⟨k, hk, rfl⟩ := List.getElem_of_mem hx
    simp only [Bool.and_eq_true, decide_eq_true_eq] at hc
    rw [← get_at hk] at hc
    have h1 := (hA k hk).2 hc.1
    have h2 := (hB k hk).2 hc.2
    refine List.mem_iff_getElem.2 ⟨k - rk l p, by rw [List.length_drop, List.length_take]; omega, ?_⟩
    rw [List.getElem_drop, List.getElem_take]
    congr 1; omega
theorem ptL_step {l : List Int} {i : Nat} {x : Int} (h : l[i]? = some x) (p q : Int) : ptL (l.take (i + 1)) p q = if p ≤ x ∧ x ≤ q then ptL (l.take i) p q ++ [x] else ptL (l.take i) p q := by
  unfold ptL
  rw [List.take_add_one, h, List.filter_append]
  by_cases hp : p ≤ x <;> by_cases hq : x ≤ q <;> simp [hp, hq]
theorem ptL_len (l : List Int) (p q : Int) : (ptL l p q).length ≤ l.length := List.length_filter_le _ _
theorem lst_up {l : List Int} (h : Nums16 l) (v : Nat) (hv : v < 65536) : lst (fun j => if v ≤ j ∧ j ≤ v then true else decide ((j : Int) ∈ l)) = if (v : Int) ∈ l then l else insL l v := by
  by_cases hm : (v : Int) ∈ l
  · rw [if_pos hm]
    refine lst_nums16 h (fun i _ => ?_)
    by_cases hi : v ≤ i ∧ i ≤ v
    · have : i = v := by omega
      subst this; rw [if_pos hi, decide_eq_true hm]
    · rw [if_neg hi]
  · rw [if_neg hm]
    refine lst_nums16 ⟨insL_rises h.1 hm, fun x hx => ?_⟩ (fun i _ => ?_)
    · rcases insL_mem.1 hx with rfl | hx
      · omega
      · exact h.2 x hx
    · by_cases hi : v ≤ i ∧ i ≤ v
      · have : i = v := by omega
        subst this; rw [if_pos hi, decide_eq_true (insL_mem.2 (.inl rfl))]
      · rw [if_neg hi, decide_eq_decide, insL_mem]
        constructor
        · exact .inr
        · rintro (h1 | h1)
          · omega
          · exact h1
theorem lst_down {l : List Int} (h : Nums16 l) (v : Nat) : lst (fun j => if v ≤ j ∧ j ≤ v then false else decide ((j : Int) ∈ l)) = if (v : Int) ∈ l then delL l v else l := by
  by_cases hm : (v : Int) ∈ l
  · rw [if_pos hm]
    refine lst_nums16 ⟨delL_rises h.1, fun x hx => h.2 x ((delL_mem h.1 hm).1 hx).1⟩ (fun i _ => ?_)
    by_cases hi : v ≤ i ∧ i ≤ v
    · have : i = v := by omega
      subst this
      rw [if_pos hi, decide_eq_false (fun h1 => ((delL_mem h.1 hm).1 h1).2 rfl)]
    · rw [if_neg hi, decide_eq_decide, delL_mem h.1 hm]
      constructor
      · intro h1; exact ⟨h1, by omega⟩
      · exact fun h1 => h1.1
  · rw [if_neg hm]
    refine lst_nums16 h (fun i _ => ?_)
    by_cases hi : v ≤ i ∧ i ≤ v
    · have : i = v := by omega
      subst this; rw [if_pos hi, decide_eq_false hm]
    · rw [if_neg hi]
theorem Nums16.length {l : List Int} (h : Nums16 l) : l.length ≤ 65536 := by
  have := lst_nums16 (f := fun i => decide ((i : Int) ∈ l)) h (fun _ _ => rfl)
  rw [← this, lst_length]
  exact cntN_le Most
theorem lst_short (f : Nat → Bool) : (lst f).length ≤ 65536 := by rw [lst_length]; exact cntN_le Most
end Go.Proofs.Ythcjnijggebcaaa
