/- The document's sets (plain): what is asked of the rising list of a set's members. -/
import Derived.Test.YthcjnijggebcaaaRef06B
import Derived.Test.YthcjnijggebcaaaArrB
namespace Go.Proofs.Ythcjnijggebcaaa
set_option linter.unusedVariables false
section
variable {f : Nat → Bool}
theorem cntN_mono {i j : Nat} (h : i ≤ j) : cntN f i ≤ cntN f j := by
  induction j with
  | zero => have : i = 0 := by omega
            subst this; exact Nat.le_refl _
  | succ j ih =>
    rcases Nat.lt_or_ge i (j + 1) with h1 | h1
    · have := ih (by omega)
      cases hj : f j with
      | true => rw [cntN_yes hj]; omega
      | false => rw [cntN_no hj]; exact this
    · have : i = j + 1 := by omega
      subst this; exact Nat.le_refl _
theorem lstN_get : ∀ (N k : Nat), k < cntN f N → ∃ e : Nat, e < N ∧ (lstN f N).getD k 0 = e ∧ f e = true ∧ cntN f e = k := by
  intro N
  induction N with
  | zero => intro k h; simp [cntN] at h
  | succ N ih =>
    intro k h
    cases hN : f N with
    | false =>
      rw [cntN_no hN] at h
      obtain ⟨e, h1, h2, h3, h4⟩ := ih k h
      exact ⟨e, by omega, by rw [lstN_no hN]; exact h2, h3, h4⟩
    | true =>
      rw [cntN_yes hN] at h
      rcases Nat.lt_or_ge k (cntN f N) with h1 | h1
      · obtain ⟨e, h2, h3, h4, h5⟩ := ih k h1
        refine ⟨e, by omega, ?_, h4, h5⟩
        rw [lstN_yes hN, List.getD_eq_getElem?_getD, List.getElem?_append_left (by rw [lstN_length]; exact h1), ← List.getD_eq_getElem?_getD]
        exact h3
      · have hk : k = cntN f N := by omega
        refine ⟨N, by omega, ?_, hN, hk.symm⟩
        rw [lstN_yes hN, List.getD_eq_getElem?_getD, List.getElem?_append_right (by rw [lstN_length]; omega), lstN_length, hk]
        simp
theorem lst_length : (lst f).length = cntN f Most := lstN_length Most
theorem lst_get {k : Nat} (h : k < (lst f).length) : ∃ e : Nat, e < Most ∧ (lst f).getD k 0 = e ∧ f e = true ∧ cntN f e = k := lstN_get Most k (by rw [← lst_length]; exact h)
theorem lst_rk {v : Nat} (hv : v ≤ Most) : rk (lst f) v = cntN f v := by
  refine rk_at ?_ (fun p hp => ?_) (fun p hp hp2 => ?_)
  · rw [lst_length]; exact cntN_mono hv
  · obtain ⟨e, h1, h2, h3, h4⟩ := lst_get (f := f) (k := p) (by rw [lst_length]; have := cntN_mono (f := f) hv; omega)
    rw [h2]
    rcases Nat.lt_or_ge e v with h | h
    · omega
    · have := cntN_mono (f := f) h; omega
  · obtain ⟨e, h1, h2, h3, h4⟩ := lst_get hp2
    rw [h2]
    rcases Nat.lt_or_ge e v with h | h
    · have := cntN_step h h3; omega
    · omega
theorem lst_has (v : Nat) (hv : v < Most) : decide ((v : Int) ∈ lst f) = f v := by
  rw [Bool.eq_iff_iff, decide_eq_true_iff, lst_mem]
  constructor
  · rintro ⟨i, h1, h2, h3⟩
    have : i = v := by omega
    subst this; exact h3
  · intro h; exact ⟨v, hv, rfl, h⟩
/-- An answer as a number. -/
def atL (r : Int × Bool) : Int := if r.2 then r.1 else -1
theorem lst_next (v : Nat) (hv : v ≤ Most) : IsNext f v (atL (selL (lst f) (rk (lst f) v))) := by
  rw [lst_rk hv]
  rcases Nat.lt_or_ge (cntN f v) (lst f).length with h | h
  · rw [selL_yes h]
    obtain ⟨e, h1, h2, h3, h4⟩ := lst_get h
    rw [h2]
    refine .inr ⟨e, rfl, h1, ?_, h3, fun j hj1 hj2 => ?_⟩
    · rcases Nat.lt_or_ge e v with h5 | h5
      · have := cntN_step h5 h3; omega
      · omega
    · cases hf : f j with
      | false => rfl
      | true => have h5 := cntN_step hj2 hf; have := cntN_mono (f := f) (show v ≤ j by omega); omega
  · rw [selL_no (by omega)]
    refine .inl ⟨rfl, fun j hj1 hj2 => ?_⟩
    cases hf : f j with
    | false => rfl
    | true => have h5 := cntN_step (show j < Most from hj2) hf; have := cntN_mono (f := f) (show v ≤ j by omega); rw [lst_length] at h; omega
theorem lst_prev (v : Nat) (hv : v < Most) : IsPrev f v (atL (prevL16 (lst f) v)) := by
  unfold prevL16
  have hh := lst_has (f := f) v hv
  by_cases hm : (v : Int) ∈ lst f
  · rw [if_pos hm]
    rw [decide_eq_true hm] at hh
    exact .inr ⟨v, rfl, hv, Int.le_refl _, hh.symm, fun j h1 h2 => by omega⟩
  · rw [if_neg hm, lst_rk (Nat.le_of_lt hv)]
    rw [decide_eq_false hm] at hh
    rcases Nat.eq_zero_or_pos (cntN f v) with h0 | h0
    · rw [h0, selL_no (by omega)]
      refine .inl ⟨rfl, fun j hj1 hj2 => ?_⟩
      cases hf : f j with
      | false => rfl
      | true =>
        rcases Nat.lt_or_ge j v with h5 | h5
        · have := cntN_step h5 hf; omega
        · have : j = v := by omega
          subst this; rw [← hh] at hf; cases hf
    · have hle := cntN_mono (f := f) (Nat.le_of_lt hv)
      have hlt : cntN f v - 1 < (lst f).length := by rw [lst_length]; omega
      rw [show ((cntN f v : Nat) : Int) - 1 = ((cntN f v - 1 : Nat) : Int) from by omega, selL_yes hlt]
      obtain ⟨e, h1, h2, h3, h4⟩ := lst_get hlt
      rw [h2]
      have hev : e < v := by
        rcases Nat.lt_or_ge e v with h5 | h5
        · exact h5
        · have := cntN_mono (f := f) h5; omega
      refine .inr ⟨e, rfl, h1, by omega, h3, fun j hj1 hj2 hj3 => ?_⟩
      cases hf : f j with
      | false => rfl
      | true =>
        rcases Nat.lt_or_ge j v with h5 | h5
        · have a1 := cntN_step hj2 h3; have a2 := cntN_step h5 hf; omega
        · have : j = v := by omega
          subst this; rw [← hh] at hf; cases hf
theorem lst_sel {k : Nat} (hk : k < (lst f).length) : IsSel f k (atL (selL (lst f) k)) := by
  rw [selL_yes hk]
  obtain ⟨e, h1, h2, h3, h4⟩ := lst_get hk
  rw [h2]
  exact .inr ⟨e, rfl, h1, h3, by omega⟩
theorem selL_bnd {l : List Int} (hl : ∀ x ∈ l, 0 ≤ x ∧ x < 65536) (k : Int) : 0 ≤ (selL l k).1 ∧ (selL l k).1 < 65536 := by
  unfold selL
  split
  · rename_i h
    have hk : k.toNat < l.length := by omega
    rw [get_at hk]
    exact hl _ (List.getElem_mem _)
  · simp
theorem prevL_bnd {l : List Int} (hl : ∀ x ∈ l, 0 ≤ x ∧ x < 65536) (t : Int) : 0 ≤ (prevL16 l t).1 ∧ (prevL16 l t).1 < 65536 := by
  unfold prevL16
  split
  · rename_i h; exact hl _ h
  · exact selL_bnd hl _
end
end Go.Proofs.Ythcjnijggebcaaa
