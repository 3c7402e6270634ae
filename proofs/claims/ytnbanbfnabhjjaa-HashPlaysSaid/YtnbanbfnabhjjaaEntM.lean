/- The document's entries (plain): a rising list by level and prefix: where a key stands, one more, one less. -/
import Derived.Test.YtnbanbfnabhjjaaHashAll
namespace Go.Proofs.Ytnbanbfnabhjjaa
set_option linter.unusedVariables false
set_option linter.unusedSimpArgs false
def ltK (a b : HK) : Bool := decide (a.1 < b.1) || (decide (a.1 = b.1) && decide (a.2 < b.2))
theorem ltE_K (x y : HK × Int) : ltOf cfE x y = ltK x.1 y.1 := ltE x y
theorem ltK_irrefl (a : HK) : ltK a a = false := by unfold ltK; simp
theorem ltK_trans {a b c : HK} (h : ltK a b = true) (k : ltK b c = true) : ltK a c = true := by unfold ltK at *; simp at *; omega
theorem ltK_tri {a b : HK} (h : ltK a b = false) (hn : a ≠ b) : ltK b a = true := by
  unfold ltK at *; simp at *
  have : ¬ (a.1 = b.1 ∧ a.2 = b.2) := fun e => hn (Prod.ext e.1 e.2)
  omega
abbrev EL := List (HK × Int)
/-- Where a key stands, or would. -/
def fposE : EL → HK → Nat
  | [], _ => 0
  | e :: l, k => if ltK e.1 k then fposE l k + 1 else 0
def fisE (l : EL) (k : HK) : Bool := match l[fposE l k]? with | some e => decide (e.1 = k) | none => false
theorem fposE_le (l : EL) (k : HK) : fposE l k ≤ l.length := by
  induction l with
  | nil => simp [fposE]
  | cons e l ih => simp only [fposE]; split <;> simp; omega
theorem fposE_lt (l : EL) (k : HK) : ∀ j e, j < fposE l k → l[j]? = some e → ltK e.1 k = true := by
  induction l with
  | nil => intro j e h; simp [fposE] at h
  | cons x l ih =>
    intro j e h hj
    simp only [fposE] at h
    split at h
    · rename_i hx
      cases j with
      | zero => simp at hj; subst hj; exact hx
      | succ j => exact ih j e (by omega) (by simpa using hj)
    · omega
theorem fposE_ge (l : EL) (k : HK) : ∀ e, l[fposE l k]? = some e → ltK e.1 k = false := by
  induction l with
  | nil => intro e h; simp [fposE] at h
  | cons x l ih =>
    intro e h
    simp only [fposE] at h
    split at h
    · exact ih e (by simpa using h)
    · rename_i hx
      simp at h; subst h; simpa using hx
theorem rise_lt {l : EL} (h : RiseE l) {i j : Nat} {a b : HK × Int} (hi : l[i]? = some a) (hj : l[j]? = some b) (hij : i < j) : ltK a.1 b.1 = true := by
  obtain ⟨h1, rfl⟩ := List.getElem?_eq_some_iff.1 hi
  obtain ⟨h2, rfl⟩ := List.getElem?_eq_some_iff.1 hj
  rw [← ltE_K]; exact (List.pairwise_iff_getElem.1 h) i j h1 h2 hij
/-- All behind the key's place are behind the key. -/
theorem rise_behind {l : EL} (h : RiseE l) (k : HK) {j : Nat} {e : HK × Int} (hj : l[j]? = some e) (hij : fposE l k < j) : ltK k e.1 = true := by
  have hlt : fposE l k < l.length := by have := (List.getElem?_eq_some_iff.1 hj).1; omega
  have hi := List.getElem?_eq_getElem hlt
  have h1 := fposE_ge l k _ hi
  have h2 := rise_lt h hi hj hij
  by_cases he : l[fposE l k].1 = k
  · rw [← he]; exact h2
  · exact ltK_trans (ltK_tri h1 he) h2
theorem lk_isE {l : EL} (h : RiseE l) (k : HK) : lk l k = if fisE l k then (l[fposE l k]?).map (·.2) else none := by
  have hne : ∀ j e, l[j]? = some e → j ≠ fposE l k → e.1 ≠ k := by
    intro j e hj hne he
    rcases Nat.lt_or_ge j (fposE l k) with h1 | h1
    · have := fposE_lt l k j e h1 hj; rw [he, ltK_irrefl] at this; cases this
    · have := rise_behind h k hj (by omega); rw [he, ltK_irrefl] at this; cases this
  have hnd : (l.map (·.1)).Nodup := by
    rw [List.nodup_iff_pairwise_ne, List.pairwise_map]
    exact h.imp (fun {a b} hab he => by rw [ltE_K, he, ltK_irrefl] at hab; cases hab)
  unfold fisE
  cases hi : l[fposE l k]? with
  | none =>
    simp only [Bool.false_eq_true, if_false]
    refine lk_none.2 (fun e he => ?_)
    obtain ⟨j, hj, rfl⟩ := List.getElem_of_mem he
    exact hne j _ (List.getElem?_eq_getElem hj) (fun e => by rw [← e, List.getElem?_eq_getElem hj] at hi; cases hi)
  | some x =>
    by_cases hx : x.1 = k
    · simp only [hx, decide_true, if_true, Option.map_some]
      have := lk_some hnd (List.mem_of_getElem? hi)
      rw [hx] at this; exact this
    · simp only [hx, decide_false, Bool.false_eq_true, if_false]
      refine lk_none.2 (fun e he => ?_)
      obtain ⟨j, hj, rfl⟩ := List.getElem_of_mem he
      by_cases hji : j = fposE l k
      · subst hji; rw [List.getElem?_eq_getElem hj] at hi; injection hi with hi; rw [hi]; exact hx
      · exact hne j _ (List.getElem?_eq_getElem hj) hji
theorem fisE_lk {l : EL} (h : RiseE l) (k : HK) : (lk l k).isSome = fisE l k := by
  rw [lk_isE h k]
  unfold fisE
  cases hi : l[fposE l k]? with
  | none => rfl
  | some x => by_cases hx : x.1 = k <;> simp [hx]
theorem rise_filter {l : EL} (h : RiseE l) (p : HK × Int → Bool) : RiseE (l.filter p) := List.Pairwise.filter _ h
/-- One less. -/
theorem dropE {l : EL} (h : RiseE l) {k : HK} (hi : fisE l k = true) : dropL l k = l.take (fposE l k) ++ l.drop (fposE l k + 1) := by
  unfold fisE at hi
  split at hi
  · rename_i x hx
    have hxk : x.1 = k := by simpa using hi
    have hlt : fposE l k < l.length := (List.getElem?_eq_some_iff.1 hx).1
    have hsp : l = l.take (fposE l k) ++ x :: l.drop (fposE l k + 1) := by
      conv => lhs; rw [← List.take_append_drop (fposE l k) l]
      rw [List.drop_eq_getElem_cons hlt]
      rw [List.getElem?_eq_getElem hlt] at hx; injection hx with hx; rw [hx]
    have h1 : ∀ e ∈ l.take (fposE l k), e.1 ≠ k := by
      intro e he
      obtain ⟨j, hj, rfl⟩ := List.getElem_of_mem he
      rw [List.length_take] at hj
      intro hk
      have := fposE_lt l k j _ (by omega) (List.getElem?_eq_getElem (by omega))
      rw [List.getElem_take] at hk
      rw [hk, ltK_irrefl] at this; cases this
    have h2 : ∀ e ∈ l.drop (fposE l k + 1), e.1 ≠ k := by
      intro e he
      obtain ⟨j, hj, rfl⟩ := List.getElem_of_mem he
      rw [List.length_drop] at hj
      intro hk
      rw [List.getElem_drop] at hk
      have := rise_behind h k (List.getElem?_eq_getElem (show fposE l k + 1 + j < l.length by omega)) (by omega)
      rw [hk, ltK_irrefl] at this; cases this
    unfold dropL
    conv => lhs; rw [hsp]
    rw [List.filter_append, List.filter_cons, List.filter_eq_self.2 (fun e he => by simpa using h1 e he), List.filter_eq_self.2 (fun e he => by simpa using h2 e he)]
    simp [hxk]
  · cases hi
theorem dropE_none {l : EL} (h : RiseE l) {k : HK} (hi : fisE l k = false) : dropL l k = l := by
  have := lk_none.1 (show lk l k = none by rw [lk_isE h, hi]; rfl)
  exact List.filter_eq_self.2 (fun e he => by simpa using this e he)
/-- One more. -/
def putE (l : EL) (k : HK) (v : Int) : EL := l.take (fposE l k) ++ (k, v) :: l.drop (fposE l k + if fisE l k then 1 else 0)
theorem putE_perm {l : EL} (h : RiseE l) (k : HK) (v : Int) : (putL l k v).Perm (putE l k v) := by
  unfold putL putE
  refine List.Perm.trans ?_ List.perm_middle.symm
  refine List.Perm.cons _ ?_
  cases hi : fisE l k with
  | true => rw [show l.filter (fun e => decide (e.1 ≠ k)) = dropL l k from rfl, dropE h hi]; simp
  | false => rw [show l.filter (fun e => decide (e.1 ≠ k)) = dropL l k from rfl, dropE_none h hi]; simp
theorem putE_rise {l : EL} (h : RiseE l) (k : HK) (v : Int) : RiseE (putE l k v) := by
  have hrest : ∀ e ∈ l.drop (fposE l k + if fisE l k then 1 else 0), ltK k e.1 = true := by
    intro e he
    obtain ⟨j, hj⟩ := List.mem_iff_getElem?.1 he
    rw [List.getElem?_drop] at hj
    obtain ⟨d, hd⟩ : ∃ d, (if fisE l k then 1 else 0) = d := ⟨_, rfl⟩
    rw [hd] at hj
    by_cases h0 : fposE l k < fposE l k + d + j
    · exact rise_behind h k hj h0
    · have hd0 : d = 0 := by omega
      have hj0 : j = 0 := by omega
      subst hj0 hd0
      have hi : fisE l k = false := by cases hf : fisE l k with | false => rfl | true => rw [hf] at hd; simp at hd
      refine ltK_tri (fposE_ge l k _ hj) (fun he => ?_)
      unfold fisE at hi
      simp only [Nat.add_zero] at hj
      rw [hj] at hi; simp [he] at hi
  have hfirst : ∀ e ∈ l.take (fposE l k), ltK e.1 k = true := by
    intro e he
    obtain ⟨j, hj, rfl⟩ := List.getElem_of_mem he
    rw [List.length_take] at hj
    rw [List.getElem_take]
    exact fposE_lt l k j _ (by omega) (List.getElem?_eq_getElem (by omega))
  unfold putE RiseE
  rw [List.pairwise_append]
  refine ⟨List.Pairwise.sublist (List.take_sublist _ _) h, ?_, ?_⟩
  · rw [List.pairwise_cons]
    exact ⟨fun e he => by rw [ltE_K]; exact hrest e he, List.Pairwise.sublist (List.drop_sublist _ _) h⟩
  · intro a ha b hb
    rw [ltE_K]
    rcases List.mem_cons.1 hb with rfl | hb
    · exact hfirst a ha
    · exact ltK_trans (hfirst a ha) (hrest b hb)
theorem putE_len (l : EL) (k : HK) (v : Int) : (putE l k v).length = if fisE l k then l.length else l.length + 1 := by
  have h1 := fposE_le l k
  unfold putE
  rw [List.length_append, List.length_take, List.length_cons, List.length_drop]
  cases hi : fisE l k with
  | true =>
    have : fposE l k < l.length := by
      unfold fisE at hi
      split at hi
      · rename_i x hx; exact (List.getElem?_eq_some_iff.1 hx).1
      · cases hi
    simp; omega
  | false => simp; omega
theorem dropL_len_le (l : EL) (k : HK) : (dropL l k).length ≤ l.length := List.length_filter_le _ _
end Go.Proofs.Ytnbanbfnabhjjaa
