/- The document's pairs (stepstoneref22): plain lists, rising by their keys. -/
import Derived.Test.YtnbanbfnabhjjaaFlat
namespace Go.Proofs.Ytnbanbfnabhjjaa
set_option linter.unusedVariables false
set_option linter.unusedSimpArgs false
abbrev PL := List (Int × Int)
/-- Where a key stands, or would stand. -/
def pfind : PL → Int → Nat
  | [], _ => 0
  | e :: l, k => if e.1 < k then pfind l k + 1 else 0
def pis (l : PL) (k : Int) : Bool := decide ((l[pfind l k]?.map (·.1)) = some k)
def pput (l : PL) (k v : Int) : PL := l.take (pfind l k) ++ (k, v) :: l.drop (if pis l k then pfind l k + 1 else pfind l k)
def pdrop (l : PL) (k : Int) : PL := if pis l k then l.take (pfind l k) ++ l.drop (pfind l k + 1) else l
def pval : PL → Int → Option Int
  | [], _ => none
  | e :: l, k => if e.1 = k then some e.2 else pval l k
def Rise : PL → Prop
  | [] => True
  | [_] => True
  | e :: e' :: l => e.1 < e'.1 ∧ Rise (e' :: l)
theorem Rise.tail {e : Int × Int} {l : PL} (h : Rise (e :: l)) : Rise l := by
  cases l with
  | nil => trivial
  | cons e' l => exact h.2
theorem Rise.head {e : Int × Int} {l : PL} (h : Rise (e :: l)) : ∀ x ∈ l, e.1 < x.1 := by
  induction l generalizing e with
  | nil => simp
  | cons e' l ih =>
    intro x hx
    rcases List.mem_cons.1 hx with rfl | hx
    · exact h.1
    · have := ih h.2 x hx; have := h.1; omega
theorem Rise.cons {e : Int × Int} {l : PL} (h : Rise l) (he : ∀ x ∈ l, e.1 < x.1) : Rise (e :: l) := by
  cases l with
  | nil => trivial
  | cons e' l => exact ⟨he e' (by simp), h⟩
theorem pfind_le (l : PL) (k : Int) : pfind l k ≤ l.length := by
  induction l with
  | nil => simp [pfind]
  | cons e l ih => simp only [pfind]; split <;> simp <;> omega
theorem pval_none_of_gt {l : PL} {k : Int} (h : ∀ x ∈ l, k < x.1) : pval l k = none := by
  induction l with
  | nil => rfl
  | cons e l ih =>
    have := h e (by simp)
    simp only [pval]; rw [if_neg (by omega)]; exact ih (fun x hx => h x (List.mem_cons_of_mem _ hx))
theorem pis_cons_lt {e : Int × Int} {l : PL} {k : Int} (h : e.1 < k) : pis (e :: l) k = pis l k := by
  have : pfind (e :: l) k = pfind l k + 1 := by simp [pfind, h]
  unfold pis; rw [this]; simp
theorem pput_cons_lt {e : Int × Int} {l : PL} {k v : Int} (h : e.1 < k) : pput (e :: l) k v = e :: pput l k v := by
  unfold pput; rw [pis_cons_lt h]
  have : pfind (e :: l) k = pfind l k + 1 := by simp [pfind, h]
  rw [this]; split <;> simp
theorem pdrop_cons_lt {e : Int × Int} {l : PL} {k : Int} (h : e.1 < k) : pdrop (e :: l) k = e :: pdrop l k := by
  unfold pdrop; rw [pis_cons_lt h]
  have : pfind (e :: l) k = pfind l k + 1 := by simp [pfind, h]
  rw [this]; split <;> simp
theorem pfind_cons_ge {e : Int × Int} {l : PL} {k : Int} (h : ¬ e.1 < k) : pfind (e :: l) k = 0 := by simp [pfind, h]
theorem pis_cons_ge {e : Int × Int} {l : PL} {k : Int} (h : ¬ e.1 < k) : pis (e :: l) k = decide (e.1 = k) := by unfold pis; rw [pfind_cons_ge h]; simp
theorem pput_cons_ge {e : Int × Int} {l : PL} {k v : Int} (h : ¬ e.1 < k) : pput (e :: l) k v = if e.1 = k then (k, v) :: l else (k, v) :: e :: l := by
  unfold pput; rw [pis_cons_ge h, pfind_cons_ge h]; by_cases he : e.1 = k <;> simp [he]
theorem pdrop_cons_ge {e : Int × Int} {l : PL} {k : Int} (h : ¬ e.1 < k) : pdrop (e :: l) k = if e.1 = k then l else e :: l := by
  unfold pdrop; rw [pis_cons_ge h, pfind_cons_ge h]; by_cases he : e.1 = k <;> simp [he]
theorem pis_eq {l : PL} (hr : Rise l) (k : Int) : pis l k = (pval l k).isSome := by
  induction l with
  | nil => simp [pis, pfind, pval]
  | cons e l ih =>
    by_cases h : e.1 < k
    · rw [pis_cons_lt h, ih hr.tail]; simp only [pval]; rw [if_neg (by omega)]
    · rw [pis_cons_ge h]; simp only [pval]
      by_cases he : e.1 = k
      · simp [he]
      · rw [if_neg he, pval_none_of_gt (fun x hx => by have := hr.head x hx; omega)]; simp [he]
theorem pget_eq {l : PL} (k : Int) (hi : pis l k = true) : ∃ v, l[pfind l k]? = some (k, v) ∧ pval l k = some v := by
  induction l with
  | nil => simp [pis, pfind] at hi
  | cons e l ih =>
    by_cases h : e.1 < k
    · rw [pis_cons_lt h] at hi
      obtain ⟨v, h1, h2⟩ := ih hi
      refine ⟨v, by simp [pfind, h, h1], ?_⟩
      simp only [pval]; rw [if_neg (by omega)]; exact h2
    · rw [pis_cons_ge h] at hi
      have he : e.1 = k := by simpa using hi
      refine ⟨e.2, ?_, by simp [pval, he]⟩
      rw [pfind_cons_ge h, ← he]; rfl
theorem mem_pput {l : PL} {k v : Int} {x : Int × Int} (hx : x ∈ pput l k v) : x = (k, v) ∨ x ∈ l := by
  unfold pput at hx
  rcases List.mem_append.1 hx with hx | hx
  · exact .inr (List.mem_of_mem_take hx)
  · rcases List.mem_cons.1 hx with hx | hx
    · exact .inl hx
    · exact .inr (List.mem_of_mem_drop hx)
theorem mem_pdrop {l : PL} {k : Int} {x : Int × Int} (hx : x ∈ pdrop l k) : x ∈ l := by
  unfold pdrop at hx
  split at hx
  · rcases List.mem_append.1 hx with hx | hx
    · exact List.mem_of_mem_take hx
    · exact List.mem_of_mem_drop hx
  · exact hx
theorem Rise.put {l : PL} (hr : Rise l) (k v : Int) : Rise (pput l k v) ∧ ∀ x, pval (pput l k v) x = if x = k then some v else pval l x := by
  induction l with
  | nil =>
    refine ⟨trivial, fun x => ?_⟩
    show pval [(k, v)] x = _
    by_cases hx : x = k
    · simp [pval, hx]
    · rw [if_neg hx]; simp [pval, Ne.symm hx]
  | cons e l ih =>
    obtain ⟨i1, i2⟩ := ih hr.tail
    by_cases h : e.1 < k
    · rw [pput_cons_lt h]
      refine ⟨i1.cons (fun x hx => ?_), fun x => ?_⟩
      · rcases mem_pput hx with rfl | hx
        · exact h
        · exact hr.head x hx
      · simp only [pval]
        by_cases hx : e.1 = x
        · rw [if_pos hx, if_pos hx, if_neg (by omega)]
        · rw [if_neg hx, if_neg hx, i2]
    · rw [pput_cons_ge h]
      by_cases he : e.1 = k
      · rw [if_pos he]
        refine ⟨hr.tail.cons (fun x hx => by have := hr.head x hx; simp only; omega), fun x => ?_⟩
        simp only [pval]
        by_cases hx : x = k
        · rw [if_pos hx, if_pos hx.symm]
        · rw [if_neg hx, if_neg (Ne.symm hx), if_neg (by omega)]
      · rw [if_neg he]
        refine ⟨hr.cons (fun x hx => ?_), fun x => ?_⟩
        · rcases List.mem_cons.1 hx with rfl | hx
          · simp only; omega
          · have := hr.head x hx; simp only; omega
        · simp only [pval]
          by_cases hx : x = k
          · rw [if_pos hx, if_pos hx.symm]
          · rw [if_neg hx, if_neg (Ne.symm hx)]
theorem Rise.drop {l : PL} (hr : Rise l) (k : Int) : Rise (pdrop l k) ∧ ∀ x, pval (pdrop l k) x = if x = k then none else pval l x := by
  induction l with
  | nil =>
    refine ⟨trivial, fun x => ?_⟩
    show pval [] x = _
    simp [pval]
  | cons e l ih =>
    obtain ⟨i1, i2⟩ := ih hr.tail
    by_cases h : e.1 < k
    · rw [pdrop_cons_lt h]
      refine ⟨i1.cons (fun x hx => hr.head x (mem_pdrop hx)), fun x => ?_⟩
      simp only [pval]
      by_cases hx : e.1 = x
      · rw [if_pos hx, if_pos hx, if_neg (by omega)]
      · rw [if_neg hx, if_neg hx, i2]
    · rw [pdrop_cons_ge h]
      have hn : ∀ x ∈ l, k < x.1 := fun x hx => by have := hr.head x hx; omega
      by_cases he : e.1 = k
      · rw [if_pos he]
        refine ⟨hr.tail, fun x => ?_⟩
        simp only [pval]
        by_cases hx : x = k
        · rw [if_pos hx, hx]; exact pval_none_of_gt hn
        · rw [if_neg hx, if_neg (by omega)]
      · rw [if_neg he]
        refine ⟨hr, fun x => ?_⟩
        by_cases hx : x = k
        · rw [if_pos hx, hx]; simp only [pval]; rw [if_neg he]; exact pval_none_of_gt hn
        · rw [if_neg hx]
theorem pput_length (l : PL) (k v : Int) : (pput l k v).length = if pis l k then l.length else l.length + 1 := by
  have h := pfind_le l k
  unfold pput
  by_cases hi : pis l k = true
  · have : pfind l k < l.length := by
      obtain ⟨v, h1, _⟩ := pget_eq k hi
      exact (List.getElem?_eq_some_iff.1 h1).1
    simp [hi]; omega
  · simp [hi]; omega
theorem pdrop_length (l : PL) (k : Int) : (pdrop l k).length = if pis l k then l.length - 1 else l.length := by
  unfold pdrop
  by_cases hi : pis l k = true
  · have : pfind l k < l.length := by
      obtain ⟨v, h1, _⟩ := pget_eq k hi
      exact (List.getElem?_eq_some_iff.1 h1).1
    simp [hi]; omega
  · simp [hi]
theorem pfind_lt {l : PL} {k : Int} {i : Nat} (h : i < pfind l k) : ∃ e, l[i]? = some e ∧ e.1 < k := by
  induction l generalizing i with
  | nil => simp [pfind] at h
  | cons a l ih =>
    by_cases ha : a.1 < k
    · cases i with
      | zero => exact ⟨a, rfl, ha⟩
      | succ i =>
        have hp : pfind (a :: l) k = pfind l k + 1 := by simp [pfind, ha]
        obtain ⟨e, h1, h2⟩ := ih (i := i) (by omega)
        exact ⟨e, by simpa using h1, h2⟩
    · rw [pfind_cons_ge ha] at h; omega
theorem pfind_at {l : PL} {k : Int} {e : Int × Int} (h : l[pfind l k]? = some e) : ¬ e.1 < k := by
  induction l with
  | nil => simp at h
  | cons a l ih =>
    by_cases ha : a.1 < k
    · have hp : pfind (a :: l) k = pfind l k + 1 := by simp [pfind, ha]
      rw [hp] at h; exact ih (by simpa using h)
    · rw [pfind_cons_ge ha] at h; simp at h; subst h; exact ha
def pcells (l : PL) : List Value := l.flatMap (fun e => [.int .u64 e.1, .int .u64 e.2])
theorem pcells_key {l : PL} {i : Nat} {e : Int × Int} (h : l[i]? = some e) : (pcells l)[i * 2]? = some (.int .u64 e.1) := by
  have := flat_get (fun e : Int × Int => [Value.int .u64 e.1, Value.int .u64 e.2]) 2 (fun _ => rfl) l i 0 (by omega)
  unfold pcells; rw [Nat.add_zero] at this; rw [this, h]; rfl
theorem pcells_val {l : PL} {i : Nat} {e : Int × Int} (h : l[i]? = some e) : (pcells l)[i * 2 + 1]? = some (.int .u64 e.2) := by
  have := flat_get (fun e : Int × Int => [Value.int .u64 e.1, Value.int .u64 e.2]) 2 (fun _ => rfl) l i 1 (by omega)
  unfold pcells; rw [this, h]; rfl
/-- Values of a rising list, by their keys. -/
theorem pval_of_get {l : PL} (hr : Rise l) {i : Nat} {e : Int × Int} (h : l[i]? = some e) : pval l e.1 = some e.2 := by
  induction l generalizing i with
  | nil => simp at h
  | cons a l ih =>
    cases i with
    | zero => simp at h; subst h; simp [pval]
    | succ i =>
      simp at h
      have := hr.head e (List.mem_of_getElem? h)
      simp only [pval]; rw [if_neg (by omega)]; exact ih hr.tail h
end Go.Proofs.Ytnbanbfnabhjjaa
