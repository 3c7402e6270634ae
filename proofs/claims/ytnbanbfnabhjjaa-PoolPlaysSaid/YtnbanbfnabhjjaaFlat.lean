/- Lists laid flat: elements of k cells each. Plain Lean. -/
import Derived.Test.YtnbanbfnabhjjaaLib
namespace Go.Proofs.Ytnbanbfnabhjjaa

section
variable {α β : Type} (f : α → List β) (k : Nat) (hk : ∀ x, (f x).length = k)
include hk
theorem flat_len (l : List α) : (l.flatMap f).length = l.length * k := by
  induction l with
  | nil => simp
  | cons a l ih => simp only [List.flatMap_cons, List.length_append, hk, ih, List.length_cons, Nat.add_mul]; omega
theorem flat_drop (l : List α) (i : Nat) : (l.flatMap f).drop (i * k) = (l.drop i).flatMap f := by
  induction l generalizing i with
  | nil => simp
  | cons a l ih =>
    cases i with
    | zero => simp
    | succ i =>
      simp only [List.flatMap_cons, List.drop_succ_cons, ← ih i]
      have : (i + 1) * k = (f a).length + i * k := by rw [hk, Nat.add_mul]; omega
      rw [this, List.drop_append, List.drop_of_length_le (by omega)]; simp
theorem flat_take (l : List α) (i : Nat) : (l.flatMap f).take (i * k) = (l.take i).flatMap f := by
  induction l generalizing i with
  | nil => simp
  | cons a l ih =>
    cases i with
    | zero => simp
    | succ i =>
      simp only [List.flatMap_cons, List.take_succ_cons, ← ih i]
      have : (i + 1) * k = (f a).length + i * k := by rw [hk, Nat.add_mul]; omega
      rw [this, List.take_append, List.take_of_length_le (by omega)]; simp
theorem flat_get (l : List α) (i j : Nat) (hj : j < k) : (l.flatMap f)[i * k + j]? = (l[i]?).bind (fun x => (f x)[j]?) := by
  rw [← List.getElem?_drop, flat_drop f k hk]
  cases h : l.drop i with
  | nil => have : l[i]? = none := by rw [List.getElem?_eq_none]; simpa using h
           simp [this]
  | cons a m =>
    have ha : l[i]? = some a := by
      have := congrArg List.head? h; simpa [List.head?_drop] using this
    simp only [ha, List.flatMap_cons, Option.bind_some]
    rw [List.getElem?_append_left (by rw [hk]; exact hj)]
theorem flat_put (l : List α) (i : Nat) (hi : i < l.length) (y : α) : (l.set i y).flatMap f = (l.flatMap f).take (i * k) ++ f y ++ (l.flatMap f).drop (i * k + k) := by
  have e : i * k + k = (i + 1) * k := by rw [Nat.add_mul]; omega
  rw [e, flat_drop f k hk, flat_take f k hk, List.set_eq_take_append_cons_drop, if_pos hi]
  simp [List.flatMap_append]
end

theorem set1_eq {β : Type} (xs : List β) (p : Nat) (a : β) (h : p + 1 ≤ xs.length) : xs.set p a = xs.take p ++ [a] ++ xs.drop (p + 1) := by
  rw [List.set_eq_take_append_cons_drop, if_pos (by omega)]; simp
theorem set_app {β : Type} (xs ys : List β) (p : Nat) (a : β) (h : p = xs.length) (b : β) (zs : List β) (hy : ys = b :: zs) : (xs ++ ys).set p a = xs ++ [a] ++ zs := by
  subst h hy; simp
theorem set2_eq {β : Type} (xs : List β) (p : Nat) (a b : β) (h : p + 2 ≤ xs.length) : (xs.set p a).set (p + 1) b = xs.take p ++ [a, b] ++ xs.drop (p + 2) := by
  apply List.ext_getElem?
  intro n
  simp only [List.getElem?_set, List.getElem?_append, List.getElem?_take, List.getElem?_drop, List.length_append, List.length_take, List.length_cons, List.length_nil, List.length_set]
  grind
theorem set4_eq {β : Type} (xs : List β) (p : Nat) (a b c d : β) (h : p + 4 ≤ xs.length) : (((xs.set p a).set (p + 1) b).set (p + 2) c).set (p + 3) d = xs.take p ++ [a, b, c, d] ++ xs.drop (p + 4) := by
  apply List.ext_getElem?
  intro n
  simp only [List.getElem?_set, List.getElem?_append, List.getElem?_take, List.getElem?_drop, List.length_append, List.length_take, List.length_cons, List.length_nil, List.length_set]
  grind
theorem set5_eq {β : Type} (xs : List β) (p : Nat) (a b c d e : β) (h : p + 5 ≤ xs.length) : ((((xs.set p a).set (p + 1) b).set (p + 2) c).set (p + 3) d).set (p + 4) e = xs.take p ++ [a, b, c, d, e] ++ xs.drop (p + 5) := by
  apply List.ext_getElem?
  intro n
  simp only [List.getElem?_set, List.getElem?_append, List.getElem?_take, List.getElem?_drop, List.length_append, List.length_take, List.length_cons, List.length_nil, List.length_set]
  grind
end Go.Proofs.Ytnbanbfnabhjjaa
