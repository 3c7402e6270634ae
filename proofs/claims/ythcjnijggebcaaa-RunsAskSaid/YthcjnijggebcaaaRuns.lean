/- Slices of runs: a slice of structs of two numbers of sixteen bits that READS as a list of pairs. No program in sight. -/
import Derived.Test.YthcjnijggebcaaaSl
namespace Go.Proofs.Ythcjnijggebcaaa
open Go.RowKit
set_option linter.unusedVariables false
/-- Their cells, in order. -/
def rcells (l : List (Int × Int)) : List Value := l.flatMap (fun p => [.int .u16 p.1, .int .u16 p.2])
theorem rcells_len (l : List (Int × Int)) : (rcells l).length = l.length * 2 := by
  induction l with
  | nil => rfl
  | cons p l ih => simp only [rcells, List.flatMap_cons, List.length_append, List.length_cons, List.length_nil] at ih ⊢; omega
theorem rcells_app (l m : List (Int × Int)) : rcells (l ++ m) = rcells l ++ rcells m := by simp [rcells]
theorem rcells_one (l : List (Int × Int)) : ∀ u ∈ rcells l, u.oneCell' = true := by
  intro u hu
  obtain ⟨p, _, hp⟩ := List.mem_flatMap.1 hu
  simp only [List.mem_cons, List.not_mem_nil, or_false] at hp
  rcases hp with rfl | rfl <;> rfl
theorem rcells_get {l : List (Int × Int)} {i : Nat} {p : Int × Int} (h : l[i]? = some p) : (rcells l)[i * 2]? = some (.int .u16 p.1) ∧ (rcells l)[i * 2 + 1]? = some (.int .u16 p.2) := by
  induction l generalizing i with
  | nil => simp at h
  | cons q l ih =>
    cases i with
    | zero => simp at h; subst h; exact ⟨rfl, rfl⟩
    | succ i =>
      have := ih (i := i) (by simpa using h)
      have e1 : (i + 1) * 2 = i * 2 + 1 + 1 := by omega
      rw [e1]
      simpa [rcells] using this
/-- The slice v reads as l. -/
def RSl (w : World) (v : Value) (l : List (Int × Int)) : Prop := ∃ a cap, v = .slice a l.length cap ∧ l.length ≤ cap ∧ cap ≤ 9223372036854775807 ∧ (a = none → cap = 0) ∧
  (l = [] ∨ ∃ b off, a = some ⟨b, off, none⟩ ∧ ∀ i p, l[i]? = some p → w.cell? ⟨b, off + i * 2, none⟩ = some (.int .u16 p.1) ∧ w.cell? ⟨b, off + i * 2 + 1, none⟩ = some (.int .u16 p.2))
section
variable {w w' : World} {v : Value} {l : List (Int × Int)}
theorem RSl.nil_ (w : World) : RSl w (.slice none 0 0) [] := ⟨none, 0, rfl, Nat.le_refl _, by omega, fun _ => rfl, .inl rfl⟩
theorem RSl.mod (h : RSl w v l) {S : List Nat} (hm : Mod S w w') (hb : ∀ b ∈ rb v, b ∉ S) : RSl w' v l := by
  obtain ⟨a, cap, rfl, h1, h2, h3, h4⟩ := h
  refine ⟨a, cap, rfl, h1, h2, h3, h4.imp id ?_⟩
  rintro ⟨b, off, rfl, h5⟩
  refine ⟨b, off, rfl, fun i x hx => ?_⟩
  obtain ⟨h6, h7⟩ := h5 i x hx
  have hlt : b < w.heap.size := by simpa using World.block_lt_of_cell? w _ h6
  have e := hm.block b hlt (hb b (by simp [rb, Value.ownBlock]))
  exact ⟨by rw [← h6]; unfold World.cell?; simp only [e], by rw [← h7]; unfold World.cell?; simp only [e]⟩
theorem RSl.news (h : RSl w v l) (hm : Mod [] w w') : RSl w' v l := h.mod hm (fun _ _ => List.not_mem_nil)
theorem RSl.slice_ (h : RSl w v l) : ∃ a cap, v = .slice a l.length cap ∧ l.length ≤ cap ∧ cap ≤ 9223372036854775807 := by
  obtain ⟨a, cap, rfl, h1, h2, _⟩ := h; exact ⟨a, cap, rfl, h1, h2⟩
theorem RSl.get {a : Option Addr} {n cap : Nat} (h : RSl w (.slice a n cap) l) {i : Nat} (hi : i < n) : ∃ b off p q, a = some ⟨b, off, none⟩ ∧ b < w.heap.size ∧ l[i]? = some (p, q) ∧ w.cell? ⟨b, off + i * 2, none⟩ = some (.int .u16 p) ∧ w.cell? ⟨b, off + i * 2 + 1, none⟩ = some (.int .u16 q) := by
  obtain ⟨a', cap', he, h1, h2, h3, h4⟩ := h
  injection he with e1 e2 e3; subst e1 e2
  rcases h4 with rfl | ⟨b, off, rfl, h5⟩
  · simp at hi
  · have h0 : l[i]? = some l[i] := List.getElem?_eq_getElem hi
    obtain ⟨h6, h7⟩ := h5 i _ h0
    exact ⟨b, off, l[i].1, l[i].2, rfl, by simpa using World.block_lt_of_cell? w _ h6, h0, h6, h7⟩
theorem RSl.len {a : Option Addr} {n cap : Nat} (h : RSl w (.slice a n cap) l) : l.length = n := by
  obtain ⟨a', cap', he, _⟩ := h; injection he with e1 e2 e3; exact e2.symm
end
theorem rcells_at {l : List (Int × Int)} {j : Nat} {u : Value} (h : (rcells l)[j]? = some u) : ∃ i p, l[i]? = some p ∧ ((j = i * 2 ∧ u = .int .u16 p.1) ∨ (j = i * 2 + 1 ∧ u = .int .u16 p.2)) := by
  have hj : j < l.length * 2 := by rw [← rcells_len]; exact (List.getElem?_eq_some_iff.1 h).1
  have hx : l[j / 2]? = some l[j / 2] := List.getElem?_eq_getElem (by omega)
  obtain ⟨c1, c2⟩ := rcells_get hx
  refine ⟨j / 2, _, hx, ?_⟩
  rcases Nat.mod_two_eq_zero_or_one j with h0 | h0
  · have e : j / 2 * 2 = j := by omega
    rw [e, h] at c1; injection c1 with c1; exact .inl ⟨e.symm, c1⟩
  · have e : j / 2 * 2 + 1 = j := by omega
    rw [e, h] at c2; injection c2 with c2; exact .inr ⟨e.symm, c2⟩
theorem RSl.holds {w : World} {v : Value} {l : List (Int × Int)} (h : RSl w v l) : Holds w v l.length 2 (rcells l) := by
  obtain ⟨a, cap, rfl, h1, h2, h3, h4⟩ := h
  cases a with
  | none =>
    have hc := h3 rfl
    have hl : l = [] := List.eq_nil_of_length_eq_zero (by omega)
    subst hl; subst hc
    exact .inl ⟨rfl, rfl, rfl⟩
  | some ad =>
    refine .inr ⟨ad, cap, rfl, rcells_len l, fun j u hj => ?_⟩
    rcases h4 with rfl | ⟨b, off, hab, h5⟩
    · simp [rcells] at hj
    · injection hab with hab; subst hab
      rw [show (⟨b, off, none⟩ : Addr).add j = ⟨b, off + j, none⟩ from by unfold Addr.add; by_cases h : j = 0 <;> simp [h]]
      obtain ⟨i, p, hp, ⟨rfl, rfl⟩ | ⟨rfl, rfl⟩⟩ := rcells_at hj
      · exact (h5 i p hp).1
      · exact (h5 i p hp).2
/-- An owned row of runs reads so. -/
theorem Row.rsl {w : World} {e n : Nat} {v : Value} {l : List (Int × Int)} (h : Row w e 2 v n (rcells l)) : n = l.length ∧ RSl w v l := by
  have hl : n = l.length := by have := h.1; rw [rcells_len] at this; omega
  subst hl
  refine ⟨rfl, ?_⟩
  rcases Nat.eq_zero_or_pos l.length with h0 | h0
  · have : l = [] := List.eq_nil_of_length_eq_zero h0
    subst this
    obtain ⟨a, cap, rfl, h1, h2⟩ := h.slice_
    refine ⟨a, cap, rfl, h1, h2, fun ha => ?_, .inl rfl⟩
    subst ha
    rcases h.2 with ⟨hv, _⟩ | ⟨g, cap', cur, hv, _⟩
    · injection hv
    · injection hv with hv; cases hv
  · obtain ⟨g, cap, rfl, _, h1, h2, _, hc, _⟩ := h.at_ h0
    refine ⟨_, cap, rfl, h1, h2, (fun ha => by cases ha), .inr ⟨g, 0, rfl, fun i p hp => ?_⟩⟩
    have hil : i < l.length := by obtain ⟨h3, _⟩ := List.getElem?_eq_some_iff.1 hp; exact h3
    obtain ⟨c1, c2⟩ := rcells_get hp
    rw [Nat.zero_add, hc _ (by omega), hc _ (by omega)]
    exact ⟨c1, c2⟩
end Go.Proofs.Ythcjnijggebcaaa
