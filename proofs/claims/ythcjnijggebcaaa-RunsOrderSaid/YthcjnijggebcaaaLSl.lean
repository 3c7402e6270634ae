/- A slice of slices of whole numbers: what is read of it. No program in sight. -/
import Derived.Test.YthcjnijggebcaaaSl
namespace Go.Proofs.Ythcjnijggebcaaa
open Go.RowKit
set_option linter.unusedVariables false
/-- The slice v of slices reads as the lists ls. -/
def LSl (k : IntKind) (w : World) (v : Value) (ls : List (List Int)) : Prop := ∃ a cap, v = .slice a ls.length cap ∧ ls.length ≤ cap ∧ cap ≤ 9223372036854775807 ∧
  (ls = [] ∨ ∃ b off, a = some ⟨b, off, none⟩ ∧ ∀ i l, ls[i]? = some l → ∃ u, w.cell? ⟨b, off + i, none⟩ = some u ∧ ISl k w u l)
section
variable {k : IntKind} {w w' : World} {v : Value} {ls : List (List Int)}
theorem LSl.slice_ (h : LSl k w v ls) : ∃ a cap, v = .slice a ls.length cap ∧ ls.length ≤ cap ∧ cap ≤ 9223372036854775807 := by
  obtain ⟨a, cap, rfl, h1, h2, _⟩ := h; exact ⟨a, cap, rfl, h1, h2⟩
theorem LSl.get {a : Option Addr} {n cap : Nat} (h : LSl k w (.slice a n cap) ls) {i : Nat} (hi : i < ls.length) : ∃ b off u l, a = some ⟨b, off, none⟩ ∧ b < w.heap.size ∧ ls[i]? = some l ∧ w.cell? ⟨b, off + i, none⟩ = some u ∧ ISl k w u l := by
  obtain ⟨a', cap', he, h1, h2, h4⟩ := h
  injection he with e1 e2 e3; subst e1 e2
  rcases h4 with rfl | ⟨b, off, rfl, h5⟩
  · simp at hi
  · have h0 : ls[i]? = some ls[i] := List.getElem?_eq_getElem hi
    obtain ⟨u, hc, hu⟩ := h5 i _ h0
    exact ⟨b, off, u, _, rfl, by simpa using World.block_lt_of_cell? w _ hc, h0, hc, hu⟩
theorem LSl.nil_ (k : IntKind) (w : World) (a : Option Addr) (cap : Nat) (hc : cap ≤ 9223372036854775807) : LSl k w (.slice a 0 cap) [] := ⟨a, cap, rfl, Nat.zero_le _, hc, .inl rfl⟩
/-- A block of slices, all of it or its beginning. -/
theorem LSl.of_blk {b t : Nat} {us : Array Value} (hb : Blk w b t us) (hn : us.size ≤ 1000000) (hl : ls.length ≤ us.size) (h : ∀ (i : Nat) (l : List Int), ls[i]? = some l → ∃ u : Value, us[i]? = some u ∧ ISl k w u l) : LSl k w (.slice (some ⟨b, 0, none⟩) ls.length us.size) ls :=
  ⟨_, _, rfl, hl, by omega, .inr ⟨b, 0, rfl, fun i l hi => by
    obtain ⟨u, h1, h2⟩ := h i l hi
    exact ⟨u, by rw [Nat.zero_add, hb.cell, h1], h2⟩⟩⟩
end
/-- How long they are together (a name of its own: the walk counts no lists). -/
def flen (ls : List (List Int)) : Nat := ls.flatten.length
theorem flatten_take {ls : List (List Int)} {i : Nat} {l : List Int} (h : ls[i]? = some l) : flen (ls.take (i + 1)) = flen (ls.take i) + l.length := by
  unfold flen; rw [List.take_add_one, h]; simp
theorem flatten_take2 {ls : List (List Int)} {i : Nat} {l : List Int} (h : ls[i]? = some l) : (ls.take (i + 1)).flatten = (ls.take i).flatten ++ l := by
  rw [List.take_add_one, h]; simp
theorem flatten_le (ls : List (List Int)) (i : Nat) : flen (ls.take i) ≤ flen ls := by
  unfold flen
  have : ls.flatten = (ls.take i).flatten ++ (ls.drop i).flatten := by rw [← List.flatten_append, List.take_append_drop]
  rw [this, List.length_append]; omega
end Go.Proofs.Ythcjnijggebcaaa
