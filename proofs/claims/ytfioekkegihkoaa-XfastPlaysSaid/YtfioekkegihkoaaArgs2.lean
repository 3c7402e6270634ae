/- Arguments that are slices of structs of whole numbers, or of bools: what their cells hold. -/
import Derived.Test.YtfioekkegihkoaaGSl
import Derived.Deep.Slices
import Derived.Deep.Grids
import Derived.ChangeSame
namespace Go.Proofs.Ytfioekkegihkoaa
open Go.RowKit Go.ChangeShapes Go.WideShapes Go.Deep
set_option linter.unusedVariables false
set_option linter.unusedSimpArgs false
/-- The slice argument (a, len, cap) holds structs of whole numbers of the kinds ks: field j of element i is z i j. -/
def StRow (ks : List IntKind) (w : World) (a : Option Addr) (len cap : Nat) (z : Nat → Nat → Int) : Prop :=
  (a = none ∧ len = 0 ∧ cap = 0) ∨
  ∃ x, a = some x ∧ len ≤ cap ∧ cap ≤ maxLen ∧ ∀ i, i < len → ∀ j k, ks[j]? = some k → w.cell? (x.add (i * ks.length + j)) = some (.int k (z i j)) ∧ (Lit.int k (z i j)).wf = true
theorem StRow.le {ks : List IntKind} {w : World} {a : Option Addr} {len cap : Nat} {z : Nat → Nat → Int} (h : StRow ks w a len cap z) : len ≤ cap ∧ cap ≤ 9223372036854775807 := by
  rcases h with ⟨_, h1, h2⟩ | ⟨x, _, h1, h2, _⟩
  · omega
  · unfold maxLen at h2; omega
theorem StRow.at_ {ks : List IntKind} {w : World} {a : Option Addr} {len cap : Nat} {z : Nat → Nat → Int} (h : StRow ks w a len cap z) (hn : 0 < len) (hk : 0 < ks.length) :
    ∃ b off, a = some ⟨b, off, none⟩ ∧ b < w.heap.size ∧ ∀ i, i < len → ∀ j k, ks[j]? = some k → w.cell? ⟨b, off + (i * ks.length + j), none⟩ = some (.int k (z i j)) ∧ (Lit.int k (z i j)).wf = true := by
  rcases h with ⟨_, h1, h2⟩ | ⟨x, rfl, h1, h2, h4⟩
  · omega
  · obtain ⟨b, off, spot⟩ := x
    obtain ⟨k0, hk0⟩ : ∃ k0, ks[0]? = some k0 := ⟨ks[0], by simp⟩
    have h0 := (h4 0 hn 0 k0 hk0).1
    have hs : spot = none := by
      rw [show (⟨b, off, spot⟩ : Addr).add (0 * ks.length + 0) = ⟨b, off, spot⟩ from by simp [Addr.add]] at h0
      unfold World.cell? at h0
      cases spot with
      | none => rfl
      | some q => simp only at h0; split at h0 <;> simp at h0
    subst hs
    have ha : ∀ j, (⟨b, off, none⟩ : Addr).add j = ⟨b, off + j, none⟩ := by intro j; unfold Addr.add; split <;> simp_all
    refine ⟨b, off, rfl, ?_, fun i hi j k hj => ?_⟩
    · rw [ha] at h0; exact World.block_lt_of_cell? w _ h0
    · have := h4 i hi j k hj
      rw [ha] at this
      exact this
theorem addr_add_add (x : Addr) (i j : Nat) : (x.add i).add j = x.add (i + j) := by
  obtain ⟨b, o, s⟩ := x
  unfold Addr.add
  by_cases hi : i = 0 <;> by_cases hj : j = 0 <;> simp [hi, hj, Nat.add_assoc]
theorem open_stru {H : Type} {enc : TypeId × Value → H} {P : Program} {W : World} {base : Nat} {sp : Nat → Bool} {vd : Bool} {t e : TypeId} {fs : Array Field} (ks : List IntKind) {a : Option Addr} {n c : Nat} {d : DataW H} {p : List MemPlace}
    (ht : P.underlying t = some (.slice e)) (he : P.underlying e = some (.struct fs)) (ce : P.cellsOf e = ks.length) (hf : ∀ j k, ks[j]? = some k → ∃ f : Field, fs[j]? = some f ∧ f.offset = j ∧ P.cellsOf f.type = 1 ∧ P.underlying f.type = some (.int k))
    (h : DataW.Trod enc P W base sp vd t (.slice a n c) d p) : ∃ z, StRow ks W a n c z := by
  obtain ⟨fuel, hfu⟩ := h
  rcases open_slice ht hfu with ⟨hcs, _⟩ | ⟨x, len, cap, m, q, D, Pl, hcs, _, hl, hm, hmm, _, hx⟩
  · simp [Value.cells] at hcs
    obtain ⟨rfl, rfl, rfl⟩ := hcs
    exact ⟨fun _ _ => 0, .inl ⟨rfl, rfl, rfl⟩⟩
  · simp [Value.cells] at hcs
    obtain ⟨rfl, rfl, rfl⟩ := hcs
    have hlm : n ≤ m := by rw [hmm]; split <;> omega
    have key : ∀ i, i < n → ∃ zi : Nat → Int, ∀ j k, ks[j]? = some k → W.cell? (x.add (i * ks.length + j)) = some (.int k (zi j)) ∧ (Lit.int k (zi j)).wf = true := by
      intro i hi
      obtain ⟨cs', h1, h2⟩ := hx i (by omega)
      rw [ce] at h1
      obtain ⟨_, hlen, hcell⟩ := World.cells?_some h1
      obtain ⟨xs, n', _, _, _, hxl, hfx⟩ := DataW.trod_struct he h2
      have each : ∀ j, ∃ v : Int, ∀ k, ks[j]? = some k → W.cell? (x.add (i * ks.length + j)) = some (.int k v) ∧ (Lit.int k v).wf = true := by
        intro j
        cases hj : ks[j]? with
        | none => exact ⟨0, fun k hk => by cases hk⟩
        | some k =>
          obtain ⟨f, f1, f2, f3, f4⟩ := hf j k hj
          have h3 := hfx j f f1
          have hjl : j < ks.length := (List.getElem?_eq_some_iff.1 hj).1
          rw [f2, f3] at h3
          have hxs : j < xs.length := by rw [hxl]; exact (Array.getElem?_eq_some_iff.1 f1).1
          rw [List.getElem?_eq_getElem hxs] at h3
          obtain ⟨v, hv, _, hw⟩ := DataW.trod_int f4 h3
          refine ⟨v, fun k' hk' => ?_⟩
          cases hk'
          have h4 := hcell j (by omega)
          have h5 : cs'[j]? = some (.int k v) := by
            have : (cs'.drop j).take 1 = [cs'[j]'(by omega)] := by rw [List.drop_eq_getElem_cons (by omega)]; rfl
            rw [this] at hv
            rw [List.getElem?_eq_getElem (by omega)]; simpa using hv
          refine ⟨?_, hw⟩
          rw [show x.add (i * ks.length + j) = (x.add (i * ks.length)).add j from (addr_add_add x _ j).symm]
          rw [h4]; exact h5
      exact ⟨fun j => (each j).choose, fun j k hk => (each j).choose_spec k hk⟩
    obtain ⟨z, hz⟩ := choose_lt (α := Nat → Int) key
    exact ⟨z, .inr ⟨x, rfl, hl, hm, hz⟩⟩
/-- The slice argument holds bools. -/
def BoolRow (w : World) (a : Option Addr) (len cap : Nat) (z : Nat → Bool) : Prop :=
  (a = none ∧ len = 0 ∧ cap = 0) ∨ ∃ x, a = some x ∧ len ≤ cap ∧ cap ≤ maxLen ∧ ∀ i, i < len → w.cell? (x.add i) = some (.bool (z i))
theorem open_boolrow {H : Type} {enc : TypeId × Value → H} {P : Program} {W : World} {base : Nat} {sp : Nat → Bool} {vd : Bool} {t e : TypeId} {a : Option Addr} {n c : Nat} {d : DataW H} {p : List MemPlace}
    (ht : P.underlying t = some (.slice e)) (he : P.underlying e = some .bool) (ce : P.cellsOf e = 1) (h : DataW.Trod enc P W base sp vd t (.slice a n c) d p) : ∃ z, BoolRow W a n c z := by
  obtain ⟨fuel, hfu⟩ := h
  rcases open_slice1 ht ce hfu with ⟨hcs, _⟩ | ⟨x, len, cap, m, q, V, D, Pl, hcs, _, hl, hm, hmm, _, hx⟩
  · simp [Value.cells] at hcs
    obtain ⟨rfl, rfl, rfl⟩ := hcs
    exact ⟨fun _ => false, .inl ⟨rfl, rfl, rfl⟩⟩
  · simp [Value.cells] at hcs
    obtain ⟨rfl, rfl, rfl⟩ := hcs
    have hlm : n ≤ m := by rw [hmm]; split <;> omega
    obtain ⟨z, hz⟩ := choose_lt (α := Bool) (p := fun i b => W.cell? (x.add i) = some (.bool b)) (fun i (hi : i < n) => by
      obtain ⟨h1, h2⟩ := hx i (by omega)
      obtain ⟨b, hb, _⟩ := DataW.trod_bool he h2
      exact ⟨b, by rw [h1]; simpa using hb⟩)
    exact ⟨z, .inr ⟨x, rfl, hl, hm, hz⟩⟩
end Go.Proofs.Ytfioekkegihkoaa
