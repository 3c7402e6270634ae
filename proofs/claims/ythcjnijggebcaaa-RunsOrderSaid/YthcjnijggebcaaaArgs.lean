/- Arguments that are slices of whole numbers: what their cells hold. -/
import Derived.Test.YthcjnijggebcaaaLib
import Derived.ProofKit
import Derived.OpenShut
import Derived.SizedLaws
import Derived.ChangeSlices
import Derived.Test.YthcjnijggebcaaaProg
namespace Go.Proofs.Ythcjnijggebcaaa
open Go.RowKit Go.ChangeShapes Go.WideShapes
/-- The slice argument (a, len, cap) holds zs up to its capacity. -/
def IntRow (k : IntKind) (w : World) (a : Option Addr) (len cap : Nat) (zs : List Int) : Prop :=
  (a = none ∧ len = 0 ∧ cap = 0 ∧ zs = []) ∨
  ∃ x, a = some x ∧ len ≤ cap ∧ cap ≤ maxLen ∧ zs.length = cap ∧ (∀ i, i < zs.length → w.cell? (x.add i) = some (.int k (zs.getD i 0))) ∧ ∀ n ∈ zs, (Lit.int k n).wf = true
theorem IntRow.le {k : IntKind} {w : World} {a : Option Addr} {len cap : Nat} {zs : List Int} (h : IntRow k w a len cap zs) : len ≤ cap ∧ cap ≤ 9223372036854775807 := by
  rcases h with ⟨_, h1, h2, _⟩ | ⟨x, _, h1, h2, _⟩
  · omega
  · unfold maxLen at h2; omega
theorem IntRow.at_ {k : IntKind} {w : World} {a : Option Addr} {len cap : Nat} {zs : List Int} (h : IntRow k w a len cap zs) (hn : 0 < len) :
    ∃ b off, a = some ⟨b, off, none⟩ ∧ b < w.heap.size ∧ ∀ j, j < len → w.cell? ⟨b, off + j, none⟩ = some (.int k (zs.getD j 0)) ∧ (Lit.int k (zs.getD j 0)).wf = true := by
  rcases h with ⟨_, h1, h2, _⟩ | ⟨x, rfl, h1, h2, h3, h4, h5⟩
  · omega
  · obtain ⟨b, off, spot⟩ := x
    have h0 := h4 0 (by omega)
    have hs : spot = none := by
      rw [show (⟨b, off, spot⟩ : Addr).add 0 = ⟨b, off, spot⟩ from rfl] at h0
      unfold World.cell? at h0
      cases spot with
      | none => rfl
      | some q => simp only at h0; split at h0 <;> simp at h0
    subst hs
    have ha : ∀ j, (⟨b, off, none⟩ : Addr).add j = ⟨b, off + j, none⟩ := by intro j; unfold Addr.add; split <;> simp_all
    refine ⟨b, off, rfl, World.block_lt_of_cell? w _ h0, fun j hj => ?_⟩
    have := h4 j (by omega)
    rw [ha] at this
    refine ⟨this, h5 _ ?_⟩
    rw [List.getD_eq_getElem?_getD, List.getElem?_eq_getElem (by omega)]; exact List.getElem_mem _
/-- How long a slice of whole numbers may be: what its weight in the row's reading allows. -/
theorem sized_row {H : Type} {enc : TypeId × Value → H} {P : Program} {W : World} {base : Nat} {sp : Nat → Bool} {vd : Bool} {t e : TypeId} {k : IntKind} {a : Option Addr} {n c : Nat} {d : DataW H} {p : List MemPlace} {ts : List TypeId} {ds : List (DataW H)} {j : Nat}
    (hsz : (DataW.weightsEach P ts ds).all (· ≤ reachBytes) = true) (ht : ts[j]? = some t) (hd : ds[j]? = some d) (hu : P.underlying t = some (.slice e)) (he : P.underlying e = some (.int k)) (hc : P.cellsOf e = 1) {B : Nat} (hB : P.bytesOf e = B)
    (h : DataW.Trod enc P W base sp vd t (.slice a n c) d p) : n * B ≤ 140737488351232 := by
  obtain ⟨fuel, hf⟩ := h
  rcases open_ints hu he hc hf with ⟨hcs, _⟩ | ⟨x, l, m, zs, hcs, _, hl, _, hz, hx, _, _⟩
  · simp [Value.cells] at hcs
    obtain ⟨rfl, rfl, rfl⟩ := hcs
    simp
  · simp [Value.cells] at hcs
    obtain ⟨rfl, rfl, rfl⟩ := hcs
    obtain ⟨hx, _⟩ := Prod.mk.inj hx
    subst hx
    have hw := sized_slice hsz ht hd hu
    rw [hB] at hw
    have hn : n ≤ zs.length := by rw [hz]; split <;> omega
    have hs : (lits (H := H) k (zs.take n)).length + (lits (H := H) k (zs.drop n)).length = zs.length := by simp [lits]; omega
    rw [hs] at hw
    exact Nat.le_trans (Nat.mul_le_mul_right _ hn) hw
end Go.Proofs.Ythcjnijggebcaaa
