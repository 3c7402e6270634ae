/- What a loop's body over an iterator keeps: all cells but those of the caller's own blocks C. -/
import Derived.Test.YtnbanbfnabhjjaaPoolL2
import Derived.Test.YtnbanbfnabhjjaaSl
import Derived.RangeFuncNested
import Derived.RangeFuncBound
import Derived.RangeFuncCalls
import Derived.RangeFuncLeaves
namespace Go.Proofs.Ytnbanbfnabhjjaa
open Go.RowKit
set_option linter.unusedVariables false
set_option linter.unusedSimpArgs false
def KpC (C : List Nat) (W W' : World) : Prop := W.heap.size ≤ W'.heap.size ∧ ∀ k o, k ∉ C → W.heap[k]? = some o → o.isCells = true → W'.heap[k]? = some o
theorem KpC.refl (C : List Nat) (W : World) : KpC C W W := ⟨Nat.le_refl _, fun _ _ _ h _ => h⟩
theorem KpC.trans {C : List Nat} {A B D : World} (h : KpC C A B) (k : KpC C B D) : KpC C A D := ⟨Nat.le_trans h.1 k.1, fun q o hq h1 h2 => k.2 q o hq (h.2 q o hq h1 h2) h2⟩
theorem KpC.put {C : List Nat} (W : World) (l : Nat) (o o' : Obj) (hl : W.heap[l]? = some o) (ho : o.isCells = false) : KpC C W (W.putObj l o') := by
  refine ⟨by simp, fun k q hk h1 h2 => ?_⟩
  have : k ≠ l := by rintro rfl; rw [hl] at h1; injection h1 with h1; subst h1; rw [ho] at h2; cases h2
  rw [World.putObj_heap_other this]; exact h1
theorem KpC.of_mod {C S : List Nat} {W W' : World} (h : Mod S W W') (hS : ∀ k ∈ S, k ∈ C) : KpC C W W' :=
  ⟨h.size, fun k o hk h1 _ => (h.block k (Array.getElem?_eq_some_iff.1 h1).1 (fun hm => hk (hS k hm))).trans h1⟩
section
variable {C : List Nat} {W W' : World}
theorem Blk.kp {b t : Nat} {cs : Array Value} (h : Blk W b t cs) (hk : KpC C W W') (hb : b ∉ C) : Blk W' b t cs := hk.2 b _ hb h rfl
theorem Row.kp {e sz n : Nat} {v : Value} {xs : List Value} (h : Row W e sz v n xs) (hk : KpC C W W') (hb : ∀ k ∈ rb v, k ∉ C) : Row W' e sz v n xs := by
  refine ⟨h.1, ?_⟩
  rcases h.2 with hn | ⟨g, cap, cur, rfl, hb', hgg, rest⟩
  · exact .inl hn
  · exact .inr ⟨g, cap, cur, rfl, hb', hk.2 g _ (hb g (by simp [rb, Value.ownBlock])) hgg rfl, rest⟩
theorem PoolAt.kp {α : Type} {T : PT α} {pb mb : Nat} {F : List Nat} {s : PS α} (h : PoolAt T W pb mb F s) (hk : KpC C W W') (hF : ∀ k ∈ F, k ∉ C) : PoolAt T W' pb mb F s := by
  obtain ⟨cv, fv, rfl, h⟩ := h
  exact ⟨cv, fv, rfl, h.blk.kp hk (hF _ (by simp)), h.cells.kp hk (fun k hk => hF k (by simp [hk])), h.free.kp hk (fun k hk => hF k (by simp [hk])), h.wf⟩
theorem cell_kp {b i : Nat} {v : Value} (h : W.cell? ⟨b, i, none⟩ = some v) (hk : KpC C W W') (hb : b ∉ C) : W'.cell? ⟨b, i, none⟩ = some v := by
  unfold World.cell? at h ⊢
  cases hb' : W.heap[b]? with
  | none => simp [hb'] at h
  | some o =>
    simp only [hb'] at h
    cases o with
    | cells cs t fz => rw [hk.2 b _ hb hb' rfl]; exact h
    | _ => simp at h
theorem ISl.kp {k : IntKind} {v : Value} {l : List Int} (h : ISl k W v l) (hk : KpC C W W') (hb : ∀ b ∈ rb v, b ∉ C) : ISl k W' v l := by
  obtain ⟨a, cap, rfl, h1, h2, h3, h4⟩ := h
  refine ⟨a, cap, rfl, h1, h2, h3, h4.imp id ?_⟩
  rintro ⟨b, off, rfl, h5⟩
  exact ⟨b, off, rfl, fun i x hx => cell_kp (h5 i x hx) hk (hb b (by simp [rb, Value.ownBlock]))⟩
end
theorem Mod.grown {w w' : World} (h : Mod [] w w') : w.grownBy w' none := ⟨h.os, h.tape, h.output, h.size, fun k hk _ => h.block k hk (by simp)⟩
theorem AbidesFrom.mod {β : Type} {B : Nat} {J : β → World → Prop} (h : AbidesFrom B J) {s : β} {W W' : World} (hs : J s W) (hm : Mod [] W W') : J s W' := h s W W' none hs hm.grown (fun r e => by cases e)
end Go.Proofs.Ytnbanbfnabhjjaa
