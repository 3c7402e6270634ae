/- Gets of slots over a row. -/
import Derived.Test.YtnbanbfnabhjjaaRef22e
import Derived.Test.YtnbanbfnabhjjaaSlotsV
namespace Go.Proofs.Ytnbanbfnabhjjaa
open Go.RowKit
set_option linter.unusedVariables false
set_option linter.unusedSimpArgs false
/-- What turns only blocks that are not the slots' own, and lays new ones X that are another's. -/
theorem SM.grow {O : Nat → Prop} {w w' : World} {sb limit n : Nat} {f : Int → Option Int} (h : SM O w w sb limit f n) {S X : List Nat} (hm : Mod S w w') (hS : ∀ k ∈ S, ¬ O k ∧ k ≠ sb) (hX : ∀ x ∈ X, (w.heap.size ≤ x ∨ ¬ O x) ∧ x < w'.heap.size) :
    SM (fun k => O k ∧ k ∉ X) w' w' sb limit f n := by
  obtain ⟨mb, pb, tb, s, l, ⟨Fp, Ft, h1, h2, h3, h4, h5⟩, h6⟩ := h
  obtain ⟨b, pr, ht⟩ := h1.tab
  obtain ⟨m, hme⟩ := h1.met
  have hno : ∀ k, k < w.heap.size → O k → k ∉ X := fun k hk hO hx => by
    rcases (hX k hx).1 with h | h
    · omega
    · exact h hO
  refine ⟨mb, pb, tb, s, l, ⟨Fp, Ft, ⟨h1.blk.mod hm (fun hk => (hS _ hk).2 rfl), h1.pool.mod hm (fun k hk hk' => (hS _ hk).1 (h3 k hk')), ⟨b, pr, ht.mod hm (fun k hk hk' => (hS _ hk).1 (h4 k hk'))⟩, ⟨m, hme.mod hm (fun hk => (hS _ hk).1 h2)⟩, h1.d1, h1.d2, h1.d3, h1.d4, h1.d5, h1.d6⟩,
    ⟨h2, hno _ hme.lt h2⟩, fun k hk => ⟨h3 k hk, hno _ (h1.pool.lt k hk) (h3 k hk)⟩, fun k hk => ⟨h4 k hk, hno _ (ht.lt k hk) (h4 k hk)⟩, Keep.refl fun k hk => ⟨h5.2 k (Nat.le_trans hm.size hk), fun hx => by have := (hX k hx).2; omega⟩⟩, h6⟩
/-- A row of uint64 beside slots: under way since w. -/
structure Side (O : Nat → Prop) (w wr : World) (sb limit : Nat) (f : Int → Option Int) (n : Nat) (o : Value) (m : Nat) (out : List Int) : Prop where
  ex : ∃ O' : Nat → Prop, (∀ k, O' k → O k) ∧ SM O' wr wr sb limit f n ∧ ∀ b ∈ rb o, ¬ O' b ∧ b ≠ sb
  row : Row wr 22 1 o m (ucells out)
  ge : ∀ b ∈ rb o, w.heap.size ≤ b
  keep : Keep O w wr
theorem Row.keep {O : Nat → Prop} {w w' : World} {e sz n : Nat} {v : Value} {xs : List Value} (h : Row w e sz v n xs) (hk : Keep O w w') (hv : ∀ b ∈ rb v, ¬ O b) : Row w' e sz v n xs := by
  obtain ⟨⟨S, hS, hm⟩, _⟩ := hk
  exact h.mod hm (fun k hk h => hv k hk (hS k h))
/-- Behind a call of the slots'. -/
theorem Side.call {O O' : Nat → Prop} {w wr w3 : World} {sb limit n m n' : Nat} {f f' : Int → Option Int} {o : Value} {out : List Int} (h : Side O w wr sb limit f n o m out) (hsub : ∀ k, O' k → O k) (hno : ∀ b ∈ rb o, ¬ O' b ∧ b ≠ sb) (hS : SM O' wr w3 sb limit f' n') :
    Side O w w3 sb limit f' n' o m out := by
  refine ⟨⟨O', hsub, hS.rebase, hno⟩, h.row.keep hS.keep (fun b hb => (hno b hb).1), h.ge, ?_⟩
  obtain ⟨⟨S, hS1, hm⟩, _⟩ := hS.keep
  exact hm.belowOf' h.keep (fun k hk => hsub k (hS1 k hk))
/-- Behind an append. -/
theorem Side.app {O : Nat → Prop} {w wr w3 : World} {sb limit n m m' : Nat} {f : Int → Option Int} {o o' : Value} {out out' : List Int} {xs : List Value} (h : Side O w wr sb limit f n o m out) (hr : Row w3 22 1 o' m' xs) (hm : Mod (rb o) wr w3) (hf : ∀ k ∈ rb o', k ∈ rb o ∨ wr.heap.size ≤ k) (hx : xs = ucells out') :
    Side O w w3 sb limit f n o' m' out' := by
  subst hx
  obtain ⟨O', hsub, hS, hno⟩ := h.ex
  refine ⟨⟨fun k => O' k ∧ k ∉ rb o', fun k hk => hsub k hk.1, hS.grow hm hno (fun x hx => ⟨?_, hr.lt hx⟩), fun b hb => ⟨fun h => h.2 hb, ?_⟩⟩, hr, fun b hb => ?_, hm.belowOf' h.keep (fun k hk => h.keep.2 k (h.ge k hk))⟩
  · rcases hf x hx with h1 | h1
    · exact .inr (hno x h1).1
    · exact .inl h1
  · rcases hf b hb with h1 | h1
    · exact (hno b h1).2
    · have := hS.lt; omega
  · rcases hf b hb with h1 | h1
    · exact h.ge b h1
    · have := h.keep.size; omega
theorem Side.alloc {O : Nat → Prop} {w wr : World} {sb limit n m : Nat} {f : Int → Option Int} {o : Value} {out : List Int} (h : Side O w wr sb limit f n o m out) (x : Obj) : Side O w (wr.alloc x) sb limit f n o m out := by
  obtain ⟨O', hsub, hS, hno⟩ := h.ex
  exact ⟨⟨O', hsub, hS.other ((Mod.refl [] wr).alloc x) (by simp), hno⟩, h.row.alloc x, h.ge, ((Mod.refl [] wr).alloc x).belowOf' h.keep (by simp)⟩
theorem Side.start {O : Nat → Prop} {w : World} {sb limit n : Nat} {f : Int → Option Int} (h : SM O w w sb limit f n) : Side O w w sb limit f n (.slice none 0 0) 0 [] :=
  ⟨⟨O, fun k hk => hk, h, fun b hb => by simp [rb, Value.ownBlock] at hb⟩, Row.nil_ _ _ _, fun b hb => by simp [rb, Value.ownBlock] at hb, h.keep⟩
end Go.Proofs.Ytnbanbfnabhjjaa
