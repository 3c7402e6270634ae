/- SlotsPlay: slots beside the document's pairs. -/
import Derived.Test.YtnbanbfnabhjjaaGets2
import Derived.Test.YtnbanbfnabhjjaaArgs2
namespace Go.Proofs.Ytnbanbfnabhjjaa
open Go.RowKit
set_option linter.unusedVariables false
set_option linter.unusedSimpArgs false
/-- Slots and a row of pairs, apart; what lay in W is as it was. -/
structure Play (W wr : World) (sb limit : Nat) (f : Int → Option Int) (n : Nat) (v : Value) (l : PL) : Prop where
  ex : ∃ O : Nat → Prop, (∀ k, O k → W.heap.size ≤ k) ∧ SM O wr wr sb limit f n ∧ ∀ b ∈ rb v, ¬ O b ∧ b ≠ sb
  row : PRow wr v l
  below : Below W.heap.size W wr
section
variable {W wr w' : World} {sb limit n n' : Nat} {f f' : Int → Option Int} {v v' : Value} {l l' : PL}
theorem Play.mod0 (h : Play W wr sb limit f n v l) (hm : Mod [] wr w') : Play W w' sb limit f n v l := by
  obtain ⟨O, h1, h2, h3⟩ := h.ex
  exact ⟨⟨O, h1, h2.other hm (by simp), h3⟩, h.row.mod hm (by simp), h.below.trans (hm.below h.below.size (by simp))⟩
/-- Behind a call of the slots', whatever it does to them. -/
theorem Play.call {O : Nat → Prop} (h : Play W wr sb limit f n v l) (h1 : ∀ k, O k → W.heap.size ≤ k) (h3 : ∀ b ∈ rb v, ¬ O b ∧ b ≠ sb) (hS : SM O wr w' sb limit f' n') : Play W w' sb limit f' n' v l :=
  ⟨⟨O, h1, hS.rebase, h3⟩, Row.keep h.row hS.keep (fun b hb => (h3 b hb).1), h.below.trans (hS.keep.below h.below.size h1)⟩
/-- Behind a call of the document's. -/
theorem Play.ref (h : Play W wr sb limit f n v l) (hr : PRow w' v' l') (hm : Mod [] wr w') (hf : ∀ b ∈ rb v', b ∈ rb v ∨ wr.heap.size ≤ b) : Play W w' sb limit f n v' l' := by
  obtain ⟨O, h1, h2, h3⟩ := h.ex
  refine ⟨⟨fun k => O k ∧ k ∉ rb v', fun k hk => h1 k hk.1, h2.grow hm (by simp) (fun x hx => ⟨?_, Row.lt hr hx⟩), fun b hb => ⟨fun h => h.2 hb, ?_⟩⟩, hr, h.below.trans (hm.below h.below.size (by simp))⟩
  · rcases hf x hx with h4 | h4
    · exact .inr (h3 x h4).1
    · exact .inl h4
  · rcases hf b hb with h4 | h4
    · exact (h3 b h4).2
    · have := h2.lt; omega
theorem Play.nil_ (h : Play W wr sb limit f n v l) : Play W wr sb limit f n (.slice none 0 0) [] := by
  obtain ⟨O, h1, h2, h3⟩ := h.ex
  exact ⟨⟨O, h1, h2, fun b hb => by simp [rb, Value.ownBlock] at hb⟩, Row.nil_ _ _ _, h.below⟩
theorem Play.start {wa : World} (hB : Below W.heap.size W wa) (h : SM (fun k => wa.heap.size ≤ k) wa wr sb limit f n) : Play W wr sb limit f n (.slice none 0 0) [] :=
  ⟨⟨_, fun k hk => Nat.le_trans hB.size hk, h.rebase, fun b hb => by simp [rb, Value.ownBlock] at hb⟩, Row.nil_ _ _ _, hB.trans (h.keep.below hB.size (fun k hk => Nat.le_trans hB.size hk))⟩
/-- A row of uint64 made beside: the slots know nothing of it. -/
theorem Play.with_ {w2 : World} {o : Value} {m : Nat} {out : List Int} (h : Play W wr sb limit f n v l) (hW : WayU wr w2 o m out) : ∃ O : Nat → Prop, (∀ k, O k → W.heap.size ≤ k) ∧ SM O w2 w2 sb limit f n ∧ (∀ b ∈ rb o, ¬ O b) ∧ (∀ b ∈ rb v, ¬ O b ∧ b ≠ sb) := by
  obtain ⟨O, h1, h2, h3⟩ := h.ex
  exact ⟨fun k => O k ∧ k ∉ rb o, fun k hk => h1 k hk.1, h2.grow hW.mod (by simp) (fun x hx => ⟨.inl (hW.ge x hx), Row.lt hW.row hx⟩), fun b hb h => h.2 hb, fun b hb => ⟨fun h => (h3 b hb).1 h.1, (h3 b hb).2⟩⟩
end
end Go.Proofs.Ytnbanbfnabhjjaa
