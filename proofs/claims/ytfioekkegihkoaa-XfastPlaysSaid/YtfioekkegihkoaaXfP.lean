/- A trie and blocks of its caller's beside it. -/
import Derived.Test.YtfioekkegihkoaaGXfO
namespace Go.Proofs.Ytfioekkegihkoaa
open Go.RowKit
set_option linter.unusedVariables false
set_option linter.unusedSimpArgs false
section
variable {w0 w w' : World} {xb limit c : Nat} {ks : List Int} {P P' S : List Nat}
/-- A block that it leaves alone is turned. -/
theorem XM.touch (h : XM w0 w xb limit ks c P) (hm : Mod S w w') (hS : ∀ q ∈ S, q ∈ P ∧ w0.heap.size ≤ q) : XM w0 w' xb limit ks c P := by
  obtain ⟨mb, F, L, m, c', g1, g2, g3, g4, g5, g6, g7, g8⟩ := h
  exact ⟨mb, F, L, m, c', g1.mod hm (fun k hk hF => (g6.1 k (by simp [hF])).2 (hS k hk).1), g2, g3.mod hm (fun hk => (g6.1 mb (by simp)).2 (hS mb hk).1), g4, g5, g6.news hm.size, g7.trans hm (fun q hq => .inr (hS q hq).2), g8⟩
theorem XM.less (h : XM w0 w xb limit ks c P') (hP : ∀ q ∈ P, q ∈ P') : XM w0 w xb limit ks c P := by
  obtain ⟨mb, F, L, m, c', g1, g2, g3, g4, g5, g6, g7, g8⟩ := h
  exact ⟨mb, F, L, m, c', g1, g2, g3, g4, g5, ⟨fun q hq => ⟨(g6.1 q hq).1, fun h => (g6.1 q hq).2 (hP q h)⟩, fun q hq => g6.2 q (hP q hq)⟩, g7, g8⟩
theorem XM.plt (h : XM w0 w xb limit ks c P) : ∀ q ∈ P, q < w.heap.size := by
  obtain ⟨mb, F, L, m, c', g1, g2, g3, g4, g5, g6, g7, g8⟩ := h
  exact g6.2
theorem XK.less (h : XK w0 P' w w') (hP : ∀ q ∈ P, q ∈ P') : XK w0 P w w' := by
  obtain ⟨S, h1, h2⟩ := h
  exact ⟨S, h1, fun q hq => ⟨(h2 q hq).1, fun h => (h2 q hq).2 (hP q h)⟩⟩
theorem XK.sets (hm : Mod S w w') (hS : ∀ q ∈ S, w0.heap.size ≤ q ∧ q ∉ P) : XK w0 P w w' := ⟨S, hm, hS⟩
theorem Blk.xk {b t : Nat} {cs : Array Value} (h : Blk w b t cs) (hk : XK w0 P w w') (hb : b ∈ P) : Blk w' b t cs := by
  obtain ⟨S, h1, h2⟩ := hk
  exact h.mod h1 (fun hS => (h2 b hS).2 hb)
end
end Go.Proofs.Ytfioekkegihkoaa
