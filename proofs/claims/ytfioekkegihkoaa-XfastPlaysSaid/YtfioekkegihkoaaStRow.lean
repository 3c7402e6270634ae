/- Slice arguments of structs stand where nothing old has turned. No program in sight. -/
import Derived.Test.YtfioekkegihkoaaArgs2
namespace Go.Proofs.Ytfioekkegihkoaa
open Go.RowKit
theorem StRow.news {ks : List IntKind} (hk : 0 < ks.length) {w W : World} {a : Option Addr} {len cap : Nat} {z : Nat → Nat → Int} (h : StRow ks w a len cap z) (hW : Mod [] w W) : StRow ks W a len cap z := by
  obtain ⟨h1, h2⟩ := h.le
  rcases Nat.eq_zero_or_pos len with h0 | h0
  · rcases h with h | ⟨x, hx, hl, hm, hc⟩
    · exact .inl h
    · exact .inr ⟨x, hx, hl, hm, fun i hi => by omega⟩
  · obtain ⟨b, off, rfl, hb, hc⟩ := h.at_ h0 hk
    refine .inr ⟨_, rfl, h1, by unfold maxLen; exact h2, fun i hi j k hk => ?_⟩
    have h3 := hc i hi j k hk
    have e : (⟨b, off, none⟩ : Addr).add (i * ks.length + j) = ⟨b, off + (i * ks.length + j), none⟩ := by
      unfold Addr.add
      by_cases h : i * ks.length + j = 0
      · rw [if_pos h, h]; rfl
      · rw [if_neg h]
    rw [e]
    exact ⟨(Below.cell (p := ⟨b, off + (i * ks.length + j), none⟩) hW.below' hb).trans h3.1, h3.2⟩
end Go.Proofs.Ytfioekkegihkoaa
