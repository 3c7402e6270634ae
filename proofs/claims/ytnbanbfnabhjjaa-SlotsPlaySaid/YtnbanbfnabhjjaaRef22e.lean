/- SameKeys of two rows that hold the same. -/
import Derived.Test.YtnbanbfnabhjjaaRef22d
namespace Go.Proofs.Ytnbanbfnabhjjaa
open Go.RowKit
set_option linter.unusedVariables false
set_option linter.unusedSimpArgs false
theorem ucells_get {l : List Int} {i : Nat} (h : i < l.length) : (ucells l)[i]? = some (.int .u64 (l.getD i 0)) := by simp [ucells, h]
theorem URow.at_ {w : World} {a : Option Addr} {n cap : Nat} {l : List Int} (h : Row w 22 1 (.slice a n cap) n (ucells l)) {i : Nat} (hil : i < n) :
    ∃ g, a = some ⟨g, 0, none⟩ ∧ g < w.heap.size ∧ w.cell? ⟨g, i, none⟩ = some (.int .u64 (l.getD i 0)) := by
  have hn : n = l.length := by have := h.1; simp [ucells] at this; omega
  obtain ⟨g, cap', e1, _, _, _, hlt, e2, _⟩ := h.at_ (by omega)
  injection e1 with e1
  exact ⟨g, e1, hlt, (e2 i (by omega)).trans (ucells_get (by omega))⟩
set_option maxRecDepth 100000 in
set_option maxHeartbeats 2000000 in
theorem same_keys (l : List Int) (v u : Value) (w : World) (h : Row w 22 1 v l.length (ucells l)) (h' : Row w 22 1 u l.length (ucells l)) :
    Calls Try.prog 67 #[v, u] w fun e w' => e = .returned (.bool true) ∧ Mod [] w w' := by
  have H := Hidden.mk h
  have H' := Hidden.mk h'
  obtain ⟨a, cap, rfl, k1, k2⟩ := h.slice_
  obtain ⟨a', cap', rfl, k1', k2'⟩ := h'.slice_
  clear h h'
  go_enter Try.func67, Try.ntmps67
  go_wp2_with fail
  go_loopw [13] (fun iv wr => Mod [] w wr ∧ ∃ i : Nat, i ≤ l.length ∧ iv = .int .i64 i) (fun iv _ => l.length - (intOf iv).toNat)
  case atStart => exact ⟨Mod.refl [] w, 0, by omega, rfl⟩
  case round =>
    obtain ⟨hm, i, hi, rfl⟩ := hrel
    by_cases hlt : i < l.length
    · obtain ⟨g, rfl, hg, hc⟩ := URow.at_ (H.out.mod hm (by simp)) hlt
      obtain ⟨g', rfl, hg', hc'⟩ := URow.at_ (H'.out.mod hm (by simp)) hlt
      generalize l.getD i 0 = x at hc hc'
      have HM := Hidden.mk hm
      clear hm
      go_wp2_with fail
      go_quiet (fail)
      go_wp2_with fail
      go_roundw
      case rel => exact ⟨by first | exact HM.out.drew | exact HM.out.drewN _, i + 1, by omega, by go_num⟩
      case measure => simp [intOf]; omega
    · have HM := Hidden.mk hm
      clear hm
      go_wp2_with fail
      go_ret
      exact ⟨rfl, HM.out⟩
end Go.Proofs.Ytnbanbfnabhjjaa
