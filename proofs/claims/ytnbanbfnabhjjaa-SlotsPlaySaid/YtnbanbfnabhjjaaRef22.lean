/- The document's pairs (stepstoneref22) in memory. -/
import Derived.Test.YtnbanbfnabhjjaaPairs
import Derived.Test.YtnbanbfnabhjjaaSlotsW
namespace Go.Proofs.Ytnbanbfnabhjjaa
open Go.RowKit
set_option linter.unusedVariables false
set_option linter.unusedSimpArgs false
abbrev PRow (w : World) (v : Value) (l : PL) : Prop := Row w 92 2 v l.length (pcells l)
set_option maxRecDepth 100000 in
set_option maxHeartbeats 1000000 in
theorem ref22_find (l : PL) (k : Int) (v : Value) (w : World) (h : PRow w v l) :
    Calls Try.prog 63 #[v, .int .u64 k] w fun e w' => e = .returned (.tuple #[.int .i64 (pfind l k), .bool (pis l k)]) ∧ Mod [] w w' := by
  have hpl := pfind_le l k
  obtain ⟨a, cap, rfl, k1, k2⟩ := h.slice_
  have hcells : Hidden (∀ i e, l[i]? = some e → ∃ g, a = some ⟨g, 0, none⟩ ∧ w.cell? ⟨g, i * 2, none⟩ = some (.int .u64 e.1)) := ⟨fun i e hi => by
    have hil := (List.getElem?_eq_some_iff.1 hi).1
    obtain ⟨g, cap', e1, _, _, _, _, e2, _⟩ := h.at_ (by omega)
    injection e1 with e1
    exact ⟨g, e1, (e2 (i * 2) (by omega)).trans (pcells_key hi)⟩⟩
  clear h
  go_enter Try.func63, Try.ntmps63
  go_wp2_with fail
  go_loopw [6] (fun iv wr => wr = w ∧ ∃ i : Nat, i ≤ pfind l k ∧ iv = .int .i64 i) (fun iv _ => l.length - (intOf iv).toNat)
  case atStart => exact ⟨rfl, 0, by omega, rfl⟩
  case round =>
    obtain ⟨rfl, i, hi, rfl⟩ := hrel
    by_cases hlt : i < pfind l k
    · obtain ⟨e, he, hek⟩ := pfind_lt hlt
      obtain ⟨g, rfl, hc⟩ := hcells.out i e he
      have hil : i < l.length := by omega
      have HE := Hidden.mk he
      obtain ⟨e1, e2⟩ := e
      simp only at hc hek
      clear he
      go_wp2_with fail
      go_roundw
      case rel => exact ⟨by trivial, i + 1, by omega, by go_num⟩
      case measure => simp [intOf]; omega
    · obtain rfl : i = pfind l k := by omega
      cases he : l[pfind l k]? with
      | none =>
        have hil : l.length ≤ pfind l k := by simpa using he
        have hpis : pis l k = false := by simp [pis, he]
        have HP := Hidden.mk hpis
        have hd : decide (pfind l k < l.length) = false := by simp; omega
        clear he hpis hlt hi hil
        go_wp2_with fail
        go_quiet (fail)
        go_wp2_with fail
        go_ret2
        exact ⟨by rw [HP.out]; rfl, by first | exact Mod.refl _ _ | exact (Mod.refl [] _).drew | exact (Mod.refl [] _).drewN _⟩
      | some e =>
        have hek := pfind_at he
        obtain ⟨g, rfl, hc⟩ := hcells.out _ e he
        have hil := (List.getElem?_eq_some_iff.1 he).1
        have hpis : pis l k = decide (e.1 = k) := by simp [pis, he]
        have HP := Hidden.mk hpis
        obtain ⟨e1, e2⟩ := e
        simp only at hc hek
        have hd : decide (pfind l k < l.length) = true := by simp; omega
        clear he hpis hlt hi
        go_wp2_with fail
        go_quiet (fail)
        go_wp2_with fail
        go_ret2
        exact ⟨by rw [HP.out]; rfl, by first | exact Mod.refl _ _ | exact (Mod.refl [] _).drew | exact (Mod.refl [] _).drewN _⟩
end Go.Proofs.Ytnbanbfnabhjjaa
