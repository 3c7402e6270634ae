/- law05.same on like lists; law05.do: the table and the document's list together. -/
import Derived.Test.YtnbanbfnabhjjaaEnt05c
import Derived.Test.YtnbanbfnabhjjaaHashMany
namespace Go.Proofs.Ytnbanbfnabhjjaa
open Go.RowKit
set_option linter.unusedVariables false
set_option linter.unusedSimpArgs false
theorem entT_eq (a b c : Int) (w : World) : (Op.equalIn 10000 149 (.agg #[.int .u8 a, .int .u64 b, .int .u64 c]) (.agg #[.int .u8 a, .int .u64 b, .int .u64 c])).run Try.prog w = .ok true w := by
  have hS : Try.prog.underlying 149 = some (.struct (Try.prog.fieldsOf 149)) := by kernel_rfl
  have hp : Try.prog.stoodInHeld 149 = false := by kernel_rfl
  rw [show (10000 : Nat) = 9999 + 1 from rfl, run_equalIn_agg w 9999 149 _ _ hS hp]
  simp only [Program.fieldsOf, Try.underlying149]
  go_simp
theorem entT_guard (op : BinOp) (A B : Operand) (x y : Array Value) (w : World) : (eqGuard op 149 A B (.agg x) (.agg y)).run Try.prog w = .ok () w := run_eqGuard_agg w op _ A B x y (by kernel_rfl)
set_option maxRecDepth 100000 in
set_option maxHeartbeats 2000000 in
theorem same05 (l : EL) (va vb : Value) (w : World) (ha : ERow w va l) (hb : ERow w vb l) :
    Calls Try.prog 74 #[va, vb] w fun e w' => e = .returned (.bool true) ∧ Mod [] w w' := by
  obtain ⟨a, cap, rfl, k1, k2⟩ := ha.slice_
  obtain ⟨b, cap2, rfl, k3, k4⟩ := hb.slice_
  have H := Hidden.mk (And.intro ha hb)
  clear ha hb
  go_enter Try.func74, Try.ntmps74
  go_wp2_with fail
  go_loopw [13] (fun iv wr => ∃ i : Nat, i ≤ l.length ∧ iv = .int .i64 i ∧ Mod [] w wr) (fun iv _ => l.length - (intOf iv).toNat)
  case atStart => exact ⟨0, by omega, rfl, Mod.refl _ _⟩
  case round =>
    obtain ⟨i, hi, rfl, hM⟩ := hrel
    by_cases hlt : i < l.length
    · have hx := List.getElem?_eq_getElem hlt
      generalize l[i] = x at hx
      obtain ⟨g, rfl, hg, q1, q2, c0, c1, c2⟩ := ERow.at_ (H.out.1.mod hM (by simp)) hx
      obtain ⟨g', rfl, hg', q1', q2', d0, d1, d2⟩ := ERow.at_ (H.out.2.mod hM (by simp)) hx
      obtain ⟨⟨xa, xb⟩, xv⟩ := x
      simp only at c0 c1 c2 d0 d1 d2
      have hkn := entT_eq xa xb xv
      have hkg := fun op A B x y w => entT_guard op A B x y w
      have HM := Hidden.mk hM
      clear hM hx
      go_wp2_with fail
      go_quiet (fail)
      go_wp2_with fail
      go_roundw
      case rel => exact ⟨i + 1, by omega, by go_num, HM.out.trans ((Mod.refl [] _).drewN _) (by simp)⟩
      case measure => simp [intOf]; omega
    · obtain rfl : i = l.length := by omega
      have HM := Hidden.mk hM
      clear hM hlt
      go_wp2_with fail
      go_ret
      exact ⟨rfl, HM.out⟩
/-- The table, with the document's list beside; apart. -/
def Both (w0 w : World) (tb b : Nat) (pr : Int) (l : EL) (m : Mt) (mb : Nat) (v : Value) : Prop := ∃ F, TabAt w tb mb F b pr l ∧ MeterAt w mb m ∧ mb ∉ F ∧ w0.heap.size ≤ mb ∧ (∀ k ∈ F, w0.heap.size ≤ k) ∧ Below w0.heap.size w0 w ∧ ERow w v l ∧ (∀ k ∈ rb v, w0.heap.size ≤ k ∧ k ∉ F ∧ k ≠ mb) ∧ RiseE l
end Go.Proofs.Ytnbanbfnabhjjaa
