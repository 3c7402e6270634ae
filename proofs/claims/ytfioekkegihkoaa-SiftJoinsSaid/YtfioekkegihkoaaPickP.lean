/- Operations by laws, whatever the frame: the builtin min, a slice's beginning. -/
import Derived.Test.YtfioekkegihkoaaPick
import Derived.Test.YtfioekkegihkoaaProg
import Derived.Shelf.Abstract
import Derived.Shelf.RegionOpen
import Derived.WalkKit
set_option linter.unusedVariables false
set_option linter.unusedSimpArgs false
namespace Go.Proofs.Ytfioekkegihkoaa
open Go.RowKit
theorem run_min {ρ : Operand → Value} {o : Oper} (x y : Operand) (m n r : Int) (hr : min m n = r) (w : World) (h : o.op = .call { callee := .builtin .min, args := #[x, y], argTypes := #[3, 3] }) (hx : ρ x = .int .i64 m) (hy : ρ y = .int .i64 n) : (execOp ρ o).run Try.prog w = .ok (.value (.int .i64 r)) w := by
  subst hr
  unfold execOp
  rw [h]
  simp [go_sem, hx, hy]
  rw [Int.min_def]
  split <;> split <;> omega
theorem run_slice_hi {ρ : Operand → Value} {o : Oper} (x y : Operand) (p : Option Addr) (n cap N : Nat) (w : World) (h : o.op = .slice 23 x none (some y) none) (hx : ρ x = .slice p n cap) (hy : ρ y = .int .i64 (N : Nat)) (hN : N ≤ cap) : (execOp ρ o).run Try.prog w = .ok (.value (.slice p N cap)) w := by
  unfold execOp
  rw [h]
  have h0 : (0 : Int) ≤ (N : Int) := by omega
  have h1 : (N : Int) ≤ (cap : Int) := by omega
  simp [go_sem, hx, hy, h0, h1]
end Go.Proofs.Ytfioekkegihkoaa
