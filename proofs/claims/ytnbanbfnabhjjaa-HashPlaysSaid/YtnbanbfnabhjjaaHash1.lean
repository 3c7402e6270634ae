/- The hash table in memory; the place behind, how far, finding a key. -/
import Derived.Test.YtnbanbfnabhjjaaHash0
namespace Go.Proofs.Ytnbanbfnabhjjaa
open Go.RowKit
set_option linter.unusedVariables false
set_option linter.unusedSimpArgs false

theorem and_mask (n : Int) (b N : Nat) (hb : b ≤ 62) (hN : N = 2 ^ b) : bits .and .i64 n ((N : Int) - 1) = n % (N : Int) := by
  have hp : 0 < 2 ^ b := Nat.pow_pos (by omega)
  have hle : 2 ^ b ≤ 2 ^ 62 := Nat.pow_le_pow_right (by omega) hb
  have h1 : (BitVec.ofInt 64 ((N : Int) - 1)).toNat = 2 ^ b - 1 := by
    rw [BitVec.toNat_ofInt]; subst hN
    have : ((2 ^ b : Nat) : Int) - 1 = ((2 ^ b - 1 : Nat) : Int) := by omega
    rw [this]; omega
  have key : (BitVec.ofInt 64 n &&& BitVec.ofInt 64 ((N : Int) - 1)).toNat = (n % ((2 ^ 64 : Nat) : Int)).toNat % 2 ^ b := by
    rw [BitVec.toNat_and, BitVec.toNat_ofInt, h1, Nat.and_two_pow_sub_one_eq_mod]
  show IntKind.i64.wrap ((BitVec.ofInt 64 n &&& BitVec.ofInt 64 ((N : Int) - 1)).toNat : Nat) = n % (N : Int)
  rw [key, IntKind.wrap_i64, hN]
  have hd : ((2 ^ b : Nat) : Int) ∣ ((2 ^ 64 : Nat) : Int) := by
    refine Int.natCast_dvd_natCast.2 (Nat.pow_dvd_pow 2 (by omega))
  have e1 : n % ((2 ^ 64 : Nat) : Int) % ((2 ^ b : Nat) : Int) = n % ((2 ^ b : Nat) : Int) := Int.emod_emod_of_dvd n hd
  have h0 : 0 ≤ n % ((2 ^ 64 : Nat) : Int) := Int.emod_nonneg _ (by decide)
  have e2 : (((n % ((2 ^ 64 : Nat) : Int)).toNat % 2 ^ b : Nat) : Int) = n % ((2 ^ b : Nat) : Int) := by
    rw [Int.natCast_emod, Int.toNat_of_nonneg h0, e1]
  rw [e2]
  have h2 : 0 ≤ n % ((2 ^ b : Nat) : Int) := Int.emod_nonneg _ (by omega)
  have h3 : n % ((2 ^ b : Nat) : Int) < ((2 ^ b : Nat) : Int) := Int.emod_lt_of_pos _ (by omega)
  have h4 : ((2 ^ b : Nat) : Int) ≤ 4611686018427387904 := by
    have : (2 : Nat) ^ 62 = 4611686018427387904 := by decide
    omega
  omega
theorem next_val (i N b : Nat) (hb : b ≤ 62) (hN : N = 2 ^ b) (hi : i < N) : bits .and .i64 ((i : Int) + 1) ((N : Int) - 1) = (nx N i : Nat) := by
  rw [and_mask _ b N hb hN]
  have := nx_spec hi
  rcases this with ⟨h1, h2 | ⟨h2, h3⟩⟩
  · rw [h2, Int.emod_eq_of_lt (by omega) (by omega)]; omega
  · have : (i : Int) + 1 = N := by omega
    rw [this, Int.emod_self, h2]; rfl
theorem far_val (a i N b : Nat) (hb : b ≤ 62) (hN : N = 2 ^ b) (ha : a < N) (hi : i < N) : bits .and .i64 ((i : Int) - a) ((N : Int) - 1) = (far N a i : Nat) := by
  rw [and_mask _ b N hb hN]
  have := far_spec ha hi
  rcases this with ⟨h1, h2 | h2⟩
  · have : (i : Int) - a = far N a i := by omega
    rw [this, Int.emod_eq_of_lt (by omega) (by omega)]
  · have : (i : Int) - a = far N a i + (-1) * (N : Int) := by omega
    rw [this, Int.add_mul_emod_self_right, Int.emod_eq_of_lt (by omega) (by omega)]

set_option maxHeartbeats 400000 in
theorem next_any (tb pb : Nat) (i N b : Nat) (w : World) (hb : b ≤ 40) (hN : N = 2 ^ b) (hi : i < N)
    (h1 : w.cell? ⟨tb, 1, none⟩ = some (.slice (some ⟨pb, 0, none⟩) N N)) :
    Calls Try.prog 84 #[.pointer (some ⟨tb, 0, none⟩), .int .i64 i] w fun e w' => e = .returned (.int .i64 (nx N i)) ∧ w = w' := by
  have hv : Hidden (bits .and .i64 ((i : Int) + 1) ((N : Int) - 1) = (nx N i : Nat)) := ⟨next_val i N b (by omega) hN hi⟩
  have hN2 : N ≤ 1099511627776 := by rw [hN]; exact Nat.le_trans (Nat.pow_le_pow_right (by omega) hb) (by decide)
  clear hN
  go_enter Try.func84, Try.ntmps84
  go_wp2
  go_ret
  exact ⟨congrArg (fun q => Ending.returned (Value.int .i64 q)) hv.out, rfl⟩
set_option maxHeartbeats 400000 in
theorem far_any (tb pb : Nat) (a i N b : Nat) (w : World) (hb : b ≤ 40) (hN : N = 2 ^ b) (ha : a < N) (hi : i < N)
    (h1 : w.cell? ⟨tb, 1, none⟩ = some (.slice (some ⟨pb, 0, none⟩) N N)) :
    Calls Try.prog 85 #[.pointer (some ⟨tb, 0, none⟩), .int .i64 a, .int .i64 i] w fun e w' => e = .returned (.int .i64 (far N a i)) ∧ w = w' := by
  have hv : Hidden (bits .and .i64 ((i : Int) - a) ((N : Int) - 1) = (far N a i : Nat)) := ⟨far_val a i N b (by omega) hN ha hi⟩
  have hN2 : N ≤ 1099511627776 := by rw [hN]; exact Nat.le_trans (Nat.pow_le_pow_right (by omega) hb) (by decide)
  clear hN
  go_enter Try.func85, Try.ntmps85
  go_wp2
  go_ret
  exact ⟨congrArg (fun q => Ending.returned (Value.int .i64 q)) hv.out, rfl⟩
end Go.Proofs.Ytnbanbfnabhjjaa
