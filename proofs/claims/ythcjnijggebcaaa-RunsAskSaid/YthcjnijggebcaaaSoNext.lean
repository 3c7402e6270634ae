/- slices.xorshift and nextPowerOfTwo: what the sort's shuffling needs of them. -/
import Derived.Test.YthcjnijggebcaaaSortR
import Derived.Test.YthcjnijggebcaaaLen
import Derived.Laws.Closers25b
import Derived.Laws.Bits64b
namespace Go.Proofs.Ythcjnijggebcaaa
open Go.RowKit
set_option linter.unusedVariables false
set_option linter.unusedSimpArgs false
theorem aux_bound : ∀ (f x : Nat), 0 < x → x < 2 ^ f → 2 ^ (Lib.bitLenAux f x) ≤ 2 * x ∧ Lib.bitLenAux f x ≤ f := by
  intro f
  induction f with
  | zero => intro x h0 h1; omega
  | succ f ih =>
    intro x h0 h1
    unfold Lib.bitLenAux
    rw [if_neg (by omega)]
    rcases Nat.eq_zero_or_pos (x / 2) with h | h
    · have e : Lib.bitLenAux f (x / 2) = 0 := by rw [h]; cases f <;> simp [Lib.bitLenAux]
      rw [e]; simp; omega
    · have h2 : x / 2 < 2 ^ f := by rw [Nat.pow_succ] at h1; omega
      obtain ⟨h3, h4⟩ := ih (x / 2) h h2
      generalize hg : Lib.bitLenAux f (x / 2) = g at h3 h4
      first
        | (rw [Nat.pow_succ]; omega)
        | (rw [Nat.add_comm 1, Nat.pow_succ]; omega)
theorem len_bound {L : Nat} (h0 : 0 < L) (h1 : L ≤ 1000000000) : 2 ^ (Lib.bitLen L) ≤ 2 * L ∧ Lib.bitLen L ≤ 62 := by
  have h := aux_bound 64 L h0 (by omega)
  have e : Lib.bitLen L = Lib.bitLenAux 64 L := rfl
  rw [← e] at h
  refine ⟨h.1, ?_⟩
  rcases Nat.lt_or_ge 62 (Lib.bitLen L) with h2 | h2
  · have h3 : (2 : Nat) ^ 63 ≤ 2 ^ (Lib.bitLen L) := Nat.pow_le_pow_right (by decide) h2
    have := h.1
    omega
  · exact h2
theorem wrap_two (k : Nat) (hk : k ≤ 62) : IntKind.u64.wrap ((2 : Int) ^ k) = ((2 ^ k : Nat) : Int) := by
  have h : (2 : Nat) ^ k ≤ 2 ^ 62 := Nat.pow_le_pow_right (by decide) hk
  rw [IntKind.wrap_u64, show ((2 : Int) ^ k) = ((2 ^ k : Nat) : Int) by push_cast; rfl]
  generalize (2 : Nat) ^ k = p at h
  omega
set_option maxHeartbeats 400000 in
theorem so_pow (L : Nat) (h0 : 0 < L) (h1 : L ≤ 1000000000) (w : World) :
    Calls Try.prog 129 #[.int .i64 L] w fun e w' => (∃ M : Nat, e = .returned (.int .u64 M) ∧ 1 ≤ M ∧ M ≤ 2 * L) ∧ w' = w := by
  obtain ⟨hb1, hb2⟩ := len_bound h0 h1
  have hl := fun w => bits_Len (L : Int) w (by omega) (by omega)
  simp only [Int.toNat_natCast] at hl
  generalize Lib.bitLen L = k at hl hb1 hb2
  have hp := wrap_two k hb2
  have hpos : 0 < 2 ^ k := Nat.pow_pos (by decide)
  have H := Hidden.mk (And.intro hb1 hpos)
  have HL := Hidden.mk hl
  clear hb1 hpos hl
  generalize 2 ^ k = M at hp H
  go_enter Try.func129, Try.ntmps129
  go_wp2_with fail
  refine (HL.out _).mono ?_
  rintro e w' ⟨rfl, rfl⟩
  go_wp2_with fail
  go_ret
  exact ⟨⟨M, rfl, H.out.2, H.out.1⟩, rfl⟩
set_option maxHeartbeats 1000000 in
theorem so_next (s : Nat) (X : Int) (w : World) (hX : 0 ≤ X) (hc : w.cell? ⟨s, 0, none⟩ = some (.int .u64 X)) (hf : w.frozen? ⟨s, 0, none⟩ = false) :
    Calls Try.prog 130 #[.pointer (some ⟨s, 0, none⟩)] w fun e w' => ∃ r : Int, e = .returned (.int .u64 r) ∧ 0 ≤ r ∧ r ≤ 18446744073709551615 ∧ w' = (w.setCell ⟨s, 0, none⟩ (.int .u64 r)).drewN 3 := by
  obtain ⟨A, e1⟩ : ∃ A, bits .xor .u64 X (IntKind.u64.wrap (X * 8192)) = A := ⟨_, rfl⟩
  have lA : 0 ≤ A := by rw [← e1]; exact bits_lo_u64 _ _ _
  obtain ⟨B, e2⟩ : ∃ B, bits .xor .u64 A (A / 128) = B := ⟨_, rfl⟩
  obtain ⟨C, e3⟩ : ∃ C, bits .xor .u64 B (IntKind.u64.wrap (B * 131072)) = C := ⟨_, rfl⟩
  have HC : Hidden (0 ≤ C ∧ C ≤ 18446744073709551615) := ⟨by rw [← e3]; exact ⟨bits_lo_u64 _ _ _, bits_hi_u64 _ _ _⟩⟩
  have hss := fun u v => setCell_twice w s 0 u v
  go_enter Try.func130, Try.ntmps130
  go_wp2
  go_region
  all_goals go_wp2
  all_goals go_region
  all_goals go_wp2
  all_goals go_region
  all_goals go_wp2
  go_ret
  exact ⟨C, rfl, HC.out.1, HC.out.2, rfl⟩
end Go.Proofs.Ythcjnijggebcaaa
