/- breakPatternsOrdered at uint16: a permutation. -/
import Derived.Test.YthcjnijggebcaaaSo16A
import Derived.Test.YthcjnijggebcaaaSoNext
namespace Go.Proofs.Ythcjnijggebcaaa
open Go.RowKit
set_option linter.unusedVariables false
set_option linter.unusedSimpArgs false

theorem and_le16 {r : Int} {M : Nat} (h0 : 0 ≤ r) (h1 : r ≤ 18446744073709551615) (hM : 1 ≤ M) (hM2 : M ≤ 2000000000) : ∃ O : Nat, bits .and .u64 r ((M : Int) - 1) = O ∧ O < M := by
  obtain ⟨R, rfl⟩ := Int.eq_ofNat_of_zero_le h0
  refine ⟨R &&& (M - 1), ?_, ?_⟩
  · rw [show ((M : Int) - 1) = ((M - 1 : Nat) : Int) by omega]
    exact bits_and_u64_nat _ _ (by omega) (by omega)
  · have : R &&& (M - 1) ≤ M - 1 := Nat.and_le_right
    omega
set_option maxHeartbeats 2000000 in
set_option maxRecDepth 100000 in
theorem brk16 {b o n sz cap : Nat} {w0 w : World} {d : Array Int} (a c : Nat) (h : SR .u16 24 sz b o n w0 w d) (hac : a + 8 ≤ c) (hc : c ≤ n) (hn : n ≤ 1000000000) :
    Calls Try.prog 110 #[.slice (some ⟨b, o, none⟩) n cap, .int .i64 a, .int .i64 c] w fun e w' => e = .returned (.tuple #[]) ∧ ∃ d', Sort.PermIn a c d d' ∧ SR .u16 24 sz b o n w0 w' d' := by
  obtain ⟨L, rfl⟩ : ∃ L, c = a + L := ⟨c - a, by omega⟩
  have hP : SQ .u16 24 sz b o n w0 (w.alloc (.cells #[.int .u64 L] 132)) d w.heap.size (.int .u64 L) := by
    have hB := Blk.new w 132 #[.int .u64 L]
    exact ⟨h.alloc _, ⟨_, hB⟩, by have := h.lt; omega, h.mod.size⟩
  have HP := Hidden.mk hP
  have hpw := so_pow L (by omega) (by omega)
  have HPW := Hidden.mk hpw
  clear hP h hpw
  have hL : ((a + L : Nat) : Int) - (a : Int) = L := by omega
  have hLz : (a : Int) + (L : Int) - (a : Int) = L := by omega
  have h8 : (8 : Int) ≤ (L : Int) := by omega
  go_enter Try.func110, Try.ntmps110
  go_wp2_with fail
  refine (HPW.out _).mono ?_
  rintro e w1 ⟨⟨M, rfl, hM1, hM2⟩, rfl⟩
  go_wp2_with fail
  go_loopw [9] (fun vi wr => ∃ (t : Nat) (X : Int) (dk : Array Int), vi = .int .i64 ((a + L / 4 * 2 - 1 + t : Nat) : Int) ∧ t ≤ 3 ∧ 0 ≤ X ∧ Sort.PermIn a (a + L) d dk ∧ SQ .u16 24 sz b o n w0 wr dk w.heap.size (.int .u64 X)) (fun vi _ => a + L / 4 * 2 + 3 - (intOf vi).toNat)
  case atStart => exact ⟨0, L, d, by congr 1; omega, by omega, by omega, Sort.permIn_refl _ _ _, HP.out⟩
  case round =>
    obtain ⟨t, X, dk, rfl, ht, hX, hp, hQ⟩ := hrel
    obtain ⟨G, hG, hcw, hfw⟩ := hQ.row.fam
    have hsb := hQ.ne
    have hsl := hQ.lt
    have hcs := hQ.cell
    have hfs := hQ.free
    have HG := Hidden.mk hG
    have HPM := Hidden.mk hp
    have HQ := Hidden.mk hQ
    clear hG hp hQ
    by_cases ht3 : t < 3
    · have hnx := so_next w.heap.size X wr hX hcs hfs
      have HN := Hidden.mk hnx
      clear hnx
      go_wp2_with fail
      refine HN.out.mono ?_
      rintro e w2 ⟨r, rfl, hr0, hr1, rfl⟩
      obtain ⟨O, hO, hOM⟩ := and_le16 hr0 hr1 hM1 (by omega)
      have HQ2 := Hidden.mk ((HQ.out.put (.int .u64 r)).drewN 3)
      obtain ⟨W2, hW2⟩ : ∃ W2, (wr.setCell ⟨w.heap.size, 0, none⟩ (.int .u64 r)).drewN 3 = W2 := ⟨_, rfl⟩
      rw [hW2] at HQ2 ⊢
      obtain ⟨G2, hG2, hcw2, hfw2⟩ := HQ2.out.row.fam
      have HG2 := Hidden.mk hG2
      clear hG2 hW2 hcw hfw hcs hfs hsb hsl
      go_wp2_with fail
      · have hLO : L ≤ O := by omega
        have hw : IntKind.i64.wrap ((O : Int) - (L : Int)) = (O : Int) - (L : Int) := IntWalk.i64_in _ (by omega)
        by_cases hEq : a + L / 4 * 2 - 1 + t = a + (O - L)
        all_goals
          go_region
          all_goals go_wp2_with fail
          go_roundw
          case rel =>
            refine ⟨t + 1, r, Sort.swp dk (a + L / 4 * 2 - 1 + t) (a + (O - L)), (by first | rfl | (congr 1; omega)), by omega, hr0, Sort.permIn_trans _ _ _ _ _ HPM.out (Sort.swp_permIn _ _ _ _ _ (by omega) (by omega) (by omega) (by omega) (by rw [HQ2.out.row.size]; exact hc)), ?_⟩
            exact HQ2.out.drew.swpa (by omega) (by omega) (by omega) (by omega) (HG2.out _ _ (by omega)) (HG2.out _ _ (by omega))
          case measure => simp [intOf]; omega
      · have hLO : ¬ L ≤ O := by omega
        by_cases hEq : a + L / 4 * 2 - 1 + t = a + O
        all_goals
          go_region
          all_goals go_wp2_with fail
          go_roundw
          case rel =>
            refine ⟨t + 1, r, Sort.swp dk (a + L / 4 * 2 - 1 + t) (a + O), (by first | rfl | (congr 1; omega)), by omega, hr0, Sort.permIn_trans _ _ _ _ _ HPM.out (Sort.swp_permIn _ _ _ _ _ (by omega) (by omega) (by omega) (by omega) (by rw [HQ2.out.row.size]; exact hc)), ?_⟩
            exact HQ2.out.drew.swpa (by omega) (by omega) (by omega) (by omega) (HG2.out _ _ (by omega)) (HG2.out _ _ (by omega))
          case measure => simp [intOf]; omega
    · go_wp2_with fail
      go_end0
      exact ⟨rfl, dk, HPM.out, HQ.out.row⟩
end Go.Proofs.Ythcjnijggebcaaa
