/- cmp.Less, insertionSortOrdered, reverseRangeOrdered at uint16. -/
import Derived.Test.YthcjnijggebcaaaSortR
import Derived.Test.YthcjnijggebcaaaProg
namespace Go.Proofs.Ythcjnijggebcaaa
open Go.RowKit
set_option linter.unusedVariables false
set_option linter.unusedSimpArgs false

theorem less16 (x y : Int) (w : World) : Calls Try.prog 97 #[.int .u16 x, .int .u16 y] w fun e w' => e = .returned (.bool (Sort.ltInt x y)) ∧ w' = w := by
  have hnan : ∀ (z : Int) (w : World), Calls Try.prog 118 #[.int .u16 z] w fun e w' => e = .returned (.bool false) ∧ w' = w := by
    intro z w
    go_enter Try.func118, Try.ntmps118
    go_wp2
    go_ret
    exact ⟨by simp, rfl⟩
  go_enter Try.func97, Try.ntmps97
  go_wp2_with (go_at_call 118; refine (hnan _ _).mono ?_; rintro e w' ⟨rfl, rfl⟩)
  go_ret
  exact ⟨rfl, rfl⟩

set_option maxHeartbeats 1000000 in
theorem ins16 {b o n sz cap : Nat} {w0 w : World} {d : Array Int} (a c : Nat) (h : SR .u16 24 sz b o n w0 w d) (hac : a ≤ c) (hc : c ≤ n) (hn : n ≤ 1000000000) :
    Calls Try.prog 108 #[.slice (some ⟨b, o, none⟩) n cap, .int .i64 a, .int .i64 c] w fun e w' => e = .returned (.tuple #[]) ∧ SR .u16 24 sz b o n w0 w' (Sort.insertionSort Sort.ltInt d a c) := by
  go_enter Try.func108, Try.ntmps108
  go_wp2
  go_loopw [6] (fun vi wr => ∃ (i : Nat) (dk : Array Int), vi = .int .i64 i ∧ a < i ∧ i ≤ c + 1 ∧ SR .u16 24 sz b o n w0 wr dk ∧ Sort.insOuter Sort.ltInt a c i dk = Sort.insOuter Sort.ltInt a c (a + 1) d) (fun vi _ => c + 1 - (intOf vi).toNat)
  case atStart => exact ⟨a + 1, d, by go_num, by omega, by omega, h, rfl⟩
  case round =>
    obtain ⟨i, dk, rfl, hai, hic, hS, hO⟩ := hrel
    have HO := Hidden.mk hO
    have HS := Hidden.mk hS
    clear hO hS h
    by_cases hlt : i < c
    · go_wp2_with fail
      go_loopw [7] (fun vj wr => ∃ (j : Nat) (dj : Array Int), vj = .int .i64 j ∧ a ≤ j ∧ j ≤ i ∧ SR .u16 24 sz b o n w0 wr dj ∧ Sort.insInner Sort.ltInt a j dj = Sort.insInner Sort.ltInt a i dk) (fun vj _ => (intOf vj).toNat)
      case atStart => exact ⟨i, dk, rfl, by omega, Nat.le_refl _, HS.out, rfl⟩
      case round =>
        obtain ⟨j, dj, rfl, haj, hji, hS, hI⟩ := hrel
        obtain ⟨G, hG, hcw, hfw⟩ := hS.fam
        have HG := Hidden.mk hG
        have HI := Hidden.mk hI
        have HS2 := Hidden.mk hS
        clear hG hI hS
        have out : (j ≤ a ∨ Sort.ltInt (G j) (G (j - 1)) = false) → ∀ q, ∃ i' dk', Value.int .i64 ((i : Int) + 1) = .int .i64 (i' : Nat) ∧ a < i' ∧ i' ≤ c + 1 ∧ SR .u16 24 sz b o n w0 (wr.drewN q) dk' ∧ Sort.insOuter Sort.ltInt a c i' dk' = Sort.insOuter Sort.ltInt a c (a + 1) d := fun hs q => by
          refine ⟨i + 1, dj, by go_num, by omega, by omega, HS2.out.drewN q, ?_⟩
          rw [← HO.out, Sort.insOuter.eq_def Sort.ltInt a c i dk, if_pos hlt, ← HI.out]
          rw [ins_stop (by rw [← HG.out _ _ rfl, ← HG.out _ _ rfl]; exact hs)]
        have OUT := Hidden.mk out
        clear out
        by_cases hja : a < j
        · go_wp2_with fail
          go_quiet (first | (go_at_call 97; refine Calls.quiet_of_same (less16 _ _ _)))
          go_wp2_with fail
          · have hl : Sort.ltInt (G j) (G (j - 1)) = true := by assumption
            go_region
            all_goals go_wp2_with fail
            go_roundw
            case rel =>
              refine ⟨j - 1, Sort.swp dj j (j - 1), by congr 1; omega, by omega, by omega, ?_, ?_⟩
              · exact (HS2.out.drewN _).swp' (by omega) (by omega) (HG.out _ _ rfl) (HG.out _ _ rfl)
              · rw [← HI.out, ins_go hja (by rw [← HG.out _ _ rfl, ← HG.out _ _ rfl]; exact hl)]
            case measure => simp [intOf]; omega
          · have hl : Sort.ltInt (G j) (G (j - 1)) = false := by assumption
            go_roundw
            case rel => exact OUT.out (Or.inr hl) _
            case measure => simp [intOf]; omega
        · go_wp2_with fail
          go_quiet (first | (go_at_call 97; refine Calls.quiet_of_same (less16 _ _ _)))
          go_wp2_with fail
          go_roundw
          case rel => exact OUT.out (Or.inl (by omega)) _
          case measure => simp [intOf]; omega
    · go_wp2_with fail
      go_end0
      refine ⟨rfl, ?_⟩
      have e : Sort.insertionSort Sort.ltInt d a c = dk := by unfold Sort.insertionSort; rw [← HO.out, Sort.insOuter.eq_def, if_neg hlt]
      rw [e]; exact HS.out
end Go.Proofs.Ythcjnijggebcaaa
