/- partialInsertionSortOrdered at uint16. -/
import Derived.Test.YthcjnijggebcaaaSo16D
namespace Go.Proofs.Ythcjnijggebcaaa
open Go.RowKit
set_option linter.unusedVariables false
set_option linter.unusedSimpArgs false

set_option maxHeartbeats 3200000 in
set_option maxRecDepth 100000 in
theorem pins16 {b o n sz cap : Nat} {w0 w : World} {d : Array Int} (a c : Nat) (h : SR .u16 24 sz b o n w0 w d) (hac : a < c) (hc : c ≤ n) (hn : n ≤ 1000000000) :
    Calls Try.prog 113 #[.slice (some ⟨b, o, none⟩) n cap, .int .i64 a, .int .i64 c] w fun e w' => e = .returned (.bool (Sort.partialInsertionSort Sort.ltInt d a c).2) ∧ SR .u16 24 sz b o n w0 w' (Sort.partialInsertionSort Sort.ltInt d a c).1 := by
  unfold Sort.partialInsertionSort
  go_enter Try.func113, Try.ntmps113
  go_wp2
  go_loopw [7, 8] (fun vi vs wr => ∃ (i s : Nat) (dk : Array Int), vi = .int .i64 i ∧ vs = .int .i64 ((5 - s : Nat) : Int) ∧ s ≤ 5 ∧ a < i ∧ i ≤ c ∧ SR .u16 24 sz b o n w0 wr dk ∧ Sort.partialIns Sort.ltInt a c s i dk = Sort.partialIns Sort.ltInt a c 5 (a + 1) d) (fun _ vs _ => 5 - (intOf vs).toNat)
  case atStart => exact ⟨a + 1, 5, d, by go_num, rfl, by omega, by omega, by omega, h, rfl⟩
  case round =>
    obtain ⟨i0, s, dk, rfl, rfl, hs5, hi1, hi2, hS, hE⟩ := hrel
    have HE := Hidden.mk hE
    have HS := Hidden.mk hS
    clear hE hS h
    cases s with
    | zero =>
      go_wp2_with fail
      go_ret
      exact ⟨by rw [← HE.out]; rfl, by rw [← HE.out]; exact HS.out⟩
    | succ s =>
      have hsz : ((5 - (s + 1) : Nat) : Int) < 5 := by omega
      go_upto_block 2 with fail
      go_cut [7] from 17 to 34 (fun vi wx => ∃ i : Nat, vi = .int .i64 i ∧ i0 ≤ i ∧ i ≤ c ∧ SR .u16 24 sz b o n w0 wx dk ∧ Sort.scanSorted Sort.ltInt dk c i0 = i)
      case first =>
        go_wp2_with fail
        go_loopw [7] (fun vi wr => ∃ i : Nat, vi = .int .i64 i ∧ i0 ≤ i ∧ i ≤ c ∧ SR .u16 24 sz b o n w0 wr dk ∧ Sort.scanSorted Sort.ltInt dk c i = Sort.scanSorted Sort.ltInt dk c i0) (fun vi _ => c + 1 - (intOf vi).toNat)
        case atStart => exact ⟨i0, rfl, by omega, by omega, HS.out, rfl⟩
        case round =>
          obtain ⟨i, rfl, h1, h2, hS, hE⟩ := hrel
          obtain ⟨G, hG, hcw, hfw⟩ := hS.fam
          have HG := Hidden.mk hG
          have HE := Hidden.mk hE
          have HS := Hidden.mk hS
          clear hG hE hS
          by_cases hij : i < c
          · have hijz : (i : Int) < (c : Int) := by omega
            go_wp2_with fail
            go_quiet (first | (go_at_call 97; refine Calls.quiet_of_same (less16 _ _ _)))
            go_wp2_with fail
            · have hl : Sort.ltInt (G i) (G (i - 1)) = false := by
                have : (!Sort.ltInt (G i) (G (i - 1))) = true := by assumption
                simpa using this
              go_roundw
              case rel => exact ⟨i + 1, by go_num, by omega, by omega, HS.out.drewN _, by rw [← HE.out, sso_go hij (by rw [← HG.out _ _ rfl, ← HG.out _ _ rfl]; exact hl)]⟩
              case measure => simp [intOf]; omega
            · have hl : Sort.ltInt (G i) (G (i - 1)) = true := by
                have : (!Sort.ltInt (G i) (G (i - 1))) = false := by assumption
                simpa using this
              go_meet
              exact ⟨i, rfl, h1, h2, HS.out.drewN _, by rw [← HE.out, sso_stop (fun _ => by rw [← HG.out _ _ rfl, ← HG.out _ _ rfl]; exact hl)]⟩
          · have hijz : decide ((i : Int) < (c : Int)) = false := decide_eq_false (by omega)
            go_wp2_with fail
            go_quiet (first | (go_at_call 97; refine Calls.quiet_of_same (less16 _ _ _)))
            go_wp2_with fail
            go_meet
            exact ⟨i, rfl, h1, h2, HS.out.drewN _, by rw [← HE.out, sso_stop (fun h => absurd h hij)]⟩
      case rest =>
        obtain ⟨i, rfl, hi3, hi4, hS, hI⟩ := hcut
        have HS := Hidden.mk hS
        have HI := Hidden.mk hI
        clear hS hI
        by_cases hic : i = c
        · have hicz : ((i : Int) == (c : Int)) = true := by simp [hic]
          have e := Hidden.mk (pi_done (a := a) (s := s) HI.out hic)
          clear hic
          go_wp2_with fail
          go_ret
          exact ⟨by rw [← HE.out, e.out]; rfl, by rw [← HE.out, e.out]; exact HS.out⟩
        · have hicz : ((i : Int) == (c : Int)) = false := by simp; omega
          by_cases h50 : c - a < 50
          · have e := Hidden.mk (pi_short (a := a) (s := s) HI.out hic h50)
            go_wp2_with fail
            go_ret
            exact ⟨by rw [← HE.out, e.out]; rfl, by rw [← HE.out, e.out]; exact HS.out⟩
          · obtain ⟨G, hG, hcw, hfw⟩ := HS.out.fam
            have HG := Hidden.mk hG
            clear hG
            go_upto_region 11 with fail
            go_cut [] from 42 to 57 (fun wx => SR .u16 24 sz b o n w0 wx (Sort.swp dk i (i - 1)))
            case first =>
              go_region
              go_wp2_with fail
              go_meet
              exact HS.out.drew.swpa (by omega) (by omega) (by omega) (by omega) (HG.out _ _ (by omega)) (HG.out _ _ (by omega))
            case rest =>
            obtain ⟨d1, hd1⟩ : ∃ d1, Sort.swp dk i (i - 1) = d1 := ⟨_, rfl⟩
            rw [hd1] at hcut
            have HS := Hidden.mk hcut
            have HD1 := Hidden.mk hd1
            clear hd1 hcut hcw hfw HG
            go_upto_if 61 with fail
            go_cut [] from 62 to 94 (fun wx => SR .u16 24 sz b o n w0 wx (if i - a ≥ 2 then Sort.shiftDown Sort.ltInt (i - 1) d1 else d1))
            case first =>
              by_cases h2 : i - a ≥ 2
              · go_wp2_with fail
                go_loopw [9] (fun vj wr => ∃ (j : Nat) (dj : Array Int), vj = .int .i64 j ∧ j < i ∧ SR .u16 24 sz b o n w0 wr dj ∧ Sort.shiftDown Sort.ltInt j dj = Sort.shiftDown Sort.ltInt (i - 1) d1) (fun vj _ => (intOf vj).toNat)
                case atStart => exact ⟨i - 1, d1, (by first | go_num | (congr 1; omega)), by omega, HS.out, rfl⟩
                case round =>
                  obtain ⟨j, dj, rfl, hj1, hS, hE⟩ := hrel
                  obtain ⟨G, hG, hcw, hfw⟩ := hS.fam
                  have HG := Hidden.mk hG
                  have HE := Hidden.mk hE
                  have HS := Hidden.mk hS
                  clear hG hE hS
                  by_cases hj : 1 ≤ j
                  · go_wp2_with fail
                    go_quiet (first | (go_at_call 97; refine Calls.quiet_of_same (less16 _ _ _)))
                    go_wp2_with fail
                    · have hl : Sort.ltInt (G j) (G (j - 1)) = false := by
                        have : (!Sort.ltInt (G j) (G (j - 1))) = true := by assumption
                        simpa using this
                      have e := (shd_stop (fun _ => by rw [← HG.out _ _ rfl, ← HG.out _ _ rfl]; exact hl)).symm.trans HE.out
                      go_meet
                      rw [if_pos h2, ← e]
                      exact HS.out.drewN _
                    · have hl : Sort.ltInt (G j) (G (j - 1)) = true := by
                        have : (!Sort.ltInt (G j) (G (j - 1))) = false := by assumption
                        simpa using this
                      go_region
                      go_wp2_with fail
                      go_roundw
                      case rel => exact ⟨j - 1, Sort.swp dj j (j - 1), (by first | go_num | (congr 1; omega)), by omega, (HS.out.drewN _).swpa (by omega) (by omega) (by omega) (by omega) (HG.out _ _ (by omega)) (HG.out _ _ (by omega)), (shd_go (by omega) (by rw [← HG.out _ _ rfl, ← HG.out _ _ rfl]; exact hl)).symm.trans HE.out⟩
                      case measure => simp [intOf]; omega
                  · have e := (shd_stop (fun h => absurd h hj)).symm.trans HE.out
                    have HE2 := Hidden.mk e
                    clear e
                    go_wp2_with fail
                    have e := HE2.out
                    go_meet
                    rw [if_pos h2, ← e]
                    exact HS.out
              · go_wp2_with fail
                go_meet
                rw [if_neg h2]
                exact HS.out
            case rest =>
              obtain ⟨d2, hd2⟩ : ∃ d2, (if i - a ≥ 2 then Sort.shiftDown Sort.ltInt (i - 1) d1 else d1) = d2 := ⟨_, rfl⟩
              rw [hd2] at hcut
              have HD2 := Hidden.mk hd2
              have HS := Hidden.mk hcut
              clear hd2 hcut
              have FIN : Hidden (∀ (z : Int) (hz : z = ((5 - s : Nat) : Int)) (d3 : Array Int) (W : World), SR .u16 24 sz b o n w0 W d3 → (if c - i ≥ 2 then Sort.shiftUp Sort.ltInt c (i + 1) d2 else d2) = d3 →
                  ∃ (i' s' : Nat) (dk' : Array Int), Value.int .i64 (i : Int) = .int .i64 i' ∧ Value.int .i64 z = .int .i64 ((5 - s' : Nat) : Int) ∧ s' ≤ 5 ∧ a < i' ∧ i' ≤ c ∧ SR .u16 24 sz b o n w0 W dk' ∧ Sort.partialIns Sort.ltInt a c s' i' dk' = Sort.partialIns Sort.ltInt a c 5 (a + 1) d) := ⟨fun z hz d3 W hS h3 =>
                ⟨i, s, d3, rfl, by rw [hz], by omega, by omega, by omega, hS, by rw [← HE.out]; exact (pi_go (a := a) (s := s) HI.out hic h50 (by rw [HD1.out]; exact HD2.out) h3).symm⟩⟩
              by_cases h2 : c - i ≥ 2
              · go_wp2_with fail
                go_loopw [10] (fun vj wr => ∃ (j : Nat) (dj : Array Int), vj = .int .i64 j ∧ i < j ∧ j ≤ c ∧ SR .u16 24 sz b o n w0 wr dj ∧ Sort.shiftUp Sort.ltInt c j dj = Sort.shiftUp Sort.ltInt c (i + 1) d2) (fun vj _ => c + 1 - (intOf vj).toNat)
                case atStart => exact ⟨i + 1, d2, (by first | go_num | (congr 1; omega)), by omega, by omega, HS.out, rfl⟩
                case round =>
                  obtain ⟨j, dj, rfl, hj1, hj2, hS, hE⟩ := hrel
                  obtain ⟨G, hG, hcw, hfw⟩ := hS.fam
                  have HG := Hidden.mk hG
                  have HE := Hidden.mk hE
                  have HS := Hidden.mk hS
                  clear hG hE hS
                  by_cases hj : j < c
                  · go_wp2_with fail
                    go_quiet (first | (go_at_call 97; refine Calls.quiet_of_same (less16 _ _ _)))
                    go_wp2_with fail
                    · have hl : Sort.ltInt (G j) (G (j - 1)) = false := by
                        have : (!Sort.ltInt (G j) (G (j - 1))) = true := by assumption
                        simpa using this
                      have e := (shu_stop (fun _ => by rw [← HG.out _ _ rfl, ← HG.out _ _ rfl]; exact hl)).symm.trans HE.out
                      have HEE := Hidden.mk e
                      clear e
                      go_wp2_with fail
                      go_roundw
                      case rel => exact FIN.out _ (by omega) _ _ (HS.out.drewN _) (by rw [if_pos h2]; exact HEE.out.symm)
                      case measure => simp [intOf]; omega
                    · have hl : Sort.ltInt (G j) (G (j - 1)) = true := by
                        have : (!Sort.ltInt (G j) (G (j - 1))) = false := by assumption
                        simpa using this
                      go_region
                      go_wp2_with fail
                      go_roundw
                      case rel => exact ⟨j + 1, Sort.swp dj j (j - 1), (by first | go_num | (congr 1; omega)), by omega, by omega, (HS.out.drewN _).swpa (by omega) (by omega) (by omega) (by omega) (HG.out _ _ (by omega)) (HG.out _ _ (by omega)), (shu_go (by omega) (by rw [← HG.out _ _ rfl, ← HG.out _ _ rfl]; exact hl)).symm.trans HE.out⟩
                      case measure => simp [intOf]; omega
                  · have e := (shu_stop (fun h => absurd h hj)).symm.trans HE.out
                    have HE2 := Hidden.mk e
                    clear e
                    go_wp2_with fail
                    have e := HE2.out
                    have HEE := Hidden.mk e
                    clear e
                    go_wp2_with fail
                    go_roundw
                    case rel => exact FIN.out _ (by omega) _ _ (HS.out) (by rw [if_pos h2]; exact HEE.out.symm)
                    case measure => simp [intOf]; omega
              · go_wp2_with fail
                go_roundw
                case rel => exact FIN.out _ (by omega) _ _ HS.out (by rw [if_neg h2])
                case measure => simp [intOf]; omega
end Go.Proofs.Ythcjnijggebcaaa
