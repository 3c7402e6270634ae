/- partitionOrdered, partitionEqualOrdered at uint16. -/
import Derived.Test.YthcjnijggebcaaaSo16B
namespace Go.Proofs.Ythcjnijggebcaaa
open Go.RowKit
set_option linter.unusedVariables false
set_option linter.unusedSimpArgs false

set_option maxHeartbeats 3200000 in
set_option maxRecDepth 100000 in
theorem part16 {b o n sz cap : Nat} {w0 w : World} {d : Array Int} (a c p : Nat) (h : SR .u16 24 sz b o n w0 w d) (hap : a ≤ p) (hpc : p < c) (hc : c ≤ n) (hn : n ≤ 1000000000) :
    Calls Try.prog 115 #[.slice (some ⟨b, o, none⟩) n cap, .int .i64 a, .int .i64 c, .int .i64 p] w fun e w' => e = .returned (.tuple #[.int .i64 (Sort.partition Sort.ltInt d a c p).1, .bool (Sort.partition Sort.ltInt d a c p).2.1]) ∧ SR .u16 24 sz b o n w0 w' ((Sort.partition Sort.ltInt d a c p).2.2) := by
  obtain ⟨J, rfl⟩ : ∃ J, c = J + 1 := ⟨c - 1, by omega⟩
  obtain ⟨G, hG, hcw, hfw⟩ := h.fam
  have HG := Hidden.mk hG
  have HS := Hidden.mk h
  clear hG h
  go_enter Try.func115, Try.ntmps115
  go_upto_region 1 with fail
  go_cut [] from 10 to 25 (fun wx => SR .u16 24 sz b o n w0 wx (Sort.swp d a p))
  case first =>
    by_cases hEq : a = p
    · subst hEq
      go_region
      go_wp2_with fail
      go_meet
      exact HS.out.drew.swpa (by omega) (by omega) (by omega) (by omega) (HG.out _ _ (by omega)) (HG.out _ _ (by omega))
    · go_region
      go_wp2_with fail
      go_meet
      exact HS.out.drew.swpa (by omega) (by omega) (by omega) (by omega) (HG.out _ _ (by omega)) (HG.out _ _ (by omega))
  case rest =>
    obtain ⟨d1, hd1⟩ : ∃ d1, Sort.swp d a p = d1 := ⟨_, rfl⟩
    rw [hd1] at hcut
    have HD1 := Hidden.mk hd1
    have HS := Hidden.mk hcut
    clear hd1 hcut hcw hfw HG
    go_upto_block 0 with fail
    go_cut [10] from 30 to 45 (fun vi wx => ∃ i : Nat, vi = .int .i64 i ∧ a + 1 ≤ i ∧ i ≤ J + 1 ∧ SR .u16 24 sz b o n w0 wx d1 ∧ Sort.scanUp (fun x => Sort.ltInt x d1[a]!) d1 (J) (a + 1) = i)
    case first =>
      go_wp2_with fail
      go_loopw [10] (fun vi wr => ∃ i : Nat, vi = .int .i64 i ∧ a + 1 ≤ i ∧ i ≤ J + 1 ∧ SR .u16 24 sz b o n w0 wr d1 ∧ Sort.scanUp (fun x => Sort.ltInt x d1[a]!) d1 (J) (i) = Sort.scanUp (fun x => Sort.ltInt x d1[a]!) d1 (J) (a + 1)) (fun vi _ => J + 1 - (intOf vi).toNat)
      case atStart => exact ⟨a + 1, (by first | rfl | go_num | (congr 1; omega)), by omega, by omega, HS.out, rfl⟩
      case round =>
        obtain ⟨i, rfl, h1, h2, hS, hE⟩ := hrel
        obtain ⟨G, hG, hcw, hfw⟩ := hS.fam
        have HG := Hidden.mk hG
        have HE := Hidden.mk hE
        have HS := Hidden.mk hS
        clear hG hE hS
        by_cases hij : i ≤ J
        · have hijz : (i : Int) ≤ ((J : Nat) : Int) := by omega
          go_wp2_with fail
          go_quiet (first | (go_at_call 97; refine Calls.quiet_of_same (less16 _ _ _)))
          go_wp2_with fail
          · have hl : Sort.ltInt (G i) (G a) = true := by assumption
            go_roundw
            case rel => exact ⟨i + 1, (by first | go_num | (congr 1; omega)), by omega, by omega, HS.out.drewN _, by rw [← HE.out, sup_go hij (by simp only [← HG.out _ _ rfl]; exact hl)]⟩
            case measure => simp [intOf]; omega
          · have hl : Sort.ltInt (G i) (G a) = false := by assumption
            go_meet
            exact ⟨i, rfl, h1, h2, HS.out.drewN _, by rw [← HE.out, sup_stop (fun _ => by simp only [← HG.out _ _ rfl]; exact hl)]⟩
        · have hijz : decide ((i : Int) ≤ ((J : Nat) : Int)) = false := decide_eq_false (by omega)
          go_wp2_with fail
          go_quiet (first | (go_at_call 97; refine Calls.quiet_of_same (less16 _ _ _)))
          go_wp2_with fail
          go_meet
          exact ⟨i, rfl, h1, h2, HS.out.drewN _, by rw [← HE.out, sup_stop (fun h => absurd h hij)]⟩
    case rest =>
      obtain ⟨I, rfl, hI1, hI2, hS, hI⟩ := hcut
      have HS := Hidden.mk hS
      have HI := Hidden.mk hI
      clear hS hI
      go_upto_block 2 with fail
      go_cut [11] from 46 to 62 (fun vi wx => ∃ j : Nat, vi = .int .i64 j ∧ I ≤ j + 1 ∧ j ≤ J ∧ SR .u16 24 sz b o n w0 wx d1 ∧ Sort.scanDown (fun x => !Sort.ltInt x d1[a]!) d1 (I) (J) = j)
      case first =>
        go_wp2_with fail
        go_loopw [11] (fun vi wr => ∃ j : Nat, vi = .int .i64 j ∧ I ≤ j + 1 ∧ j ≤ J ∧ SR .u16 24 sz b o n w0 wr d1 ∧ Sort.scanDown (fun x => !Sort.ltInt x d1[a]!) d1 (I) (j) = Sort.scanDown (fun x => !Sort.ltInt x d1[a]!) d1 (I) (J)) (fun vi _ => (intOf vi).toNat)
        case atStart => exact ⟨J, (by first | rfl | go_num | (congr 1; omega)), by omega, by omega, HS.out, rfl⟩
        case round =>
          obtain ⟨j, rfl, h1, h2, hS, hE⟩ := hrel
          obtain ⟨G, hG, hcw, hfw⟩ := hS.fam
          have HG := Hidden.mk hG
          have HE := Hidden.mk hE
          have HS := Hidden.mk hS
          clear hG hE hS
          by_cases hij : I ≤ j
          · have hijz : ((I : Nat) : Int) ≤ (j : Int) := by omega
            go_wp2_with fail
            go_quiet (first | (go_at_call 97; refine Calls.quiet_of_same (less16 _ _ _)))
            go_wp2_with fail
            · have hl : (!Sort.ltInt (G j) (G a)) = true := by assumption
              go_roundw
              case rel => exact ⟨j - 1, (by first | go_num | (congr 1; omega)), by omega, by omega, HS.out.drewN _, by rw [← HE.out, sdn_go (by omega) hij (by simp only [← HG.out _ _ rfl]; exact hl)]⟩
              case measure => simp [intOf]; omega
            · have hl : (!Sort.ltInt (G j) (G a)) = false := by assumption
              go_meet
              exact ⟨j, rfl, h1, h2, HS.out.drewN _, by rw [← HE.out, sdn_stop (fun _ => by simp only [← HG.out _ _ rfl]; exact hl)]⟩
          · have hijz : decide (((I : Nat) : Int) ≤ (j : Int)) = false := decide_eq_false (by omega)
            go_wp2_with fail
            go_quiet (first | (go_at_call 97; refine Calls.quiet_of_same (less16 _ _ _)))
            go_wp2_with fail
            go_meet
            exact ⟨j, rfl, h1, h2, HS.out.drewN _, by rw [← HE.out, sdn_stop (fun h => absurd h hij)]⟩
      case rest =>
        obtain ⟨K, rfl, hK1, hK2, hS, hK⟩ := hcut
        have HS := Hidden.mk hS
        have HK := Hidden.mk hK
        clear hS hK
        skip
        go_wp2_with fail
        · have hlt : K < I := by assumption
          obtain ⟨G, hG, hcw, hfw⟩ := HS.out.fam
          have HG := Hidden.mk hG
          clear hG
          have e := Hidden.mk (part_one (c := J + 1) HD1.out HI.out HK.out hlt)
          by_cases hEq : K = a
          · have hEqz : (K : Int) = (a : Int) := by omega
            subst hEq
            go_region
            go_wp2_with fail
            go_ret2
            exact ⟨by rw [e.out]; rfl, by rw [e.out]; exact HS.out.drew.swpa (by omega) (by omega) (by omega) (by omega) (HG.out _ _ (by omega)) (HG.out _ _ (by omega))⟩
          · go_region
            go_wp2_with fail
            go_ret2
            exact ⟨by rw [e.out]; rfl, by rw [e.out]; exact HS.out.drew.swpa (by omega) (by omega) (by omega) (by omega) (HG.out _ _ (by omega)) (HG.out _ _ (by omega))⟩
        · have hge : ¬ K < I := by assumption
          obtain ⟨G, hG, hcw, hfw⟩ := HS.out.fam
          have HG := Hidden.mk hG
          clear hG
          have hIK : I < K := scan_lt (fun _ => rfl) HI.out HK.out (by omega) hge
          go_cut [] from 81 to 94 (fun wx => SR .u16 24 sz b o n w0 wx (Sort.swp d1 I K))
          case first =>
            go_region
            go_wp2_with fail
            go_meet
            exact HS.out.drew.swpa (by omega) (by omega) (by omega) (by omega) (HG.out _ _ (by omega)) (HG.out _ _ (by omega))
          case rest =>
            have HS := Hidden.mk hcut
            clear hcut hcw hfw HG
            go_wp2_with fail
            go_loopw [10, 11] (fun vi vj wr => ∃ (x y : Nat) (dk : Array Int), vi = .int .i64 x ∧ vj = .int .i64 y ∧ a < x ∧ x ≤ y + 1 ∧ y ≤ J ∧ SR .u16 24 sz b o n w0 wr dk ∧ Sort.partLoop Sort.ltInt a x y dk = Sort.partLoop Sort.ltInt a (I + 1) (K - 1) (Sort.swp d1 I K)) (fun vi _ _ => J + 2 - (intOf vi).toNat)
            case atStart => exact ⟨I + 1, K - 1, Sort.swp d1 I K, by go_num, by congr 1; omega, by omega, by omega, by omega, HS.out, rfl⟩
            case round =>
              obtain ⟨x, y, dk, rfl, rfl, hx1, hx2, hy2, hS, hE⟩ := hrel
              have HE := Hidden.mk hE
              have HS := Hidden.mk hS
              clear hE hS
              go_upto_block 6 with fail
              go_cut [10] from 99 to 114 (fun vi wx => ∃ i : Nat, vi = .int .i64 i ∧ x ≤ i ∧ i ≤ y + 1 ∧ SR .u16 24 sz b o n w0 wx dk ∧ Sort.scanUp (fun x => Sort.ltInt x dk[a]!) dk (y) (x) = i)
              case first =>
                go_wp2_with fail
                go_loopw [10] (fun vi wr => ∃ i : Nat, vi = .int .i64 i ∧ x ≤ i ∧ i ≤ y + 1 ∧ SR .u16 24 sz b o n w0 wr dk ∧ Sort.scanUp (fun x => Sort.ltInt x dk[a]!) dk (y) (i) = Sort.scanUp (fun x => Sort.ltInt x dk[a]!) dk (y) (x)) (fun vi _ => y + 1 - (intOf vi).toNat)
                case atStart => exact ⟨x, (by first | rfl | go_num | (congr 1; omega)), by omega, by omega, HS.out, rfl⟩
                case round =>
                  obtain ⟨i, rfl, h1, h2, hS, hE⟩ := hrel
                  obtain ⟨G, hG, hcw, hfw⟩ := hS.fam
                  have HG := Hidden.mk hG
                  have HE := Hidden.mk hE
                  have HS := Hidden.mk hS
                  clear hG hE hS
                  by_cases hij : i ≤ y
                  · have hijz : (i : Int) ≤ ((y : Nat) : Int) := by omega
                    go_wp2_with fail
                    go_quiet (first | (go_at_call 97; refine Calls.quiet_of_same (less16 _ _ _)))
                    go_wp2_with fail
                    · have hl : Sort.ltInt (G i) (G a) = true := by assumption
                      go_roundw
                      case rel => exact ⟨i + 1, (by first | go_num | (congr 1; omega)), by omega, by omega, HS.out.drewN _, by rw [← HE.out, sup_go hij (by simp only [← HG.out _ _ rfl]; exact hl)]⟩
                      case measure => simp [intOf]; omega
                    · have hl : Sort.ltInt (G i) (G a) = false := by assumption
                      go_meet
                      exact ⟨i, rfl, h1, h2, HS.out.drewN _, by rw [← HE.out, sup_stop (fun _ => by simp only [← HG.out _ _ rfl]; exact hl)]⟩
                  · have hijz : decide ((i : Int) ≤ ((y : Nat) : Int)) = false := decide_eq_false (by omega)
                    go_wp2_with fail
                    go_quiet (first | (go_at_call 97; refine Calls.quiet_of_same (less16 _ _ _)))
                    go_wp2_with fail
                    go_meet
                    exact ⟨i, rfl, h1, h2, HS.out.drewN _, by rw [← HE.out, sup_stop (fun h => absurd h hij)]⟩
              case rest =>
                obtain ⟨X, rfl, hX1, hX2, hS, hX⟩ := hcut
                have HS := Hidden.mk hS
                have HX := Hidden.mk hX
                clear hS hX
                go_upto_block 8 with fail
                go_cut [11] from 115 to 131 (fun vi wx => ∃ j : Nat, vi = .int .i64 j ∧ X ≤ j + 1 ∧ j ≤ y ∧ SR .u16 24 sz b o n w0 wx dk ∧ Sort.scanDown (fun x => !Sort.ltInt x dk[a]!) dk (X) (y) = j)
                case first =>
                  go_wp2_with fail
                  go_loopw [11] (fun vi wr => ∃ j : Nat, vi = .int .i64 j ∧ X ≤ j + 1 ∧ j ≤ y ∧ SR .u16 24 sz b o n w0 wr dk ∧ Sort.scanDown (fun x => !Sort.ltInt x dk[a]!) dk (X) (j) = Sort.scanDown (fun x => !Sort.ltInt x dk[a]!) dk (X) (y)) (fun vi _ => (intOf vi).toNat)
                  case atStart => exact ⟨y, (by first | rfl | go_num | (congr 1; omega)), by omega, by omega, HS.out, rfl⟩
                  case round =>
                    obtain ⟨j, rfl, h1, h2, hS, hE⟩ := hrel
                    obtain ⟨G, hG, hcw, hfw⟩ := hS.fam
                    have HG := Hidden.mk hG
                    have HE := Hidden.mk hE
                    have HS := Hidden.mk hS
                    clear hG hE hS
                    by_cases hij : X ≤ j
                    · have hijz : ((X : Nat) : Int) ≤ (j : Int) := by omega
                      go_wp2_with fail
                      go_quiet (first | (go_at_call 97; refine Calls.quiet_of_same (less16 _ _ _)))
                      go_wp2_with fail
                      · have hl : (!Sort.ltInt (G j) (G a)) = true := by assumption
                        go_roundw
                        case rel => exact ⟨j - 1, (by first | go_num | (congr 1; omega)), by omega, by omega, HS.out.drewN _, by rw [← HE.out, sdn_go (by omega) hij (by simp only [← HG.out _ _ rfl]; exact hl)]⟩
                        case measure => simp [intOf]; omega
                      · have hl : (!Sort.ltInt (G j) (G a)) = false := by assumption
                        go_meet
                        exact ⟨j, rfl, h1, h2, HS.out.drewN _, by rw [← HE.out, sdn_stop (fun _ => by simp only [← HG.out _ _ rfl]; exact hl)]⟩
                    · have hijz : decide (((X : Nat) : Int) ≤ (j : Int)) = false := decide_eq_false (by omega)
                      go_wp2_with fail
                      go_quiet (first | (go_at_call 97; refine Calls.quiet_of_same (less16 _ _ _)))
                      go_wp2_with fail
                      go_meet
                      exact ⟨j, rfl, h1, h2, HS.out.drewN _, by rw [← HE.out, sdn_stop (fun h => absurd h hij)]⟩
                case rest =>
                  obtain ⟨Y, rfl, hY1, hY2, hS, hY⟩ := hcut
                  have HS := Hidden.mk hS
                  have HY := Hidden.mk hY
                  clear hS hY
                  go_wp2_with fail
                  · have hlt : Y < X := by assumption
                    obtain ⟨G, hG, hcw, hfw⟩ := HS.out.fam
                    have HG := Hidden.mk hG
                    clear hG
                    have e := Hidden.mk (part_two (c := J + 1) (m := Y) (d2 := dk) HD1.out HI.out HK.out hge (by rw [← HE.out]; exact pl_stop HX.out HY.out hlt))
                    by_cases hEq : Y = a
                    · subst hEq
                      go_region
                      go_wp2_with fail
                      go_ret2
                      exact ⟨by rw [e.out]; rfl, by rw [e.out]; exact HS.out.drew.swpa (by omega) (by omega) (by omega) (by omega) (HG.out _ _ (by omega)) (HG.out _ _ (by omega))⟩
                    · go_region
                      go_wp2_with fail
                      go_ret2
                      exact ⟨by rw [e.out]; rfl, by rw [e.out]; exact HS.out.drew.swpa (by omega) (by omega) (by omega) (by omega) (HG.out _ _ (by omega)) (HG.out _ _ (by omega))⟩
                  · have hge2 : ¬ Y < X := by assumption
                    obtain ⟨G, hG, hcw, hfw⟩ := HS.out.fam
                    have HG := Hidden.mk hG
                    clear hG
                    have hXY : X < Y := scan_lt (fun _ => rfl) HX.out HY.out (by omega) hge2
                    go_region
                    go_wp2_with fail
                    go_roundw
                    case rel => exact ⟨X + 1, Y - 1, Sort.swp dk X Y, by go_num, by congr 1; omega, by omega, by omega, by omega, HS.out.drew.swpa (by omega) (by omega) (by omega) (by omega) (HG.out _ _ (by omega)) (HG.out _ _ (by omega)), by rw [← HE.out, pl_go HX.out HY.out hge2]⟩
                    case measure => simp [intOf]; omega

set_option maxHeartbeats 3200000 in
set_option maxRecDepth 100000 in
theorem parteq16 {b o n sz cap : Nat} {w0 w : World} {d : Array Int} (a c p : Nat) (h : SR .u16 24 sz b o n w0 w d) (hap : a ≤ p) (hpc : p < c) (hc : c ≤ n) (hn : n ≤ 1000000000) :
    Calls Try.prog 114 #[.slice (some ⟨b, o, none⟩) n cap, .int .i64 a, .int .i64 c, .int .i64 p] w fun e w' => e = .returned (.int .i64 (Sort.partitionEqual Sort.ltInt d a c p).1) ∧ SR .u16 24 sz b o n w0 w' ((Sort.partitionEqual Sort.ltInt d a c p).2) := by
  obtain ⟨J, rfl⟩ : ∃ J, c = J + 1 := ⟨c - 1, by omega⟩
  obtain ⟨G, hG, hcw, hfw⟩ := h.fam
  have HG := Hidden.mk hG
  have HS := Hidden.mk h
  clear hG h
  go_enter Try.func114, Try.ntmps114
  go_upto_region 1 with fail
  go_cut [] from 11 to 24 (fun wx => SR .u16 24 sz b o n w0 wx (Sort.swp d a p))
  case first =>
    by_cases hEq : a = p
    · subst hEq
      go_region
      go_wp2_with fail
      go_meet
      exact HS.out.drew.swpa (by omega) (by omega) (by omega) (by omega) (HG.out _ _ (by omega)) (HG.out _ _ (by omega))
    · go_region
      go_wp2_with fail
      go_meet
      exact HS.out.drew.swpa (by omega) (by omega) (by omega) (by omega) (HG.out _ _ (by omega)) (HG.out _ _ (by omega))
  case rest =>
    obtain ⟨d1, hd1⟩ : ∃ d1, Sort.swp d a p = d1 := ⟨_, rfl⟩
    rw [hd1] at hcut
    have HD1 := Hidden.mk hd1
    have HS := Hidden.mk hcut
    clear hd1 hcut hcw hfw HG
    go_wp2_with fail
    go_loopw [9, 10] (fun vi vj wr => ∃ (x y : Nat) (dk : Array Int), vi = .int .i64 x ∧ vj = .int .i64 y ∧ a < x ∧ x ≤ y + 1 ∧ y ≤ J ∧ SR .u16 24 sz b o n w0 wr dk ∧ Sort.partEqLoop Sort.ltInt a x y dk = Sort.partEqLoop Sort.ltInt a (a + 1) J d1) (fun vi _ _ => J + 2 - (intOf vi).toNat)
    case atStart => exact ⟨a + 1, J, d1, by go_num, (by first | rfl | (congr 1; omega)), by omega, by omega, by omega, HS.out, rfl⟩
    case round =>
      obtain ⟨x, y, dk, rfl, rfl, hx1, hx2, hy2, hS, hE⟩ := hrel
      have HE := Hidden.mk hE
      have HS := Hidden.mk hS
      clear hE hS
      go_upto_block 2 with fail
      go_cut [9] from 29 to 45 (fun vi wx => ∃ i : Nat, vi = .int .i64 i ∧ x ≤ i ∧ i ≤ y + 1 ∧ SR .u16 24 sz b o n w0 wx dk ∧ Sort.scanUp (fun x => !Sort.ltInt dk[a]! x) dk (y) (x) = i)
      case first =>
        go_wp2_with fail
        go_loopw [9] (fun vi wr => ∃ i : Nat, vi = .int .i64 i ∧ x ≤ i ∧ i ≤ y + 1 ∧ SR .u16 24 sz b o n w0 wr dk ∧ Sort.scanUp (fun x => !Sort.ltInt dk[a]! x) dk (y) (i) = Sort.scanUp (fun x => !Sort.ltInt dk[a]! x) dk (y) (x)) (fun vi _ => y + 1 - (intOf vi).toNat)
        case atStart => exact ⟨x, (by first | rfl | go_num | (congr 1; omega)), by omega, by omega, HS.out, rfl⟩
        case round =>
          obtain ⟨i, rfl, h1, h2, hS, hE⟩ := hrel
          obtain ⟨G, hG, hcw, hfw⟩ := hS.fam
          have HG := Hidden.mk hG
          have HE := Hidden.mk hE
          have HS := Hidden.mk hS
          clear hG hE hS
          by_cases hij : i ≤ y
          · have hijz : (i : Int) ≤ ((y : Nat) : Int) := by omega
            go_wp2_with fail
            go_quiet (first | (go_at_call 97; refine Calls.quiet_of_same (less16 _ _ _)))
            go_wp2_with fail
            · have hl : (!Sort.ltInt (G a) (G i)) = true := by assumption
              go_roundw
              case rel => exact ⟨i + 1, (by first | go_num | (congr 1; omega)), by omega, by omega, HS.out.drewN _, by rw [← HE.out, sup_go hij (by simp only [← HG.out _ _ rfl]; exact hl)]⟩
              case measure => simp [intOf]; omega
            · have hl : (!Sort.ltInt (G a) (G i)) = false := by assumption
              go_meet
              exact ⟨i, rfl, h1, h2, HS.out.drewN _, by rw [← HE.out, sup_stop (fun _ => by simp only [← HG.out _ _ rfl]; exact hl)]⟩
          · have hijz : decide ((i : Int) ≤ ((y : Nat) : Int)) = false := decide_eq_false (by omega)
            go_wp2_with fail
            go_quiet (first | (go_at_call 97; refine Calls.quiet_of_same (less16 _ _ _)))
            go_wp2_with fail
            go_meet
            exact ⟨i, rfl, h1, h2, HS.out.drewN _, by rw [← HE.out, sup_stop (fun h => absurd h hij)]⟩
      case rest =>
        obtain ⟨X, rfl, hX1, hX2, hS, hX⟩ := hcut
        have HS := Hidden.mk hS
        have HX := Hidden.mk hX
        clear hS hX
        go_upto_block 4 with fail
        go_cut [10] from 46 to 61 (fun vi wx => ∃ j : Nat, vi = .int .i64 j ∧ X ≤ j + 1 ∧ j ≤ y ∧ SR .u16 24 sz b o n w0 wx dk ∧ Sort.scanDown (fun x => Sort.ltInt dk[a]! x) dk (X) (y) = j)
        case first =>
          go_wp2_with fail
          go_loopw [10] (fun vi wr => ∃ j : Nat, vi = .int .i64 j ∧ X ≤ j + 1 ∧ j ≤ y ∧ SR .u16 24 sz b o n w0 wr dk ∧ Sort.scanDown (fun x => Sort.ltInt dk[a]! x) dk (X) (j) = Sort.scanDown (fun x => Sort.ltInt dk[a]! x) dk (X) (y)) (fun vi _ => (intOf vi).toNat)
          case atStart => exact ⟨y, (by first | rfl | go_num | (congr 1; omega)), by omega, by omega, HS.out, rfl⟩
          case round =>
            obtain ⟨j, rfl, h1, h2, hS, hE⟩ := hrel
            obtain ⟨G, hG, hcw, hfw⟩ := hS.fam
            have HG := Hidden.mk hG
            have HE := Hidden.mk hE
            have HS := Hidden.mk hS
            clear hG hE hS
            by_cases hij : X ≤ j
            · have hijz : ((X : Nat) : Int) ≤ (j : Int) := by omega
              go_wp2_with fail
              go_quiet (first | (go_at_call 97; refine Calls.quiet_of_same (less16 _ _ _)))
              go_wp2_with fail
              · have hl : Sort.ltInt (G a) (G j) = true := by assumption
                go_roundw
                case rel => exact ⟨j - 1, (by first | go_num | (congr 1; omega)), by omega, by omega, HS.out.drewN _, by rw [← HE.out, sdn_go (by omega) hij (by simp only [← HG.out _ _ rfl]; exact hl)]⟩
                case measure => simp [intOf]; omega
              · have hl : Sort.ltInt (G a) (G j) = false := by assumption
                go_meet
                exact ⟨j, rfl, h1, h2, HS.out.drewN _, by rw [← HE.out, sdn_stop (fun _ => by simp only [← HG.out _ _ rfl]; exact hl)]⟩
            · have hijz : decide (((X : Nat) : Int) ≤ (j : Int)) = false := decide_eq_false (by omega)
              go_wp2_with fail
              go_quiet (first | (go_at_call 97; refine Calls.quiet_of_same (less16 _ _ _)))
              go_wp2_with fail
              go_meet
              exact ⟨j, rfl, h1, h2, HS.out.drewN _, by rw [← HE.out, sdn_stop (fun h => absurd h hij)]⟩
        case rest =>
          obtain ⟨Y, rfl, hY1, hY2, hS, hY⟩ := hcut
          have HS := Hidden.mk hS
          have HY := Hidden.mk hY
          clear hS hY
          go_wp2_with fail
          · have hlt : Y < X := by assumption
            have e : Hidden (Sort.partitionEqual Sort.ltInt d a (J + 1) p = (X, dk)) := ⟨by
              unfold Sort.partitionEqual
              rw [HD1.out, show J + 1 - 1 = J from rfl, ← HE.out]
              exact pe_stop HX.out HY.out hlt⟩
            go_ret
            exact ⟨by rw [e.out]; rfl, by rw [e.out]; exact HS.out⟩
          · have hge2 : ¬ Y < X := by assumption
            obtain ⟨G, hG, hcw, hfw⟩ := HS.out.fam
            have HG := Hidden.mk hG
            clear hG
            have hXY : X < Y := scan_lt (fun x => by simp) HX.out HY.out (by omega) hge2
            go_region
            go_wp2_with fail
            go_roundw
            case rel => exact ⟨X + 1, Y - 1, Sort.swp dk X Y, by go_num, by congr 1; omega, by omega, by omega, by omega, HS.out.drew.swpa (by omega) (by omega) (by omega) (by omega) (HG.out _ _ (by omega)) (HG.out _ _ (by omega)), by rw [← HE.out, pe_go HX.out HY.out hge2]⟩
            case measure => simp [intOf]; omega
end Go.Proofs.Ythcjnijggebcaaa
