/- reverseRangeOrdered, siftDownOrdered, heapSortOrdered at uint16. -/
import Derived.Test.YthcjnijggebcaaaSo16A
namespace Go.Proofs.Ythcjnijggebcaaa
open Go.RowKit
set_option linter.unusedVariables false
set_option linter.unusedSimpArgs false

set_option maxHeartbeats 1000000 in
theorem rev16 {b o n sz cap : Nat} {w0 w : World} {d : Array Int} (a c : Nat) (h : SR .u16 24 sz b o n w0 w d) (hac : a < c) (hc : c ≤ n) (hn : n ≤ 1000000000) :
    Calls Try.prog 112 #[.slice (some ⟨b, o, none⟩) n cap, .int .i64 a, .int .i64 c] w fun e w' => e = .returned (.tuple #[]) ∧ SR .u16 24 sz b o n w0 w' (Sort.reverseRange d a c) := by
  go_enter Try.func112, Try.ntmps112
  go_wp2
  go_loopw [6, 7] (fun vi vj wr => ∃ (i j : Nat) (dk : Array Int), vi = .int .i64 i ∧ vj = .int .i64 j ∧ i ≤ c ∧ j < c ∧ SR .u16 24 sz b o n w0 wr dk ∧ Sort.reverseLoop i j dk = Sort.reverseLoop a (c - 1) d) (fun vi vj _ => c - (intOf vi).toNat)
  case atStart => exact ⟨a, c - 1, d, rfl, by congr 1; omega, by omega, by omega, h, rfl⟩
  case round =>
    obtain ⟨i, j, dk, rfl, rfl, hi, hj, hS, hE⟩ := hrel
    obtain ⟨G, hG, hcw, hfw⟩ := hS.fam
    have HG := Hidden.mk hG
    have HE := Hidden.mk hE
    have HS := Hidden.mk hS
    clear hG hE hS h
    by_cases hlt : i < j
    · go_wp2_with fail
      go_region
      all_goals go_wp2_with fail
      go_roundw
      case rel => exact ⟨i + 1, j - 1, Sort.swp dk i j, by go_num, by congr 1; omega, by omega, by omega, HS.out.drew.swpa (by omega) (by omega) (by omega) (by omega) (HG.out _ _ (by omega)) (HG.out _ _ (by omega)), by rw [← HE.out, rev_go hlt]⟩
      case measure => simp [intOf]; omega
    · go_wp2_with fail
      go_end0
      refine ⟨rfl, ?_⟩
      have e : Sort.reverseRange d a c = dk := by unfold Sort.reverseRange; rw [← HE.out, rev_stop hlt]
      rw [e]; exact HS.out

set_option maxHeartbeats 3200000 in
set_option maxRecDepth 100000 in
theorem sift16 {b o n sz cap : Nat} {w0 w : World} {d : Array Int} (lo hi F : Nat) (h : SR .u16 24 sz b o n w0 w d) (hlo : lo ≤ hi) (hc : F + hi ≤ n) (hn : n ≤ 1000000000) :
    Calls Try.prog 128 #[.slice (some ⟨b, o, none⟩) n cap, .int .i64 lo, .int .i64 hi, .int .i64 F] w fun e w' => e = .returned (.tuple #[]) ∧ SR .u16 24 sz b o n w0 w' (Sort.siftDown Sort.ltInt hi F lo d) := by
  go_enter Try.func128, Try.ntmps128
  go_wp2
  go_loopg [8] (hi - lo) (fun k s8 wr => ∃ (root : Nat) (dk : Array Int), s8 = .int .i64 root ∧ root ≤ hi ∧ hi - root ≤ k ∧ SR .u16 24 sz b o n w0 wr dk ∧ Sort.siftDown Sort.ltInt hi F root dk = Sort.siftDown Sort.ltInt hi F lo d)
  case atStart => exact ⟨lo, d, rfl, hlo, Nat.le_refl _, h, rfl⟩
  case round =>
    obtain ⟨root, dk, rfl, hr, hk, hS, hE⟩ := hrel
    obtain ⟨G, hG, hcw, hfw⟩ := hS.fam
    have HG := Hidden.mk hG
    have HE := Hidden.mk hE
    have HS := Hidden.mk hS
    clear hG hE hS h
    by_cases h0 : hi ≤ 2 * root + 1
    · have h0z : (hi : Int) ≤ 2 * (root : Int) + 1 := by omega
      go_wp2_with fail
      go_end0
      refine ⟨rfl, ?_⟩
      have e : Sort.siftDown Sort.ltInt hi F lo d = dk := by rw [← HE.out, sd_end dk h0]
      rw [e]; exact HS.out
    · have h0z : ¬ ((hi : Int) ≤ 2 * (root : Int) + 1) := by omega
      by_cases h1 : 2 * root + 2 < hi
      · have h1z : 2 * (root : Int) + 1 + 1 < (hi : Int) := by omega
        go_wp2_with fail
        go_quiet (first | (go_at_call 97; refine Calls.quiet_of_same (less16 _ _ _)))
        go_wp2_with fail
        · skip
          have hC : Child Sort.ltInt hi F root (2 * root + 2) dk := by
            exact .inl ⟨rfl, h1, by rw [← HG.out (F + 2 * root + 1) _ (by omega), ← HG.out (F + 2 * root + 2) _ (by omega)]; assumption⟩
          have HC := Hidden.mk hC
          clear hC
          revert nq; intro nq1
          have hcw2 : ∀ t, t < n → (wr.drewN nq1).cell? ⟨b, o + t, none⟩ = some (.int .u16 (G t)) := hcw
          have hfw2 : ∀ t, t < n → (wr.drewN nq1).frozen? ⟨b, o + t, none⟩ = false := hfw
          have HS2 := Hidden.mk (HS.out.drewN nq1)
          clear hcw hfw HS
          generalize wr.drewN nq1 = wr2 at hcw2 hfw2 HS2 ⊢
          go_quiet (first | (go_at_call 97; refine Calls.quiet_of_same (less16 _ _ _)))
          go_wp2_with fail
          · have hL : Sort.ltInt (G (F + root)) (G (F + 2 * root + 2)) = false := by
              have : (!Sort.ltInt (G (F + root)) (G (F + 2 * root + 2))) = true := by assumption
              simpa using this
            (try simp only [Exit.inBlock, Exit.then])
            refine bodyPost_ret (results_none rfl _ _ _) rfl ?_
            refine ⟨rfl, ?_⟩
            have e : Sort.siftDown Sort.ltInt hi F lo d = dk := by rw [← HE.out]; exact sd_stop HC.out (by rw [← HG.out (F + root) _ (by omega), ← HG.out (F + 2 * root + 2) _ (by omega)]; exact hL)
            rw [e]; exact HS2.out.drewN _
          · have hL : Sort.ltInt (G (F + root)) (G (F + 2 * root + 2)) = true := by
              have : (!Sort.ltInt (G (F + root)) (G (F + 2 * root + 2))) = false := by assumption
              simpa using this
            have hcw3 : ∀ t, t < n → (wr2.drewN nq).cell? ⟨b, o + t, none⟩ = some (.int .u16 (G t)) := hcw2
            have hfw3 : ∀ t, t < n → (wr2.drewN nq).frozen? ⟨b, o + t, none⟩ = false := hfw2
            have HS3 := Hidden.mk (HS2.out.drewN nq)
            clear hcw2 hfw2 HS2
            generalize wr2.drewN nq = wr3 at hcw3 hfw3 HS3 ⊢
            go_region
            go_wp2_with fail
            go_roundg (hi - (2 * root + 2))
            case measure => omega
            case rel =>
              refine ⟨2 * root + 2, Sort.swp dk (F + root) (F + (2 * root + 2)), by simp <;> omega, by omega, Nat.le_refl _, HS3.out.drew.swpa (by omega) (by omega) (by omega) (by omega) (HG.out _ _ (by omega)) (HG.out _ _ (by omega)), ?_⟩
              rw [← HE.out]; exact (sd_go HC.out (by rw [← HG.out (F + root) _ (by omega), ← HG.out (F + 2 * root + 2) _ (by omega)]; exact hL)).symm
        · skip
          have hC : Child Sort.ltInt hi F root (2 * root + 1) dk := by
            exact .inr ⟨rfl, by omega, fun _ => by rw [← HG.out (F + 2 * root + 1) _ (by omega), ← HG.out (F + 2 * root + 2) _ (by omega)]; assumption⟩
          have HC := Hidden.mk hC
          clear hC
          revert nq; intro nq1
          have hcw2 : ∀ t, t < n → (wr.drewN nq1).cell? ⟨b, o + t, none⟩ = some (.int .u16 (G t)) := hcw
          have hfw2 : ∀ t, t < n → (wr.drewN nq1).frozen? ⟨b, o + t, none⟩ = false := hfw
          have HS2 := Hidden.mk (HS.out.drewN nq1)
          clear hcw hfw HS
          generalize wr.drewN nq1 = wr2 at hcw2 hfw2 HS2 ⊢
          go_quiet (first | (go_at_call 97; refine Calls.quiet_of_same (less16 _ _ _)))
          go_wp2_with fail
          · have hL : Sort.ltInt (G (F + root)) (G (F + 2 * root + 1)) = false := by
              have : (!Sort.ltInt (G (F + root)) (G (F + 2 * root + 1))) = true := by assumption
              simpa using this
            (try simp only [Exit.inBlock, Exit.then])
            refine bodyPost_ret (results_none rfl _ _ _) rfl ?_
            refine ⟨rfl, ?_⟩
            have e : Sort.siftDown Sort.ltInt hi F lo d = dk := by rw [← HE.out]; exact sd_stop HC.out (by rw [← HG.out (F + root) _ (by omega), ← HG.out (F + 2 * root + 1) _ (by omega)]; exact hL)
            rw [e]; exact HS2.out.drewN _
          · have hL : Sort.ltInt (G (F + root)) (G (F + 2 * root + 1)) = true := by
              have : (!Sort.ltInt (G (F + root)) (G (F + 2 * root + 1))) = false := by assumption
              simpa using this
            have hcw3 : ∀ t, t < n → (wr2.drewN nq).cell? ⟨b, o + t, none⟩ = some (.int .u16 (G t)) := hcw2
            have hfw3 : ∀ t, t < n → (wr2.drewN nq).frozen? ⟨b, o + t, none⟩ = false := hfw2
            have HS3 := Hidden.mk (HS2.out.drewN nq)
            clear hcw2 hfw2 HS2
            generalize wr2.drewN nq = wr3 at hcw3 hfw3 HS3 ⊢
            go_region
            go_wp2_with fail
            go_roundg (hi - (2 * root + 1))
            case measure => omega
            case rel =>
              refine ⟨2 * root + 1, Sort.swp dk (F + root) (F + (2 * root + 1)), by simp <;> omega, by omega, Nat.le_refl _, HS3.out.drew.swpa (by omega) (by omega) (by omega) (by omega) (HG.out _ _ (by omega)) (HG.out _ _ (by omega)), ?_⟩
              rw [← HE.out]; exact (sd_go HC.out (by rw [← HG.out (F + root) _ (by omega), ← HG.out (F + 2 * root + 1) _ (by omega)]; exact hL)).symm
      · have h1z : decide (2 * (root : Int) + 1 + 1 < (hi : Int)) = false := decide_eq_false (by omega)
        go_wp2_with fail
        go_quiet (first | (go_at_call 97; refine Calls.quiet_of_same (less16 _ _ _)))
        go_wp2_with fail
        · skip
          have hC : Child Sort.ltInt hi F root (2 * root + 1) dk := by
            exact .inr ⟨rfl, by omega, fun h => absurd h h1⟩
          have HC := Hidden.mk hC
          clear hC
          revert nq; intro nq1
          have hcw2 : ∀ t, t < n → (wr.drewN nq1).cell? ⟨b, o + t, none⟩ = some (.int .u16 (G t)) := hcw
          have hfw2 : ∀ t, t < n → (wr.drewN nq1).frozen? ⟨b, o + t, none⟩ = false := hfw
          have HS2 := Hidden.mk (HS.out.drewN nq1)
          clear hcw hfw HS
          generalize wr.drewN nq1 = wr2 at hcw2 hfw2 HS2 ⊢
          go_quiet (first | (go_at_call 97; refine Calls.quiet_of_same (less16 _ _ _)))
          go_wp2_with fail
          · have hL : Sort.ltInt (G (F + root)) (G (F + 2 * root + 1)) = false := by
              have : (!Sort.ltInt (G (F + root)) (G (F + 2 * root + 1))) = true := by assumption
              simpa using this
            (try simp only [Exit.inBlock, Exit.then])
            refine bodyPost_ret (results_none rfl _ _ _) rfl ?_
            refine ⟨rfl, ?_⟩
            have e : Sort.siftDown Sort.ltInt hi F lo d = dk := by rw [← HE.out]; exact sd_stop HC.out (by rw [← HG.out (F + root) _ (by omega), ← HG.out (F + 2 * root + 1) _ (by omega)]; exact hL)
            rw [e]; exact HS2.out.drewN _
          · have hL : Sort.ltInt (G (F + root)) (G (F + 2 * root + 1)) = true := by
              have : (!Sort.ltInt (G (F + root)) (G (F + 2 * root + 1))) = false := by assumption
              simpa using this
            have hcw3 : ∀ t, t < n → (wr2.drewN nq).cell? ⟨b, o + t, none⟩ = some (.int .u16 (G t)) := hcw2
            have hfw3 : ∀ t, t < n → (wr2.drewN nq).frozen? ⟨b, o + t, none⟩ = false := hfw2
            have HS3 := Hidden.mk (HS2.out.drewN nq)
            clear hcw2 hfw2 HS2
            generalize wr2.drewN nq = wr3 at hcw3 hfw3 HS3 ⊢
            go_region
            go_wp2_with fail
            go_roundg (hi - (2 * root + 1))
            case measure => omega
            case rel =>
              refine ⟨2 * root + 1, Sort.swp dk (F + root) (F + (2 * root + 1)), by simp <;> omega, by omega, Nat.le_refl _, HS3.out.drew.swpa (by omega) (by omega) (by omega) (by omega) (HG.out _ _ (by omega)) (HG.out _ _ (by omega)), ?_⟩
              rw [← HE.out]; exact (sd_go HC.out (by rw [← HG.out (F + root) _ (by omega), ← HG.out (F + 2 * root + 1) _ (by omega)]; exact hL)).symm

set_option maxHeartbeats 3200000 in
set_option maxRecDepth 100000 in
theorem heap16 {b o n sz cap : Nat} {w0 w : World} {d : Array Int} (a c : Nat) (h : SR .u16 24 sz b o n w0 w d) (hac : a ≤ c) (hc : c ≤ n) (hn : n ≤ 1000000000) :
    Calls Try.prog 109 #[.slice (some ⟨b, o, none⟩) n cap, .int .i64 a, .int .i64 c] w fun e w' => e = .returned (.tuple #[]) ∧ SR .u16 24 sz b o n w0 w' (Sort.heapSort Sort.ltInt d a c) := by
  have ecast : ((c - a : Nat) : Int) = (c : Int) - (a : Int) := by omega
  go_enter Try.func109, Try.ntmps109
  go_wp2
  go_loopg [9] ((c - a - 1) / 2 + 1) (fun k s9 wr => s9 = .int .i64 ((k : Int) - 1) ∧ k ≤ (c - a - 1) / 2 + 1 ∧ ∃ dk : Array Int, SR .u16 24 sz b o n w0 wr dk ∧ Sort.heapBuild Sort.ltInt (c - a) a k dk = Sort.heapBuild Sort.ltInt (c - a) a ((c - a - 1) / 2 + 1) d)
  case atStart => exact ⟨by rw [half_at hac], Nat.le_refl _, d, h, rfl⟩
  case round =>
    obtain ⟨rfl, hkk, dk, hS, hE⟩ := hrel
    have HE := Hidden.mk hE
    have HS := Hidden.mk hS
    clear hE hS h
    cases gk with
    | zero =>
      have HB : Hidden (dk = Sort.heapBuild Sort.ltInt (c - a) a ((c - a - 1) / 2 + 1) d) := ⟨HE.out⟩
      go_wp2_with fail
      go_loopg [10] (c - a) (fun k s10 wr => s10 = .int .i64 ((k : Int) - 1) ∧ k ≤ c - a ∧ ∃ dj : Array Int, SR .u16 24 sz b o n w0 wr dj ∧ Sort.heapPop Sort.ltInt a k dj = Sort.heapPop Sort.ltInt a (c - a) dk)
      case atStart => exact ⟨by rw [ecast], Nat.le_refl _, dk, HS.out, rfl⟩
      case round =>
        obtain ⟨rfl, hkk, dj, hS, hE⟩ := hrel
        obtain ⟨G, hG, hcw, hfw⟩ := hS.fam
        have HG := Hidden.mk hG
        have HE := Hidden.mk hE
        have HS := Hidden.mk hS
        clear hG hE hS ecast
        cases gk with
        | zero =>
          go_wp2_with fail
          go_end0
          refine ⟨rfl, ?_⟩
          have e : Sort.heapSort Sort.ltInt d a c = dj := by rw [Sort.heapSort, ← HB.out, ← HE.out]; rfl
          rw [e]; exact HS.out
        | succ k =>
          rcases Nat.eq_zero_or_pos k with hk0 | hkp
          · subst hk0
            go_wp2_with fail
            go_region
            go_wp2_with fail
            have HS3 := Hidden.mk (HS.out.drew.swpa (i := a) (j := a) (p := o + a) (q := o + a) (x := G a) (y := G a) rfl rfl (by omega) (by omega) (HG.out _ _ rfl) (HG.out _ _ rfl))
            refine (sift16 0 0 a (HS.out.drew.swpa (i := a) (j := a) (by omega) (by omega) (by omega) (by omega) (HG.out _ _ (by omega)) (HG.out _ _ (by omega))) (Nat.le_refl _) (by omega) hn).mono ?_
            rintro e w1 ⟨rfl, hS1⟩
            have HS1 := Hidden.mk hS1
            clear hS1
            go_wp2_with fail
            go_roundg 0
            case measure => omega
            case rel => exact ⟨by simp, by omega, _, HS1.out, HE.out⟩
          · go_wp2_with fail
            go_region
            go_wp2_with fail
            refine (sift16 0 k a (HS.out.drew.swpa (i := a) (j := a + k) (by omega) (by omega) (by omega) (by omega) (HG.out _ _ (by omega)) (HG.out _ _ (by omega))) (by omega) (by omega) hn).mono ?_
            rintro e w1 ⟨rfl, hS1⟩
            have HS1 := Hidden.mk hS1
            clear hS1
            go_wp2_with fail
            go_roundg k
            case measure => omega
            case rel => exact ⟨by simp, by omega, _, HS1.out, HE.out⟩
    | succ k =>
      have hcall := fun cap => sift16 (cap := cap) k (c - a) a HS.out (by omega) (by omega) hn
      rw [ecast] at hcall
      have HCALL := Hidden.mk hcall
      clear hcall ecast
      go_wp2_with fail
      refine (HCALL.out _).mono ?_
      rintro e w1 ⟨rfl, hS1⟩
      have HS1 := Hidden.mk hS1
      clear hS1
      go_wp2_with fail
      go_roundg k
      case measure => omega
      case rel => exact ⟨by simp, by omega, _, HS1.out, HE.out⟩
end Go.Proofs.Ythcjnijggebcaaa
