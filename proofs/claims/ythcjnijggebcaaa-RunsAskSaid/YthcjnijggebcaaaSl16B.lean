/- slices.BinarySearch at uint16. -/
import Derived.Test.YthcjnijggebcaaaSl16A
namespace Go.Proofs.Ythcjnijggebcaaa
open Go.RowKit
set_option linter.unusedVariables false
set_option linter.unusedSimpArgs false

theorem snan16 (z : Int) (w : World) : Calls Try.prog 98 #[.int .u16 z] w fun e w' => e = .returned (.bool false) ∧ w' = w := by
  go_enter Try.func98, Try.ntmps98
  go_wp2
  go_ret
  exact ⟨by simp, rfl⟩
set_option maxHeartbeats 1000000 in
theorem bin16 {w : World} {v : Value} {l : List Int} (t : Int) (h : ISl .u16 w v l) (hl : l.length ≤ 1000000000) (hs : l.Pairwise (· ≤ ·)) :
    Calls Try.prog 84 #[v, .int .u16 t] w fun e w' => e = .returned (.tuple #[.int .i64 (rk l t), .bool (decide (t ∈ l))]) ∧ w = w' := by
  obtain ⟨a, cap, rfl, k1, k2⟩ := h.slice_
  have hG : ∃ L : Nat → Int, ∀ t, L t = l.getD t 0 := ⟨fun t => l.getD t 0, fun _ => rfl⟩
  obtain ⟨L, hL⟩ := hG
  have hc : Hidden (∀ p, p < l.length → ∃ b off, a = some ⟨b, off, none⟩ ∧ w.cell? ⟨b, off + p, none⟩ = some (.int .u16 (L p))) := ⟨fun p hp => by
    obtain ⟨b, off, x, rfl, _, hx, hcell⟩ := h.get hp
    refine ⟨b, off, rfl, ?_⟩
    rw [hcell, hL, List.getD_eq_getElem?_getD, hx]; rfl⟩
  have HL := Hidden.mk hL
  have HS := Hidden.mk hs
  clear h hL hs
  generalize hn : l.length = n at *
  have HN := Hidden.mk hn
  clear hn
  go_enter Try.func84, Try.ntmps84
  go_wp2_with fail
  go_loop [7, 8] (fun vi vj => ∃ i j : Nat, vi = .int .i64 i ∧ vj = .int .i64 j ∧ i ≤ j ∧ j ≤ n ∧ (∀ p, p < i → L p < t) ∧ (∀ p, j ≤ p → p < n → t ≤ L p)) (fun vi vj => (intOf vj - intOf vi).toNat)
  case atStart => exact ⟨0, n, rfl, rfl, by omega, by omega, by omega, by omega⟩
  case round =>
    obtain ⟨i, j, rfl, rfl, hij, hjn, h1, h2⟩ := hrel
    have H1 := Hidden.mk h1
    have H2 := Hidden.mk h2
    clear h1 h2
    by_cases hlt : i < j
    · obtain ⟨b, off, rfl, hcell⟩ := hc.out ((i + j) / 2) (by omega)
      go_wp2_with (go_at_call 97; refine (less16 _ _ _).mono ?_; rintro e w' ⟨rfl, rfl⟩)
      · have hl1 : Sort.ltInt (L ((i + j) / 2)) t = true := by assumption
        have hl2 : L ((i + j) / 2) < t := by simpa [Sort.ltInt] using hl1
        go_round
        case rel =>
          refine ⟨(i + j) / 2 + 1, j, by go_num, rfl, by omega, hjn, fun p hp => ?_, H2.out⟩
          have h3 : L p ≤ L ((i + j) / 2) := by
            rw [HL.out, HL.out]
            have hn := HN.out
            have e1 : l.getD p 0 = l[p]'(by omega) := by simp [List.getD_eq_getElem?_getD, List.getElem?_eq_getElem (show p < l.length by omega)]
            have e2 : l.getD ((i + j) / 2) 0 = l[(i + j) / 2]'(by omega) := by simp [List.getD_eq_getElem?_getD, List.getElem?_eq_getElem (show (i + j) / 2 < l.length by omega)]
            rw [e1, e2]
            rcases Nat.lt_or_ge p ((i + j) / 2) with h4 | h4
            · exact List.pairwise_iff_getElem.1 HS.out p _ (by omega) (by omega) h4
            · have : p = (i + j) / 2 := by omega
              subst this; exact Int.le_refl _
          omega
        case measure => simp [intOf]; omega
      · have hl1 : Sort.ltInt (L ((i + j) / 2)) t = false := by assumption
        have hl2 : ¬ L ((i + j) / 2) < t := by simpa [Sort.ltInt] using hl1
        go_round
        case rel =>
          refine ⟨i, (i + j) / 2, rfl, (by first | rfl | go_num), by omega, by omega, H1.out, fun p hp hpn => ?_⟩
          have h3 : L ((i + j) / 2) ≤ L p := by
            rw [HL.out, HL.out]
            have hn := HN.out
            have e1 : l.getD p 0 = l[p]'(by omega) := by simp [List.getD_eq_getElem?_getD, List.getElem?_eq_getElem (show p < l.length by omega)]
            have e2 : l.getD ((i + j) / 2) 0 = l[(i + j) / 2]'(by omega) := by simp [List.getD_eq_getElem?_getD, List.getElem?_eq_getElem (show (i + j) / 2 < l.length by omega)]
            rw [e1, e2]
            rcases Nat.lt_or_ge ((i + j) / 2) p with h4 | h4
            · exact List.pairwise_iff_getElem.1 HS.out _ p (by omega) (by omega) h4
            · have : p = (i + j) / 2 := by omega
              subst this; exact Int.le_refl _
          omega
        case measure => simp [intOf]; omega
    · have hij2 : i = j := by omega
      have hr : Hidden (rk l t = i) := ⟨rk_at (by rw [HN.out]; omega) (fun p hp => by rw [← HL.out]; exact H1.out p hp) (fun p hp hpn => by rw [← HL.out]; exact H2.out p (by omega) (by rw [← HN.out]; exact hpn))⟩
      have hm : Hidden (decide (t ∈ l) = decide (i < n ∧ L i = t)) := ⟨by
        have := mem_rk (t := t) HS.out
        rw [hr.out, HN.out, ← HL.out] at this
        exact decide_eq_decide.2 this⟩
      by_cases hin : i < n
      · have hinz : (i : Int) < (n : Int) := by omega
        have hind : decide (i < n) = true := decide_eq_true hin
        obtain ⟨b, off, rfl, hcell⟩ := hc.out i hin
        clear hij2
        by_cases heq : L i = t
        · have hbq : (L i == t) = true := by simp [heq]
          have HE : Hidden (decide (t ∈ l) = true) := ⟨by rw [hm.out]; simp [hin, heq]⟩
          clear heq
          go_wp2_with (go_at_call 98; refine (snan16 _ _).mono ?_; rintro e w' ⟨rfl, rfl⟩)
          go_ret2
          exact ⟨by rw [hr.out, HE.out]; rfl, rfl⟩
        · have hbq : (L i == t) = false := by simp [heq]
          have HE : Hidden (decide (t ∈ l) = false) := ⟨by rw [hm.out]; simp [heq]⟩
          clear heq
          go_wp2_with (go_at_call 98; refine (snan16 _ _).mono ?_; rintro e w' ⟨rfl, rfl⟩)
          go_ret2
          exact ⟨by rw [hr.out, HE.out]; rfl, rfl⟩
      · have hinz : decide ((i : Int) < (n : Int)) = false := decide_eq_false (by omega)
        have hind : decide (i < n) = false := decide_eq_false hin
        have HE : Hidden (decide (t ∈ l) = false) := ⟨by rw [hm.out]; simp [hin]⟩
        clear hij2
        go_wp2_with (go_at_call 98; refine (snan16 _ _).mono ?_; rintro e w' ⟨rfl, rfl⟩)
        go_ret2
        exact ⟨by rw [hr.out, HE.out]; rfl, rfl⟩
end Go.Proofs.Ythcjnijggebcaaa
