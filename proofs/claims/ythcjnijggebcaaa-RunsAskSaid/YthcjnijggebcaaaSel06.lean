/- The document's sets: Select, of any number. -/
import Derived.Test.YthcjnijggebcaaaRef06B
namespace Go.Proofs.Ythcjnijggebcaaa
open Go.RowKit
set_option linter.unusedVariables false
set_option linter.unusedSimpArgs false
set_option maxHeartbeats 1000000 in
theorem sel06w {w : World} {v : Value} {f : Nat → Bool} (h : BS 4 w v f) (k : Nat) (hk : k ≤ 9223372036854775807) :
    Calls Try.prog 36 #[v, .int .i64 k] w fun e w' => (∃ r, e = .returned (.int .i64 r) ∧ IsSel f k r) ∧ w = w' := by
  obtain ⟨sb, rfl, _, hlt, hcw0, _⟩ := h.at_
  have hcw := Hidden.mk hcw0
  clear h hcw0
  go_enter Try.func36, Try.ntmps36
  go_wp2_with fail
  go_loop [1, 5, 8] (fun vk _ vi => ∃ (i : Nat) (r : Int), i ≤ 65536 ∧ vi = .int .i64 i ∧ vk = .int .i64 r ∧ (r : Int) = (k : Int) - cntN f i ∧ (0 ≤ r ∨ r < 0) ∧ (∀ j : Nat, j < i → f j = true → (cntN f j : Int) ≠ k)) (fun _ _ vi => 65536 - (intOf vi).toNat)
  case atStart => exact ⟨0, k, by omega, rfl, rfl, by simp [cntN], by omega, by omega⟩
  case round =>
    obtain ⟨i, r, hi, rfl, rfl, hr, _, hno⟩ := hrel
    have HNO := Hidden.mk hno
    clear hno
    have hle := cntN_le (f := f) i
    by_cases hin : i < 65536
    · have h65 : (i : Int) < 65536 := by omega
      have hc := hcw.out i hin
      rw [Nat.zero_add] at hc
      have hr1 : -65536 ≤ r := by omega
      have hr2 : r ≤ 9223372036854775807 := by omega
      have HR := Hidden.mk hr
      clear hr
      cases hfi : f i with
      | true =>
        have e := Hidden.mk hfi
        have e2 := Hidden.mk (cntN_yes hfi)
        rw [hfi] at hc
        clear hfi
        by_cases hr0 : r = 0
        · have hb : (r == 0) = true := by simp [hr0]
          have hsel : Hidden ((cntN f i : Int) = k) := ⟨by have := HR.out; omega⟩
          clear hr0
          go_wp2_with fail
          go_ret
          exact ⟨⟨_, rfl, .inr ⟨i, rfl, hin, e.out, hsel.out⟩⟩, rfl⟩
        · have hb : (r == 0) = false := by simp [hr0]
          go_wp2_with fail
          go_round
          case rel =>
            refine ⟨i + 1, r - 1, by omega, by go_num, rfl, by rw [e2.out]; have := HR.out; omega, by omega, fun j h1 h2 => ?_⟩
            rcases Nat.lt_or_ge j i with h3 | h3
            · exact HNO.out j h3 h2
            · have : j = i := by omega
              subst this; have := HR.out; omega
          case measure => simp [intOf]; omega
      | false =>
        have e := Hidden.mk hfi
        have e2 := Hidden.mk (cntN_no hfi)
        rw [hfi] at hc
        clear hfi
        go_wp2_with fail
        go_round
        case rel =>
          refine ⟨i + 1, r, by omega, by go_num, rfl, by rw [e2.out]; exact HR.out, by omega, fun j h1 h2 => ?_⟩
          rcases Nat.lt_or_ge j i with h3 | h3
          · exact HNO.out j h3 h2
          · have : j = i := by omega
            subst this; rw [e.out] at h2; cases h2
        case measure => simp [intOf]; omega
    · have e : i = 65536 := by omega
      subst e
      clear hr
      go_wp2_with fail
      go_ret
      exact ⟨⟨_, rfl, .inl ⟨rfl, fun j h1 h2 => HNO.out j h1 h2⟩⟩, rfl⟩
end Go.Proofs.Ythcjnijggebcaaa
