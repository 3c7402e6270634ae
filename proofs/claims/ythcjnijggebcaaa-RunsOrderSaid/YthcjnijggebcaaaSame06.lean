/- stepstone/stepstoneref06.Same: are two lists alike? -/
import Derived.Test.YthcjnijggebcaaaPart
import Derived.Test.YthcjnijggebcaaaProg
namespace Go.Proofs.Ythcjnijggebcaaa
open Go.RowKit
set_option linter.unusedVariables false
set_option linter.unusedSimpArgs false
theorem eq_of_get6 {a b : List Int} (h : a.length = b.length) (h2 : ∀ i, i < a.length → a.getD i 0 = b.getD i 0) : a = b := by
  apply List.ext_getElem h
  intro i h3 h4
  have := h2 i h3
  rwa [get_at h3, get_at h4] at this
set_option maxHeartbeats 1000000 in
theorem same06 {w : World} {va vb : Value} {a b : List Int} (ha : ISl .u16 w va a) (hb : ISl .u16 w vb b) (hla : a.length ≤ 1000000) (hlb : b.length ≤ 1000000) :
    Calls Try.prog 20 #[va, vb] w fun e w' => e = .returned (.bool (decide (a = b))) ∧ ∃ q, w' = w.drewN q := by
  obtain ⟨pa, ca, rfl, _⟩ := ha.slice_
  obtain ⟨pb, cb, rfl, _⟩ := hb.slice_
  by_cases hlen : a.length = b.length
  · obtain ⟨X, hX⟩ : ∃ X : Nat → Int, ∀ t, X t = a.getD t 0 := ⟨fun t => a.getD t 0, fun _ => rfl⟩
    obtain ⟨Y, hY⟩ : ∃ Y : Nat → Int, ∀ t, Y t = b.getD t 0 := ⟨fun t => b.getD t 0, fun _ => rfl⟩
    have HCA : Hidden (∀ p, p < a.length → ∃ g off, pa = some ⟨g, off, none⟩ ∧ w.cell? ⟨g, off + p, none⟩ = some (.int .u16 (X p))) := ⟨fun p hp => by
      obtain ⟨g, off, x, rfl, _, hx, hc⟩ := ha.get hp
      exact ⟨g, off, rfl, by rw [hc, hX, List.getD_eq_getElem?_getD, hx]; rfl⟩⟩
    have HCB : Hidden (∀ p, p < b.length → ∃ g off, pb = some ⟨g, off, none⟩ ∧ w.cell? ⟨g, off + p, none⟩ = some (.int .u16 (Y p))) := ⟨fun p hp => by
      obtain ⟨g, off, x, rfl, _, hx, hc⟩ := hb.get hp
      exact ⟨g, off, rfl, by rw [hc, hY, List.getD_eq_getElem?_getD, hx]; rfl⟩⟩
    have HD : Hidden ((∀ i, i < a.length → X i = Y i) → a = b) := ⟨fun h => eq_of_get6 hlen (fun i hi => by rw [← hX, ← hY]; exact h i hi)⟩
    have HN : Hidden (∀ i, i < a.length → X i ≠ Y i → ¬ a = b) := ⟨fun i hi hne he => hne (by rw [hX, hY, he])⟩
    rw [← hlen] at hlb HCB ⊢
    clear ha hb hX hY hlen
    generalize hn : a.length = n at *
    have HLN := Hidden.mk hn
    clear hn
    have hbn : ((n : Int) != (n : Int)) = false := by simp
    go_enter Try.func20, Try.ntmps20
    go_wp2_with fail
    go_loopw [5, 13] (fun _ vi wr => ∃ (i q : Nat), i ≤ n ∧ vi = .int .i64 i ∧ wr = w.drewN q ∧ ∀ j, j < i → X j = Y j) (fun _ vi _ => n - (intOf vi).toNat)
    case atStart => exact ⟨0, 0, by omega, rfl, rfl, by omega⟩
    case round =>
      obtain ⟨i, q, hi, rfl, rfl, hall⟩ := hrel
      have HALL := Hidden.mk hall
      clear hall
      by_cases hin : i < n
      · obtain ⟨ga, oa, rfl, hca⟩ := HCA.out i hin
        obtain ⟨gb, ob, rfl, hcb⟩ := HCB.out i hin
        have hca2 : (w.drewN q).cell? ⟨ga, oa + i, none⟩ = some (.int .u16 (X i)) := hca
        have hcb2 : (w.drewN q).cell? ⟨gb, ob + i, none⟩ = some (.int .u16 (Y i)) := hcb
        clear hca hcb
        obtain ⟨W, hW⟩ : ∃ W, w.drewN q = W := ⟨_, rfl⟩
        rw [hW] at hca2 hcb2 ⊢
        have HW := Hidden.mk hW
        clear hW
        by_cases heq : X i = Y i
        · have hbq : (X i != Y i) = false := by simp [heq]
          have HE := Hidden.mk heq
          clear heq
          go_wp2_with fail
          go_quiet (fail)
          go_wp2_with fail
          go_roundw
          case rel => exact ⟨i + 1, q + nq, by omega, by go_num, by rw [← HW.out]; exact drewN_add w q nq, fun j hj => by rcases Nat.lt_or_ge j i with h3 | h3; exact HALL.out j h3; (have : j = i := by omega); subst this; exact HE.out⟩
          case measure => simp [intOf]; omega
        · have hbq : (X i != Y i) = true := by simp [heq]
          have HE : Hidden (decide (a = b) = false) := ⟨decide_eq_false (HN.out i hin heq)⟩
          clear heq
          go_wp2_with fail
          go_quiet (fail)
          go_wp2_with fail
          go_ret
          exact ⟨by rw [HE.out]; rfl, q + nq, by rw [← HW.out]; exact drewN_add w q nq⟩
      · have HE : Hidden (decide (a = b) = true) := ⟨decide_eq_true (HD.out (fun j hj => HALL.out j (by omega)))⟩
        go_wp2_with fail
        go_ret
        exact ⟨by rw [HE.out]; rfl, q, rfl⟩
  · have hbn : ((a.length : Int) != (b.length : Int)) = true := by simp; omega
    have HE : Hidden (decide (a = b) = false) := ⟨decide_eq_false (fun h => hlen (by rw [h]))⟩
    clear ha hb hlen
    go_enter Try.func20, Try.ntmps20
    go_wp2_with fail
    go_ret
    exact ⟨by rw [HE.out]; rfl, 0, rfl⟩
end Go.Proofs.Ythcjnijggebcaaa
