/- sift.in: what is left of a rising list from a key on; sift.Within. -/
import Derived.Test.YtfioekkegihkoaaSiftD
namespace Go.Proofs.Ytfioekkegihkoaa
open Go.RowKit Go.Shelf
set_option linter.unusedVariables false
set_option linter.unusedSimpArgs false
set_option maxRecDepth 100000 in
set_option maxHeartbeats 1000000 in
theorem sift_in {w : World} {v : Value} {l : List Int} (k : Int) (h : ISl .u64 w v l) (hl : l.length ≤ 1000000) (hs : l.Pairwise (· ≤ ·)) :
    Calls Try.prog 72 #[v, .int .u64 k] w fun e w' => ∃ v', e = .returned (.tuple #[v', .bool (decide (k ∈ l))]) ∧ ISl .u64 w v' (l.drop (rk l k)) ∧ w = w' ∧ ∀ b ∈ rbl v' (l.drop (rk l k)), b ∈ rbl v l := by
  have hb := Hidden.mk (bin64 k h (by omega) hs)
  have hrk := rk_le l k
  rcases Nat.eq_zero_or_pos l.length with h0 | h0
  · obtain rfl := List.eq_nil_of_length_eq_zero h0
    obtain ⟨a, cap, rfl, h1, h2, h3, h4⟩ := h
    have hr : rk [] k = 0 := rfl
    rw [hr] at hb ⊢
    have HE := Hidden.mk (And.intro h2 h3)
    clear h1 h4 hs
    go_enter Try.func72, Try.ntmps72
    go_wp2_with fail
    refine hb.out.mono ?_
    rintro e w1 ⟨rfl, rfl⟩
    clear hb
    cases a with
    | none =>
      obtain rfl := HE.out.2 rfl
      go_wp2_with fail
      go_ret2
      exact ⟨_, rfl, ISl.nil_ _ _, rfl, by simp [rbl]⟩
    | some ad =>
      obtain ⟨ab, ao, asp⟩ := ad
      go_wp2_with fail
      go_ret2
      exact ⟨_, rfl, ⟨_, cap, rfl, Nat.zero_le _, HE.out.1, by simp, .inl rfl⟩, rfl, by simp [rbl]⟩
  · obtain ⟨b, off, cap, rfl, h1, h2, h3, h4⟩ := id (h.at_ h0)
    have HI := Hidden.mk (And.intro h hrk)
    obtain ⟨r, hr⟩ : ∃ r, rk l k = r := ⟨_, rfl⟩
    rw [hr] at hb hrk ⊢
    have r0 : (0 : Int) ≤ (r : Int) := by omega
    have r1 : (r : Int) ≤ (l.length : Int) := by omega
    clear h4 hs hr h
    go_enter Try.func72, Try.ntmps72
    go_wp2_with fail
    refine hb.out.mono ?_
    rintro e w1 ⟨rfl, rfl⟩
    clear hb
    have hrb : ∀ (a : Option Addr) (n c : Nat) (m : List Int), (∃ o, a = some ⟨b, o, none⟩) → ∀ q ∈ rbl (.slice a n c) m, q ∈ rbl (.slice (some ⟨b, off, none⟩) l.length cap) l := by
      rintro a n c m ⟨o, rfl⟩ q hq
      unfold rbl at hq ⊢
      rw [if_neg (by rintro rfl; simp at h0)]
      split at hq
      · simp at hq
      · simpa [rb, Value.ownBlock] using hq
    have HRB := Hidden.mk hrb
    clear hrb
    by_cases hc : cap = r
    · subst hc
      go_wp2_with fail
      go_ret2
      refine ⟨_, rfl, ?_, rfl, HRB.out _ _ _ _ ⟨_, rfl⟩⟩
      have h9 := HI.out.1.tail (i := cap) hrk (some ⟨b, off, none⟩) (by simp)
      rw [Nat.sub_self] at h9
      have e9 : l.length - cap = 0 := by omega
      rw [e9] at h9
      first | exact h9 | (rw [e9]; exact h9)
    · go_wp2_with fail
      go_ret2
      refine ⟨_, rfl, ?_, rfl, HRB.out _ _ _ _ ⟨_, rfl⟩⟩
      exact HI.out.1.drop hrk
set_option maxHeartbeats 1000000 in
theorem sift_rises {w : World} {v : Value} {l : List Int} (h : ISl .u64 w v l) (hl : l.length ≤ 1000000000) :
    Calls Try.prog 41 #[v] w fun e w' => e = .returned (.bool (isr l)) ∧ ∃ q, w' = w.drewN q := by
  obtain ⟨a, cap, rfl, k1, k2⟩ := h.slice_
  have hG : ∃ L : Nat → Int, ∀ t, L t = l.getD t 0 := ⟨fun t => l.getD t 0, fun _ => rfl⟩
  obtain ⟨L, hL⟩ := hG
  have hc : Hidden (∀ p, p < l.length → ∃ b off, a = some ⟨b, off, none⟩ ∧ ∀ q, q < l.length → w.cell? ⟨b, off + q, none⟩ = some (.int .u64 (L q))) := ⟨fun p hp => by
    obtain ⟨b, off, x, rfl, _, _, _⟩ := h.get hp
    refine ⟨b, off, rfl, fun q hq => ?_⟩
    obtain ⟨b', off', x, he, _, hx, hcell⟩ := h.get hq
    injection he with he
    injection he with e1 e2
    subst e1 e2
    rw [hcell, hL, List.getD_eq_getElem?_getD, hx]; rfl⟩
  have HL := Hidden.mk hL
  clear h hL
  generalize hn : l.length = n at *
  have HN := Hidden.mk hn
  clear hn
  go_enter Try.func41, Try.ntmps41
  go_wp2_with fail
  go_loopw [3, 6] (fun _ vi wr => ∃ (i q : Nat), vi = .int .i64 i ∧ i ≤ n ∧ wr = w.drewN q ∧ ∀ p, p < i → 0 < p → L (p - 1) < L p) (fun _ vi _ => n - (intOf vi).toNat)
  case atStart => exact ⟨0, 0, rfl, by omega, rfl, by omega⟩
  case round =>
    obtain ⟨i, q, rfl, hi, rfl, hrise⟩ := hrel
    have HR := Hidden.mk hrise
    clear hrise
    by_cases hin : i < n
    · obtain ⟨b, off, rfl, hcell⟩ := hc.out i hin
      have hcell2 : ∀ t, t < n → (w.drewN q).cell? ⟨b, off + t, none⟩ = some (.int .u64 (L t)) := hcell
      clear hcell
      obtain ⟨W, hW⟩ : ∃ W, w.drewN q = W := ⟨_, rfl⟩
      rw [hW] at hcell2 ⊢
      have HW := Hidden.mk hW
      clear hW
      rcases Nat.eq_zero_or_pos i with h0 | h0
      · subst h0
        have hz : decide ((0 : Int) < ((0 : Nat) : Int)) = false := rfl
        clear hcell2
        go_wp2_with fail
        go_quiet (fail)
        go_wp2_with fail
        go_roundw
        case rel => exact ⟨1, q + nq, rfl, by omega, by rw [← HW.out]; exact drewN_add w q nq, by omega⟩
        case measure => simp [intOf]; omega
      · have hz : (0 : Int) < (i : Int) := by omega
        have hzd : decide (0 < i) = true := decide_eq_true h0
        have c1 := hcell2 i hin
        have c2 := hcell2 (i - 1) (by omega)
        clear hcell2
        by_cases hle : L i ≤ L (i - 1)
        · have HE : Hidden (isr l = false) := ⟨by
            unfold isr
            rw [decide_eq_false_iff_not]
            intro h
            have := h i (by rw [HN.out]; exact hin) h0
            rw [← HL.out, ← HL.out] at this
            omega⟩
          go_wp2_with fail
          go_quiet (fail)
          go_wp2_with fail
          go_ret
          exact ⟨by rw [HE.out]; rfl, q + nq, by rw [← HW.out]; exact drewN_add w q nq⟩
        · go_wp2_with fail
          go_quiet (fail)
          go_wp2_with fail
          go_roundw
          case rel =>
            refine ⟨i + 1, q + nq, by go_num, by omega, by rw [← HW.out]; exact drewN_add w q nq, fun p hp hp0 => ?_⟩
            rcases Nat.lt_or_ge p i with h1 | h1
            · exact HR.out p h1 hp0
            · have : p = i := by omega
              subst this; omega
          case measure => simp [intOf]; omega
    · have HE : Hidden (isr l = true) := ⟨by
        unfold isr
        rw [decide_eq_true_iff]
        intro p hp hp0
        rw [← HL.out, ← HL.out]
        exact HR.out p (by rw [HN.out] at hp; omega) hp0⟩
      go_wp2_with fail
      go_ret
      exact ⟨by rw [HE.out]; rfl, q, rfl⟩
end Go.Proofs.Ytfioekkegihkoaa
