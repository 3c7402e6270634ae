/- sift.Of, sift.First, slices.Equal, sift.Equal. -/
import Derived.Test.YtfioekkegihkoaaSiftB
import Derived.Test.YtfioekkegihkoaaGBuc
namespace Go.Proofs.Ytfioekkegihkoaa
open Go.RowKit Go.Shelf
set_option linter.unusedVariables false
set_option linter.unusedSimpArgs false
set_option maxHeartbeats 1000000 in
theorem equal64 {w : World} {va vb : Value} {a b : List Int} (ha : ISl .u64 w va a) (hb : ISl .u64 w vb b) (hla : a.length ≤ 1000000) (hlb : b.length ≤ 1000000) :
    Calls Try.prog 87 #[va, vb] w fun e w' => e = .returned (.bool (decide (a = b))) ∧ ∃ q, w' = w.drewN q := by
  obtain ⟨pa, ca, rfl, _⟩ := ha.slice_
  obtain ⟨pb, cb, rfl, _⟩ := hb.slice_
  by_cases hlen : a.length = b.length
  · obtain ⟨X, hX⟩ : ∃ X : Nat → Int, ∀ t, X t = a.getD t 0 := ⟨fun t => a.getD t 0, fun _ => rfl⟩
    obtain ⟨Y, hY⟩ : ∃ Y : Nat → Int, ∀ t, Y t = b.getD t 0 := ⟨fun t => b.getD t 0, fun _ => rfl⟩
    have HCA : Hidden (∀ p, p < a.length → ∃ g off, pa = some ⟨g, off, none⟩ ∧ w.cell? ⟨g, off + p, none⟩ = some (.int .u64 (X p))) := ⟨fun p hp => by
      obtain ⟨g, off, x, rfl, _, hx, hc⟩ := ha.get hp
      exact ⟨g, off, rfl, by rw [hc, hX, List.getD_eq_getElem?_getD, hx]; rfl⟩⟩
    have HCB : Hidden (∀ p, p < b.length → ∃ g off, pb = some ⟨g, off, none⟩ ∧ w.cell? ⟨g, off + p, none⟩ = some (.int .u64 (Y p))) := ⟨fun p hp => by
      obtain ⟨g, off, x, rfl, _, hx, hc⟩ := hb.get hp
      exact ⟨g, off, rfl, by rw [hc, hY, List.getD_eq_getElem?_getD, hx]; rfl⟩⟩
    have HD : Hidden ((∀ i, i < a.length → X i = Y i) → a = b) := ⟨fun h => eq_of_get1 hlen (fun i hi => by rw [← hX, ← hY]; exact h i hi)⟩
    have HN : Hidden (∀ i, i < a.length → X i ≠ Y i → ¬ a = b) := ⟨fun i hi hne he => hne (by rw [hX, hY, he])⟩
    rw [← hlen] at hlb HCB ⊢
    clear ha hb hX hY hlen
    generalize hn : a.length = n at *
    have HLN := Hidden.mk hn
    clear hn
    have hbn : ((n : Int) != (n : Int)) = false := by simp
    go_enter Try.func87, Try.ntmps87
    go_wp2_with fail
    go_loopw [5, 13] (fun _ vi wr => ∃ (i q : Nat), i ≤ n ∧ vi = .int .i64 i ∧ wr = w.drewN q ∧ ∀ j, j < i → X j = Y j) (fun _ vi _ => n - (intOf vi).toNat)
    case atStart => exact ⟨0, 0, by omega, rfl, rfl, by omega⟩
    case round =>
      obtain ⟨i, q, hi, rfl, rfl, hall⟩ := hrel
      have HALL := Hidden.mk hall
      clear hall
      by_cases hin : i < n
      · obtain ⟨ga, oa, rfl, hca⟩ := HCA.out i hin
        obtain ⟨gb, ob, rfl, hcb⟩ := HCB.out i hin
        have hca2 : (w.drewN q).cell? ⟨ga, oa + i, none⟩ = some (.int .u64 (X i)) := hca
        have hcb2 : (w.drewN q).cell? ⟨gb, ob + i, none⟩ = some (.int .u64 (Y i)) := hcb
        clear hca hcb
        obtain ⟨W, hW⟩ : ∃ W, w.drewN q = W := ⟨_, rfl⟩
        rw [hW] at hca2 hcb2 ⊢
        have HW := Hidden.mk hW
        clear hW
        by_cases heq : X i = Y i
        · have hbq : (X i != Y i) = false := by simp [heq]
          have HE := Hidden.mk heq
          clear heq
          go_wp2_with fail
          go_quiet (fail)
          go_wp2_with fail
          go_roundw
          case rel => exact ⟨i + 1, q + nq, by omega, by go_num, by rw [← HW.out]; exact drewN_add w q nq, fun j hj => by rcases Nat.lt_or_ge j i with h3 | h3; exact HALL.out j h3; (have : j = i := by omega); subst this; exact HE.out⟩
          case measure => simp [intOf]; omega
        · have hbq : (X i != Y i) = true := by simp [heq]
          have HE : Hidden (decide (a = b) = false) := ⟨decide_eq_false (HN.out i hin heq)⟩
          clear heq
          go_wp2_with fail
          go_quiet (fail)
          go_wp2_with fail
          go_ret
          exact ⟨by rw [HE.out]; rfl, q + nq, by rw [← HW.out]; exact drewN_add w q nq⟩
      · have HE : Hidden (decide (a = b) = true) := ⟨decide_eq_true (HD.out (fun j hj => HALL.out j (by omega)))⟩
        go_wp2_with fail
        go_ret
        exact ⟨by rw [HE.out]; rfl, q, rfl⟩
  · have hbn : ((a.length : Int) != (b.length : Int)) = true := by simp; omega
    have HE : Hidden (decide (a = b) = false) := ⟨decide_eq_false (fun h => hlen (by rw [h]))⟩
    clear ha hb hlen
    go_enter Try.func87, Try.ntmps87
    go_wp2_with fail
    go_ret
    exact ⟨by rw [HE.out]; rfl, 0, rfl⟩
set_option maxRecDepth 100000 in
set_option maxHeartbeats 1000000 in
theorem sift_of {w : World} {v : Value} {l : List Int} (h : ISl .u64 w v l) (hl : l.length ≤ 1000000) :
    Calls Try.prog 22 #[v] w fun e w' => ∃ g lb R, e = .returned (.func (.func g) #[] lb) ∧ SeqL w' (.func (.func g) #[] lb) (asc l) R ∧ Mod [] w w' ∧ ∀ q ∈ R, w.heap.size ≤ q ∧ q < w'.heap.size := by
  have hc := clone64 h (by omega)
  obtain ⟨a, cap, rfl, _⟩ := h.slice_
  have HC := Hidden.mk hc
  clear hc h
  go_enter Try.func22, Try.ntmps22
  go_wp2_with fail
  refine HC.out.mono ?_
  rintro e w1 ⟨v1, rfl, hW⟩
  have HW := Hidden.mk hW
  clear hW
  go_wp2_with fail
  refine (sort64 HW.out.row (by omega)).mono ?_
  rintro e w2 ⟨rfl, hr2, hm2⟩
  have H2 := Hidden.mk (And.intro hr2 hm2)
  clear hr2 hm2
  go_wp2_with fail
  refine (compact64 (l := srt l) (by rw [srt_length]; exact H2.out.1) (by rw [srt_length]; omega)).mono ?_
  rintro e w3 ⟨v3, rfl, hr3, hb3, hm3⟩
  have hWay := wayAsc64 HW.out H2.out.2 hr3 hb3 hm3
  have hI := hWay.row.isl.2
  have H3 := Hidden.mk (And.intro hWay hI)
  have hla := asc_le l
  have HV := Hidden.mk (values_call hI (by omega))
  clear hr3 hb3 hm3 hWay hI
  go_wp2_with fail
  refine HV.out.mono ?_
  rintro e w4 ⟨g, lb, rfl, hS, hm4, hlt⟩
  have H4 := Hidden.mk (And.intro hS (And.intro hm4 hlt))
  clear hS hm4 hlt
  go_wp2_with fail
  go_ret
  refine ⟨g, lb, _, rfl, H4.out.1, H3.out.1.mod.trans H4.out.2.1 (by simp), fun q hq => ⟨?_, H4.out.2.2 q hq⟩⟩
  rcases List.mem_cons.1 hq with rfl | hq
  · exact H3.out.1.mod.size
  · unfold rbl at hq
    split at hq
    · simp at hq
    · exact H3.out.1.ge q hq
theorem sift_equal {w : World} {sa sb : Value} {a b : List Int} {Ra Rb : List Nat} (ha : SeqL w sa a Ra) (hb : SeqL w sb b Rb) (hla : a.length ≤ 1000000) (hlb : b.length ≤ 1000000) :
    Calls Try.prog 38 #[sa, sb] w fun e w' => e = .returned (.bool (decide (a = b))) ∧ Mod [] w w' := by
  have HA := Hidden.mk (sift_keys ha hla)
  have HB := Hidden.mk (fun W (hW : Mod [] w W) => sift_keys (hb.news hW) hlb)
  clear ha hb
  go_enter Try.func38, Try.ntmps38
  go_wp2_with fail
  refine HA.out.mono ?_
  rintro e w1 ⟨v1, rfl, h1, hm1, -⟩
  have H1 := Hidden.mk (And.intro h1 hm1)
  clear h1 hm1 HA
  go_wp2_with fail
  refine (HB.out _ H1.out.2).mono ?_
  rintro e w2 ⟨v2, rfl, h2, hm2, -⟩
  have H2 := Hidden.mk (And.intro h2 (And.intro hm2 (H1.out.1.news hm2)))
  clear h2 hm2 HB
  go_wp2_with fail
  refine (equal64 H2.out.2.2 H2.out.1 hla hlb).mono ?_
  rintro e w3 ⟨rfl, q, rfl⟩
  go_wp2_with fail
  go_ret
  exact ⟨rfl, (H1.out.2.trans H2.out.2.1 (by simp)).drewN q⟩
end Go.Proofs.Ytfioekkegihkoaa
