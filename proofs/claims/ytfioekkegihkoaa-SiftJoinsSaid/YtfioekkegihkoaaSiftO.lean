/- sift.Within; stepstonelaw18: has, told. -/
import Derived.Test.YtfioekkegihkoaaSiftN
import Derived.Test.YtfioekkegihkoaaGRef11
import Derived.Test.YtfioekkegihkoaaPickP
namespace Go.Proofs.Ytfioekkegihkoaa
open Go.RowKit Go.Shelf
set_option linter.unusedVariables false
set_option linter.unusedSimpArgs false
set_option maxRecDepth 100000 in
set_option maxHeartbeats 1000000 in
theorem within_call {w : World} {sa sb : Value} {a b : List Int} {Ra Rb : List Nat} (ha : SeqL w sa a Ra) (hb : SeqL w sb b Rb) (hRa : ∀ q ∈ Ra, q < w.heap.size) (hRb : ∀ q ∈ Rb, q < w.heap.size)
    (hla : a.length ≤ 1000000) (hlb : b.length ≤ 1000000) (sa' : a.Pairwise (· < ·)) (sb' : b.Pairwise (· < ·)) :
    Calls Try.prog 39 #[sa, sb] w fun e w' => e = .returned (.bool (decide (lessL a b = []))) ∧ Mod [] w w' := by
  have H0 := Hidden.mk (less_call ha hb hRa hRb hla hlb sa' sb')
  have hle := lessL_le a b
  obtain ⟨L, hL⟩ : ∃ L, lessL a b = L := ⟨_, rfl⟩
  rw [hL] at H0 hle ⊢
  have hl1 : L.length ≤ 1000000 := by omega
  clear ha hb hRa hRb hla hlb sa' sb' hL hle
  obtain ⟨z, hz⟩ : ∃ z : Int, (L.length : Int) = z := ⟨_, rfl⟩
  have hd : Hidden (decide (L = []) = (z == 0)) := ⟨by
    rw [← hz]
    cases L with
    | nil => simp
    | cons x L => simp; omega⟩
  have HZ := Hidden.mk hz
  clear hz
  go_enter Try.func39, Try.ntmps39
  go_wp2_with fail
  refine H0.out.mono ?_
  rintro e w1 ⟨g, lb, R, rfl, h1, hm1, hr1⟩
  have H1 := Hidden.mk (And.intro h1 hm1)
  clear h1 hm1 hr1 H0
  go_wp2_with fail
  refine (sift_count H1.out.1 hl1).mono ?_
  rintro e w2 ⟨rfl, hm2⟩
  rw [HZ.out]
  have H2 := Hidden.mk hm2
  clear hm2
  go_wp2_with fail
  go_ret
  exact ⟨by rw [hd.out]; rfl, H1.out.2.trans H2.out (by simp)⟩
set_option maxHeartbeats 1000000 in
theorem has18 {w : World} {v : Value} {l : List Int} (t : Int) (h : ISl .u64 w v l) (hl : l.length ≤ 1000000000) (hs : l.Pairwise (· ≤ ·)) :
    Calls Try.prog 23 #[v, .int .u64 t] w fun e w' => e = .returned (.bool (decide (t ∈ l))) ∧ Mod [] w w' := by
  have HF := Hidden.mk (find11 t h hl hs)
  obtain ⟨a, cap, rfl, -⟩ := h.slice_
  clear h
  go_enter Try.func23, Try.ntmps23
  go_wp2_with fail
  refine HF.out.mono ?_
  rintro e w1 ⟨rfl, q, rfl⟩
  have HM : Hidden (Mod [] w (w.drewN q)) := ⟨(Mod.refl [] w).drewN q⟩
  clear HF
  go_wp2_with fail
  go_ret
  exact ⟨rfl, HM.out⟩
theorem take_clip (m : List Int) (n : Int) : m.take n.toNat = if n < m.length then m.take (max n 0).toNat else m := by
  split
  · congr 1; omega
  · exact List.take_of_length_le (by omega)
set_option maxRecDepth 100000 in
set_option maxHeartbeats 4000000 in
theorem told18 {w : World} {sv v : Value} {l m : List Int} {R : List Nat} {n : Int} (h : SeqL w sv l R) (hl : l.length ≤ 1000) (hm : ISl .u64 w v m) (hml : m.length ≤ 1000) (hn : n ≤ 9223372036854775807) :
    Calls Try.prog 24 #[sv, v, .int .i64 n] w fun e w' => e = .returned (.bool (decide (l = m))) ∧ Mod [] w w' := by
  obtain ⟨pm, km, rfl, hk1, hk2⟩ := hm.slice_
  have H0 := Hidden.mk (And.intro h (And.intro hn (And.intro hl hml)))
  have HM := Hidden.mk hm
  by_cases hlt : n < (m.length : Int)
  · obtain ⟨K, hK⟩ : ∃ K : Nat, max n 0 = (K : Int) := ⟨(max n 0).toNat, by omega⟩
    have hKm : K ≤ m.length := by omega
    have HF := Hidden.mk (hm.take hKm)
    have hfl : Hidden ((m.take K).length ≤ m.length) := ⟨by rw [List.length_take]; omega⟩
    have hfew : Hidden (m.take n.toNat = m.take K) := ⟨by congr 1; omega⟩
    have hd1 : decide (n < (m.length : Int)) = true := decide_eq_true hlt
    have hk0 : (0 : Int) ≤ (K : Int) := by omega
    have hk3 : (K : Int) ≤ (km : Int) := by omega
    clear h hm hl hml hn hKm hk1 hk2
    go_enter Try.func24, Try.ntmps24
    go_wp2_with fail
    refine (sift_first H0.out.1 (by have := H0.out.2.2.1; omega) 100000 (by omega)).mono ?_
    rintro e w1 ⟨v1, rfl, h1, hm1, -⟩
    rw [show l.take (100000 : Int).toNat = l from List.take_of_length_le (by have := H0.out.2.2.1; show l.length ≤ 100000; omega)] at h1
    have H1 := Hidden.mk (And.intro h1 hm1)
    clear h1 hm1
    go_wp2_with fail
    refine (same01 H1.out.1 (HM.out.news H1.out.2) (by have := H0.out.2.2.1; omega) (by have := H0.out.2.2.2; omega)).mono ?_
    rintro e w2 ⟨rfl, q2, rfl⟩
    have H2 : Hidden (Mod [] w (w1.drewN q2)) := ⟨H1.out.2.drewN q2⟩
    by_cases hd : l = m
    · rw [decide_eq_true hd]
      have HD := Hidden.mk hd
      clear hd
      go_wp2_with fail
      refine (sift_first (H0.out.1.news H2.out) (by have := H0.out.2.2.1; omega) n H0.out.2.1).mono ?_
      rintro e w3 ⟨v3, rfl, h3, hm3, -⟩
      have H3 := Hidden.mk (And.intro h3 (H2.out.trans hm3 (by simp)))
      clear h3 hm3
      go_wp2_with fail
      refine (same01 H3.out.1 (HF.out.news H3.out.2) (by have h9 := H0.out.2.2.1; rw [List.length_take]; omega) (by have h9 := H0.out.2.2.2; have h8 := hfl.out; omega)).mono ?_
      rintro e w4 ⟨rfl, q4, rfl⟩
      have H4 : Hidden (Mod [] w (w3.drewN q4)) := ⟨H3.out.2.drewN q4⟩
      rw [decide_eq_true (show l.take n.toNat = m.take K from by rw [HD.out]; exact hfew.out)]
      go_wp2_with fail
      refine (sift_count (H0.out.1.news H4.out) (by have := H0.out.2.2.1; omega)).mono ?_
      rintro e w5 ⟨rfl, hm5⟩
      have H5 := Hidden.mk (H4.out.trans hm5 (by simp))
      have heq : ((l.length : Int) == (m.length : Int)) = true := by rw [HD.out]; simp
      clear hm5
      go_wp2_with fail
      go_ret
      exact ⟨by rw [decide_eq_true HD.out]; rfl, H5.out⟩
    · rw [decide_eq_false hd]
      have HD := Hidden.mk hd
      clear hd
      go_wp2_with fail
      go_ret
      exact ⟨by rw [decide_eq_false HD.out]; rfl, H2.out⟩
  · have HF := Hidden.mk hm
    have hfl : Hidden (m.length ≤ m.length) := ⟨Nat.le_refl _⟩
    have hfew : Hidden (m.take n.toNat = m) := ⟨List.take_of_length_le (by omega)⟩
    have hd1 : decide (n < (m.length : Int)) = false := decide_eq_false hlt
    clear h hm hl hml hn hk1 hk2
    go_enter Try.func24, Try.ntmps24
    go_wp2_with fail
    refine (sift_first H0.out.1 (by have := H0.out.2.2.1; omega) 100000 (by omega)).mono ?_
    rintro e w1 ⟨v1, rfl, h1, hm1, -⟩
    rw [show l.take (100000 : Int).toNat = l from List.take_of_length_le (by have := H0.out.2.2.1; show l.length ≤ 100000; omega)] at h1
    have H1 := Hidden.mk (And.intro h1 hm1)
    clear h1 hm1
    go_wp2_with fail
    refine (same01 H1.out.1 (HM.out.news H1.out.2) (by have := H0.out.2.2.1; omega) (by have := H0.out.2.2.2; omega)).mono ?_
    rintro e w2 ⟨rfl, q2, rfl⟩
    have H2 : Hidden (Mod [] w (w1.drewN q2)) := ⟨H1.out.2.drewN q2⟩
    by_cases hd : l = m
    · rw [decide_eq_true hd]
      have HD := Hidden.mk hd
      clear hd
      go_wp2_with fail
      refine (sift_first (H0.out.1.news H2.out) (by have := H0.out.2.2.1; omega) n H0.out.2.1).mono ?_
      rintro e w3 ⟨v3, rfl, h3, hm3, -⟩
      have H3 := Hidden.mk (And.intro h3 (H2.out.trans hm3 (by simp)))
      clear h3 hm3
      go_wp2_with fail
      refine (same01 H3.out.1 (HF.out.news H3.out.2) (by have h9 := H0.out.2.2.1; rw [List.length_take]; omega) (by have h9 := H0.out.2.2.2; have h8 := hfl.out; omega)).mono ?_
      rintro e w4 ⟨rfl, q4, rfl⟩
      have H4 : Hidden (Mod [] w (w3.drewN q4)) := ⟨H3.out.2.drewN q4⟩
      rw [decide_eq_true (show l.take n.toNat = m from by rw [HD.out]; exact hfew.out)]
      go_wp2_with fail
      refine (sift_count (H0.out.1.news H4.out) (by have := H0.out.2.2.1; omega)).mono ?_
      rintro e w5 ⟨rfl, hm5⟩
      have H5 := Hidden.mk (H4.out.trans hm5 (by simp))
      have heq : ((l.length : Int) == (m.length : Int)) = true := by rw [HD.out]; simp
      clear hm5
      go_wp2_with fail
      go_ret
      exact ⟨by rw [decide_eq_true HD.out]; rfl, H5.out⟩
    · rw [decide_eq_false hd]
      have HD := Hidden.mk hd
      clear hd
      go_wp2_with fail
      go_ret
      exact ⟨by rw [decide_eq_false HD.out]; rfl, H2.out⟩
end Go.Proofs.Ytfioekkegihkoaa
