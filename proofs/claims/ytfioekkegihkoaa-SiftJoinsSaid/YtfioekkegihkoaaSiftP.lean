/- stepstonelaw18: awake. -/
import Derived.Test.YtfioekkegihkoaaSiftO
namespace Go.Proofs.Ytfioekkegihkoaa
open Go.RowKit Go.Shelf
set_option linter.unusedVariables false
set_option linter.unusedSimpArgs false
theorem asc_id {l : List Int} (h : l.Pairwise (· < ·)) : asc l = l := rise_ext (asc_rises _) h (fun z => asc_mem)
theorem asc77 : asc [7, 7] = [7] := rise_ext (asc_rises _) (by simp) (fun z => by rw [asc_mem]; simp)
theorem or125 : orF [asc [1, 5], asc [2, 5]] = [1, 2, 5] := by
  rw [asc_id (by simp), asc_id (by simp), orF_two, twoL_lt (by decide), twoL_gt (by decide), twoL_eq rfl]
  simp [twoL]
theorem seq_of_blk {w : World} {b : Nat} {l : List Int} {cs : Array Value} (h : Blk w b 22 cs) (hc : cs = (icells .u64 l).toArray) (hl : l.length ≤ 1000000) : ISl .u64 w (.slice (some ⟨b, 0, none⟩) l.length l.length) l := ISl.of_blk (hc ▸ h) hl
set_option maxRecDepth 100000 in
set_option maxHeartbeats 2000000 in
theorem awake18 (w : World) : Calls Try.prog 21 #[] w fun e w' => e = .returned (.bool true) ∧ Mod [] w w' := by
  go_enter Try.func21, Try.ntmps21
  go_wp2_with fail
  refine (sift_of (l := [1, 5]) (seq_of_blk (Blk.new w 22 #[.int .u64 1, .int .u64 5]) rfl (by simp)) (by simp)).mono ?_
  rintro e w1 ⟨g1, b1, R1, rfl, h1, hm1, hr1⟩
  have M1 : Mod [] w w1 := ((Mod.refl [] w).alloc _).trans hm1 (by simp)
  have H1 := Hidden.mk (And.intro h1 (And.intro M1 hr1))
  clear h1 hm1 hr1 M1
  go_wp2_with fail
  refine (sift_of (l := [2, 5]) (seq_of_blk (Blk.new w1 22 #[.int .u64 2, .int .u64 5]) rfl (by simp)) (by simp)).mono ?_
  rintro e w2 ⟨g2, b2, R2, rfl, h2, hm2, hr2⟩
  have M2 : Mod [] w1 w2 := ((Mod.refl [] w1).alloc _).trans hm2 (by simp)
  have hm3 : Mod [] w2 (w2.alloc (.cells #[.func (.func g1) #[] b1, .func (.func g2) #[] b2] 43)) := (Mod.refl [] w2).alloc _
  have hR : ∀ q ∈ w2.heap.size :: (R1 ++ R2), q < (w2.alloc (.cells #[.func (.func g1) #[] b1, .func (.func g2) #[] b2] 43)).heap.size := fun q hq => by
    simp only [List.mem_cons, List.mem_append] at hq
    have e1 : (w2.alloc (.cells #[.func (.func g1) #[] b1, .func (.func g2) #[] b2] 43)).heap.size = w2.heap.size + 1 := by simp
    rw [e1]
    rcases hq with rfl | hq | hq
    · omega
    · have := (H1.out.2.2 q hq).2; have := M2.size; omega
    · have := (hr2 q hq).2; omega
  have HL := LSeq.two (Blk.new w2 43 #[.func (.func g1) #[] b1, .func (.func g2) #[] b2]) ((H1.out.1.news M2).news hm3) (h2.news hm3)
  have H2 := Hidden.mk (or_call HL hR (fun l hl => by
    simp only [List.mem_cons, List.not_mem_nil, or_false] at hl
    rcases hl with rfl | rfl
    · have := asc_le [1, 5]; simp at this; omega
    · have := asc_le [2, 5]; simp at this; omega) (by simp))
  have HM2 := Hidden.mk (H1.out.2.1.trans (M2.trans hm3 (by simp)) (by simp))
  clear h2 hm2 hr2 M2 hm3 hR HL
  go_wp2_with fail
  refine H2.out.mono ?_
  rintro e w3 ⟨g3, b3, R3, rfl, h3, hm3, hr3⟩
  rw [or125] at h3
  have H3 := Hidden.mk (And.intro h3 (HM2.out.trans hm3 (by simp)))
  clear h3 hm3 hr3 H2
  go_wp2_with fail
  refine (sift_first H3.out.1 (by simp) 9 (by omega)).mono ?_
  rintro e w4 ⟨v4, rfl, h4, hm4, -⟩
  obtain ⟨p4, k4, rfl, -⟩ := h4.slice_
  have H4 := Hidden.mk (And.intro h4 (H3.out.2.trans hm4 (by simp)))
  clear h4 hm4
  simp only [show ([1, 2, 5] : List Int).take (9 : Int).toNat = [1, 2, 5] from rfl, List.length_cons, List.length_nil, Nat.zero_add, Nat.reduceAdd] at H4 ⊢
  go_wp2_with fail
  have h5 := seq_of_blk (l := [1, 2, 5]) (Blk.new w4 22 #[.int .u64 1, .int .u64 2, .int .u64 5]) rfl (by simp)
  refine (same01 (H4.out.1.alloc _) h5 (by simp) (by simp)).mono ?_
  rintro e w5 ⟨rfl, q5, rfl⟩
  have H5 : Hidden (Mod [] w ((w4.alloc (.cells #[.int .u64 1, .int .u64 2, .int .u64 5] 22)).drewN q5)) := ⟨(H4.out.2.alloc _).drewN q5⟩
  obtain ⟨w5, hw5⟩ : ∃ w5, (w4.alloc (.cells #[.int .u64 1, .int .u64 2, .int .u64 5] 22)).drewN q5 = w5 := ⟨_, rfl⟩
  rw [hw5] at H5 ⊢
  clear hw5 h5
  rw [decide_eq_true rfl]
  go_wp2_with fail
  refine (sift_of (l := [7, 7]) (seq_of_blk (Blk.new w5 22 #[.int .u64 7, .int .u64 7]) rfl (by simp)) (by simp)).mono ?_
  rintro e w6 ⟨g6, b6, R6, rfl, h6, hm6, hr6⟩
  rw [asc77] at h6
  have H6 := Hidden.mk (And.intro h6 (H5.out.trans (((Mod.refl [] w5).alloc _).trans hm6 (by simp)) (by simp)))
  clear h6 hm6 hr6
  go_wp2_with fail
  refine (sift_count H6.out.1 (by simp)).mono ?_
  rintro e w7 ⟨rfl, hm7⟩
  have H7 := Hidden.mk (H6.out.2.trans hm7 (by simp))
  clear hm7
  go_wp2_with fail
  go_ret
  exact ⟨rfl, H7.out⟩
end Go.Proofs.Ytfioekkegihkoaa
