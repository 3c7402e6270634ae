/- stepstonelaw08: same, awake. -/
import Derived.Test.YthcjnijggebcaaaRuns13
import Derived.Test.YthcjnijggebcaaaSame06
namespace Go.Proofs.Ythcjnijggebcaaa
open Go.RowKit
set_option linter.unusedVariables false
set_option linter.unusedSimpArgs false
set_option maxHeartbeats 1000000 in
theorem same08 {w : World} {v vs : Value} {f : Nat → Bool} (h : LawSt w v vs f) :
    Calls Try.prog 17 #[v, vs] w fun e w' => e = .returned (.bool true) ∧ Mod [] w w' := by
  obtain ⟨l, hl, hf, hs, _⟩ := h
  have hsh := hf.short
  have H1 := Hidden.mk (is_runs hl hf.b16 (by omega))
  have HOK := Hidden.mk (ok_rn.2 hf.rn)
  have H2 := Hidden.mk (fun W (hW : Mod [] w W) => list_runs (hl.news hW) hf.b16 (by omega))
  have H3 := Hidden.mk (fun W (hW : Mod [] w W) => list06 (hs.news hW))
  have HLE := Hidden.mk hf.list
  have HLL : Hidden ((lst f).length ≤ 65536) := ⟨by rw [lst_length]; exact cntN_le Most⟩
  have H5 := Hidden.mk (fun W (hW : Mod [] w W) => len_runs (hl.news hW) hf.b16 (by omega))
  have H6 := Hidden.mk (fun W (hW : Mod [] w W) => len06 (hs.news hW))
  have H7 := Hidden.mk (fun W (hW : Mod [] w W) => runs06 (hs.news hW))
  have HL := Hidden.mk hf.len
  have HR := Hidden.mk hf.runs
  obtain ⟨a, cap, rfl, _⟩ := hl.slice_
  obtain ⟨sb, rfl, _⟩ := hs.at_
  clear hl hf hs
  go_enter Try.func17, Try.ntmps17
  go_wp2_with fail
  refine H1.out.mono ?_
  rintro e w1 ⟨g, rfl, hg, hm1⟩
  obtain rfl : g = true := hg.2 HOK.out
  have HM1 := Hidden.mk hm1
  clear hg hm1 H1
  go_wp2_with fail
  refine (H2.out _ HM1.out).mono ?_
  rintro e w2 ⟨v2, rfl, hW2⟩
  rw [HLE.out] at hW2
  have HM2 := Hidden.mk (HM1.out.trans hW2.mod (by simp))
  have hi2 := hW2.isl.2
  obtain ⟨a2, c2, rfl, _⟩ := hi2.slice_
  have HI2 := Hidden.mk hi2
  clear hW2 hi2 H2 HM1
  go_wp2_with fail
  refine (H3.out _ HM2.out).mono ?_
  rintro e w3 ⟨v3, rfl, hW3⟩
  have HM3 := Hidden.mk (HM2.out.trans hW3.mod (by simp))
  have H4 := Hidden.mk (same06 (HI2.out.news hW3.mod) hW3.isl.2 (by have := HLL.out; omega) (by have := HLL.out; omega))
  obtain ⟨a3, c3, rfl, _⟩ := hW3.isl.2.slice_
  clear hW3 HI2 H3 HM2
  go_wp2_with fail
  refine H4.out.mono ?_
  rintro e w4 ⟨rfl, q, rfl⟩
  have HM4 := Hidden.mk (HM3.out.drewN q)
  have hd : decide True = true := rfl
  rw [hd]
  clear H4 HM3 hd
  go_wp2_with fail
  refine (H5.out _ HM4.out).mono ?_
  rintro e w5 ⟨rfl, hm5⟩
  have HM5 := Hidden.mk (HM4.out.trans hm5 (by simp))
  clear hm5 HM4 H5
  go_wp2_with fail
  refine (H6.out _ HM5.out).mono ?_
  rintro e w6 ⟨rfl, rfl⟩
  rw [HL.out]
  clear H6
  generalize hc : (cntN f Most : Nat) = c at *
  have hcc : ((c : Int) == (c : Int)) = true := by simp
  clear hc
  go_wp2_with fail
  refine (H7.out _ HM5.out).mono ?_
  rintro e w7 ⟨rfl, hm7⟩
  have HM7 := Hidden.mk (HM5.out.trans hm7 (by simp))
  rw [← HR.out]
  clear H7 hm7 HM5
  generalize l.length = n at *
  have hnn : ((n : Int) == (n : Int)) = true := by simp
  go_wp2_with fail
  go_ret
  exact ⟨rfl, HM7.out⟩
theorem srt_self {l : List Int} (h : l.Pairwise (· ≤ ·)) : srt l = l := by
  unfold srt; exact List.mergeSort_of_pairwise (h.imp (fun h => by simpa using h))
theorem aw08_s : rofN (srt [3, 4, 9]) = [(3, 4), (9, 9)] := by rw [srt_self (by decide)]; decide
theorem aw08_a : rfill 5 7 [(3, 4), (9, 9)] = [(3, 7), (9, 9)] := by decide
theorem aw08_b : rwipe 4 4 [(3, 7), (9, 9)] = [(3, 3), (5, 7), (9, 9)] := by decide
set_option maxHeartbeats 1000000 in
theorem awake08 (w : World) : Calls Try.prog 15 #[] w fun e w' => e = .returned (.bool true) ∧ Mod [] w w' := by
  have h1 := Hidden.mk (of_runs (l := [3, 4, 9]) (ISl.of_blk (Blk.new w 24 #[.int .u16 3, .int .u16 4, .int .u16 9]) (by decide)) (by decide) (by decide))
  go_enter Try.func15, Try.ntmps15
  go_wp2_with fail
  refine h1.out.mono ?_
  rintro e w1 ⟨v1, rfl, hW⟩
  rw [aw08_s] at hW
  have hM := Hidden.mk (((Mod.refl [] w).alloc (.cells #[.int .u16 3, .int .u16 4, .int .u16 9] 24)).trans hW.mod (by simp))
  have h2 := Hidden.mk (fill_runs 5 7 (by decide) (by decide) hW.rsl (r16_of (by decide)) (by decide))
  obtain ⟨a1, c1, rfl, _⟩ := hW.slice_
  clear hW h1
  go_wp2_with fail
  refine h2.out.mono ?_
  rintro e w2 ⟨v2, rfl, hW2⟩
  rw [aw08_a] at hW2
  have hM2 := Hidden.mk (hM.out.trans hW2.mod (by simp))
  have h3 := Hidden.mk (wipe_runs 4 4 (by decide) (by decide) hW2.rsl (r16_of (by decide)) (by decide))
  obtain ⟨a2, c2, rfl, _⟩ := hW2.slice_
  obtain ⟨b, off, p, q, rfl, hbl, hx, hc1, hc2⟩ := hW2.rsl.get (i := 0) (by decide)
  simp only [List.getElem?_cons_zero, Option.some.injEq, Prod.mk.injEq] at hx
  obtain ⟨rfl, rfl⟩ := hx
  rw [Nat.zero_mul, Nat.add_zero] at hc1 hc2
  clear hW2 h2 hM
  go_wp2_with fail
  refine h3.out.mono ?_
  rintro e w3 ⟨v3, rfl, hW3⟩
  rw [aw08_b] at hW3
  have hM3 := Hidden.mk (hM2.out.trans hW3.mod (by simp))
  obtain ⟨a3, c3, rfl, _⟩ := hW3.slice_
  clear hW3 h3 hM2
  go_wp2_with fail
  go_ret
  exact ⟨rfl, hM3.out⟩
end Go.Proofs.Ythcjnijggebcaaa
