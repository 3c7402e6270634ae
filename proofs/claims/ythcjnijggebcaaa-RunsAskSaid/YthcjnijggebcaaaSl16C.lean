/- slices.Grow (of nil), Concat at uint16. -/
import Derived.Test.YthcjnijggebcaaaSl16A
import Derived.Test.YthcjnijggebcaaaLSl
namespace Go.Proofs.Ythcjnijggebcaaa
open Go.RowKit
set_option linter.unusedVariables false
set_option linter.unusedSimpArgs false

set_option maxHeartbeats 1000000 in
theorem grow16 {w : World} (m : Nat) (hm : m ≤ 1000000000) :
    Calls Try.prog 105 #[.slice none 0 0, .int .i64 m] w fun e w' => ∃ v', e = .returned v' ∧ WayI .u16 24 w w' v' 0 [] := by
  rcases Nat.eq_zero_or_pos m with rfl | hpos
  · go_enter Try.func105, Try.ntmps105
    go_wp2
    go_ret
    exact ⟨_, rfl, WayI.nil_ (Mod.refl [] w)⟩
  · go_enter Try.func105, Try.ntmps105
    go_wp2_with (refine wpList_append_zeros rfl (.tmp 20) (.tmp 21) 22 3 rfl 24 .u16 .i64 2 Try.underlying22 Try.underlying3 info16 m rfl rfl hpos (by omega) (by omega) ?_; intro cap w1 hm1 hb1 hc1 hc2; have HM := Hidden.mk (And.intro hm1 hb1); clear hm1 hb1)
    go_ret
    obtain ⟨hm1, cs, hb1, hcs⟩ := HM.out
    refine ⟨_, rfl, ⟨by simp [icells], .inr ⟨w.heap.size, cap, cs, rfl, Nat.zero_le _, hb1, Nat.zero_le _, by unfold maxLen; omega, by simpa using hcs, by simp [icells]⟩⟩, hm1, fun b hb => ?_⟩
    simp [rb, Value.ownBlock] at hb
    omega
set_option maxHeartbeats 2000000 in
theorem concat16 {w : World} {v : Value} {ls : List (List Int)} (h : LSl .u16 w v ls) (hl : flen ls ≤ 1000000) (hl2 : ls.length ≤ 1000000) :
    Calls Try.prog 93 #[v] w fun e w' => ∃ v', e = .returned v' ∧ WayI .u16 24 w w' v' (flen ls) ls.flatten := by
  obtain ⟨a, cap, rfl, k1, k2⟩ := h.slice_
  have hg := fun i (hi : i < ls.length) => h.get hi
  have HG := Hidden.mk hg
  clear hg h
  generalize hn : ls.length = n at *
  have HN := Hidden.mk hn
  clear hn
  go_enter Try.func93, Try.ntmps93
  go_wp2_with fail
  go_loop [3, 5, 11] (fun vs _ vi => ∃ i : Nat, i ≤ n ∧ vi = .int .i64 i ∧ vs = .int .i64 (flen (ls.take i) : Nat)) (fun _ _ vi => n - (intOf vi).toNat)
  case atStart => exact ⟨0, by omega, rfl, rfl⟩
  case round =>
    obtain ⟨i, hi, rfl, rfl⟩ := hrel
    by_cases hin : i < n
    · obtain ⟨sb, so, u, l, rfl, hb, hli, hc, hu⟩ := HG.out i hin
      obtain ⟨ua, uc, rfl, _⟩ := hu.slice_
      have hs := flatten_take hli
      have hle := flatten_le ls (i + 1)
      have HS := Hidden.mk hs
      have h1 : flen (ls.take i) + l.length ≤ 1000000 := by rw [← hs]; omega
      clear hs hle hu
      generalize flen (ls.take i) = s0 at HS h1
      go_wp2_with fail
      go_round
      case rel => exact ⟨i + 1, by omega, by go_num, by rw [HS.out]; go_num⟩
      case measure => simp [intOf]; omega
    · have e : i = n := by omega
      subst e
      have hg := @grow16
      have e2 : flen (ls.take i) = flen ls := by rw [← HN.out, List.take_length]
      rw [e2]
      go_wp2_with fail
      refine (grow16 _ (by omega)).mono ?_
      rintro e w1 ⟨v1, rfl, hW⟩
      have HW := Hidden.mk hW
      clear hW e2 hg
      obtain ⟨wo, hwo⟩ : ∃ wo : World, wo = w := ⟨_, rfl⟩
      go_wp2_with fail
      go_loopw [6, 8, 27] (fun vo _ vi wr => ∃ j : Nat, j ≤ i ∧ vi = .int .i64 j ∧ WayI .u16 24 w wr vo (flen (ls.take j)) (ls.take j).flatten) (fun _ _ vi _ => i - (intOf vi).toNat)
      case atStart => exact ⟨0, by omega, rfl, HW.out⟩
      case round =>
        obtain ⟨j, hj, rfl, hW⟩ := hrel
        by_cases hji : j < i
        · obtain ⟨sb, so, u, l, rfl, hb, hlj, hc, hu⟩ := HG.out j hji
          have hc2 : wr.cell? ⟨sb, so + j, none⟩ = some u := (Below.cell (p := ⟨sb, so + j, none⟩) hW.mod.below' hb).trans hc
          have hh := Hidden.mk ((hu.mod hW.mod (fun _ _ => List.not_mem_nil)).holds)
          have h1 := Hidden.mk (icells_one .u16 l)
          have hs := flatten_take hlj
          have hle := flatten_le ls (j + 1)
          have hs2 := flatten_take2 hlj
          have h3 : flen (ls.take j) + l.length ≤ 1000000 := by rw [← hs]; omega
          have HW2 := Hidden.mk hW
          have HS := Hidden.mk (And.intro hs hs2)
          clear hW hs hs2 hle hu hc
          have hd := Hidden.mk (show icells .u16 (ls.take j).flatten ++ icells .u16 l = icells .u16 (ls.take (j + 1)).flatten from by rw [HS.out.2]; simp [icells])
          generalize flen (ls.take j) = f1 at HS h3 HW2 ⊢
          generalize (ls.take j).flatten = f0 at HS HW2 hd
          go_wp2_with (refine wpList_any rfl (.tmp 31) (.tmp 32) 22 rfl 24 (.int .u16 0) 1 2 (by kernel_rfl) info16 rfl (by decide) _ _ _ rfl HW2.out.row _ _ _ rfl hh.out h1.out (by omega) (by omega) ?_; intro b4 c4 w4 hr4 hm4 hf4; have hW4 := Hidden.mk (HW2.out.next hr4 hm4 hf4 hd.out); clear hr4 hm4 hf4)
          go_roundw
          case rel => exact ⟨j + 1, by omega, by go_num, by rw [HS.out.1]; exact hW4.out⟩
          case measure => simp [intOf]; omega
        · have e : j = i := by omega
          subst e
          have HW2 := Hidden.mk hW
          clear hW
          go_wp2_with fail
          go_ret
          have e2 : ls.take j = ls := by rw [← HN.out, List.take_length]
          exact ⟨_, rfl, by have := HW2.out; rwa [e2] at this⟩
end Go.Proofs.Ythcjnijggebcaaa
