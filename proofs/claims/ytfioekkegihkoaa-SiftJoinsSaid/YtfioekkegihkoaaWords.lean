/- stepstone/stepstoneref01.Words: the first ones, at most so many; apart. -/
import Derived.Test.YtfioekkegihkoaaGSl
namespace Go.Proofs.Ytfioekkegihkoaa
open Go.RowKit
set_option linter.unusedVariables false
set_option linter.unusedSimpArgs false
theorem words_info : (Try.prog.info? 22).map (fun i => (i.zero, i.size, i.bytes)) = some (some (.int .u64 0), 1, 8) := by kernel_rfl
set_option maxRecDepth 100000 in
set_option maxHeartbeats 1000000 in
theorem words_call (most : Nat) (hm : most ≤ 1000) (l : List Int) (v : Value) (w : World) (h : ISl .u64 w v l) :
    Calls Try.prog 13 #[v, .int .i64 most] w fun e w' => ∃ v', e = .returned v' ∧ WayI .u64 22 w w' v' (min l.length most) (l.take most) := by
  obtain ⟨a, cap, rfl, k1, k2⟩ := h.slice_
  have hwl : Hidden (∀ W : World, Mod [] w W → ISl .u64 W (.slice a l.length cap) l) := ⟨fun W hW => h.mod hW (by simp)⟩
  clear h
  go_enter Try.func13, Try.ntmps13
  go_wp2_with fail
  go_loopw [5, 10] (fun o iv wr => ∃ (j : Nat) (b : Option Addr) (c : Nat), j ≤ l.length ∧ iv = .int .i64 j ∧ o = .slice b (min j most) c ∧ WayI .u64 22 w wr o (min j most) (l.take (min j most))) (fun _ iv _ => l.length - (intOf iv).toNat)
  case atStart => exact ⟨0, none, 0, by omega, rfl, by simp, by simpa using WayI.nil_ (Mod.refl [] w)⟩
  case round =>
    obtain ⟨j, b, c, hj, rfl, rfl, hW⟩ := hrel
    by_cases hlt : j < l.length
    · obtain ⟨g, off, x, rfl, hg, hx, hc⟩ := (hwl.out _ hW.mod).get hlt
      by_cases hjm : j < most
      · have e1 : min j most = j := by omega
        have e2 : Hidden (min (j + 1) most = j + 1) := ⟨by omega⟩
        rw [e1] at hW ⊢
        have hd := Hidden.mk (show icells .u64 (l.take j) ++ [.int .u64 x] = icells .u64 (l.take (j + 1)) from by rw [icells_snoc, List.take_add_one, hx]; rfl)
        have hw2 := Hidden.mk (hW.alloc (.cells #[.int .u64 x] 22))
        have hn1 := Hidden.mk (holds_one wr (.int .u64 x) 22 rfl)
        clear hW hx e1
        go_wp2_with (refine wpList_any rfl (.tmp 18) (.tmp 20) 23 rfl 22 (.int .u64 0) 1 8 (by kernel_rfl) words_info rfl (by decide) _ _ _ rfl hw2.out.row _ _ _ rfl hn1.out (by simp [Value.oneCell']) (by omega) (by omega) ?_; intro b4 c4 w4 hr4 hm4 hf4; have hW4 := Hidden.mk (hw2.out.next hr4 hm4 hf4 hd.out); clear hr4 hm4 hf4 hw2)
        go_roundw
        case rel => exact ⟨j + 1, b4, c4, by omega, by go_num, by rw [e2.out], by rw [e2.out]; exact hW4.out⟩
        case measure => simp [intOf]; omega
      · have e1 : min j most = most := by omega
        have e2 : Hidden (min (j + 1) most = most) := ⟨by omega⟩
        rw [e1] at hW ⊢
        have HW := Hidden.mk hW
        clear hW hx e1
        go_wp2_with fail
        go_roundw
        case rel => exact ⟨j + 1, b, c, by omega, by go_num, by rw [e2.out], by rw [e2.out]; exact HW.out⟩
        case measure => simp [intOf]; omega
    · obtain rfl : j = l.length := by omega
      have HW := Hidden.mk hW
      clear hW hlt
      go_wp2_with fail
      go_ret
      refine ⟨_, rfl, ?_⟩
      have e : l.take (min l.length most) = l.take most := by
        rcases Nat.le_total l.length most with h | h
        · rw [Nat.min_eq_left h, List.take_length, List.take_of_length_le h]
        · rw [Nat.min_eq_right h]
      rw [← e]; exact HW.out
end Go.Proofs.Ytfioekkegihkoaa
