/- Slots: the laws' example, the walk of SlotsNil. -/
import Derived.Test.YtnbanbfnabhjjaaSlots2
import Derived.OpenShut
namespace Go.Proofs.Ytnbanbfnabhjjaa
open Go.RowKit
set_option linter.unusedVariables false
set_option linter.unusedSimpArgs false

set_option maxRecDepth 100000 in
set_option maxHeartbeats 1000000 in
theorem awake22 (B : Nat) (w : World) (hB : B ≤ w.heap.size) :
    Calls Try.prog 56 #[] w fun e w' => e = .returned (.bool true) ∧ Below B w w' := by
  have hk : U64 5 := ⟨by decide⟩
  go_enter Try.func56, Try.ntmps56
  go_wp2_with fail
  refine (slots_new 1 9 (by omega) w).mono ?_; rintro e w1 ⟨sb, rfl, hS⟩
  go_wp2_with fail
  refine (slots_put_new 5 7 hk hS rfl (by omega)).mono ?_; clear hS; rintro e w2 ⟨rfl, hS⟩
  have h1 := slots_get 5 hk hS
  rw [show fput (fun _ => none) 5 7 5 = some 7 from rfl] at h1
  simp only [Option.getD_some, Option.isSome_some] at h1
  go_wp2_with fail
  refine h1.mono ?_; clear h1 hS; rintro e w3 ⟨rfl, hS⟩
  have h1 := slots_drop 5 hk hS
  rw [show fput (fun _ => none) 5 7 5 = some 7 from rfl] at h1
  simp only [Option.isSome_some, if_true] at h1
  go_wp2_with fail
  refine h1.mono ?_; clear h1 hS; rintro e w4 ⟨rfl, hS⟩
  have h1 := slots_get 5 hk hS
  rw [show fdrop (fput (fun _ => none) 5 7) 5 5 = none from rfl] at h1
  simp only [Option.getD_none, Option.isSome_none] at h1
  go_wp2_with fail
  refine h1.mono ?_; clear h1 hS; rintro e w5 ⟨rfl, hS⟩
  have HS := Hidden.mk hS
  clear hS
  go_wp2_with fail
  go_ret
  exact ⟨rfl, HS.out.keep.below hB (fun k hk => Nat.le_trans hB hk)⟩

set_option maxHeartbeats 1000000 in
theorem slots_gets_nil1 (b : Nat) (k : Int) (w : World) (hc : w.cell? ⟨b, 0, none⟩ = some (.int .u64 k)) :
    Calls Try.prog 68 #[.pointer none, .slice (some ⟨b, 0, none⟩) 1 1] w fun e w' => e = .returned (.slice none 0 0) ∧ w = w' := by
  go_enter Try.func68, Try.ntmps68
  go_wp2_with fail
  go_loopw [5, 12] (fun o iv wr => wr = w ∧ o = .slice none 0 0 ∧ ∃ i : Nat, i ≤ 1 ∧ iv = .int .i64 i) (fun _ iv _ => 1 - (intOf iv).toNat)
  case atStart => exact ⟨rfl, rfl, 0, by omega, rfl⟩
  case round =>
    obtain ⟨rfl, rfl, i, hi, rfl⟩ := hrel
    by_cases hlt : i < 1
    · obtain rfl : i = 0 := by omega
      go_wp2_with fail
      refine (slots_get_nil _ _).mono ?_; rintro e w2 ⟨rfl, rfl⟩
      go_wp2_with fail
      go_roundw
      case rel => exact ⟨by trivial, by trivial, 1, by omega, by go_num⟩
      case measure => simp [intOf]
    · obtain rfl : i = 1 := by omega
      go_wp2_with fail
      go_ret
      exact ⟨rfl, rfl⟩

set_option maxRecDepth 100000 in
set_option maxHeartbeats 2000000 in
theorem slotsNil_walk (a0 a1 a2 a3 : Int) (w0 : (Lit.int .u64 a0).wf = true) (w1 : (Lit.int .u64 a1).wf = true) (w2 : (Lit.int .u64 a2).wf = true) (w3 : (Lit.int .i64 a3).wf = true) (w : World) :
    Calls Try.prog 11 #[.int .u64 a0, .int .u64 a1, .int .u64 a2, .int .i64 a3] w fun e w' => e = .returned (.bool true) ∧ Below w.heap.size w w' := by
  have hend : ∀ (W : World), Below w.heap.size w W → ∀ W' : World, Mod [] W W' → Below w.heap.size w W' := fun W h W' hm => h.trans (hm.below h.size (by simp))
  by_cases hr : 0 ≤ a3 ∧ a3 ≤ 1048576
  · obtain ⟨l, rfl⟩ : ∃ l : Nat, a3 = l := ⟨a3.toNat, by omega⟩
    have hl : l ≤ 1048576 := by omega
    clear hr
    go_enter Try.func11, Try.ntmps11
    go_wp2_with fail
    refine (awake22 w.heap.size w (Nat.le_refl _)).mono ?_; rintro e w1 ⟨rfl, hB⟩
    go_wp2_with fail
    refine (slots_new a0 l hl w1).mono ?_; rintro e w2 ⟨sb, rfl, hS⟩
    have hB2 : Below w.heap.size w w2 := hB.trans (hS.keep.below hB.size (fun k hk => Nat.le_trans hB.size hk))
    clear hS hB
    go_wp2_with fail
    refine (slots_put_nil _ _ _).mono ?_; rintro e w3 ⟨rfl, rfl⟩
    go_wp2_with fail
    refine (slots_get_nil _ _).mono ?_; rintro e w3 ⟨rfl, rfl⟩
    go_wp2_with fail
    refine (slots_clear_nil _).mono ?_; rintro e w3 ⟨rfl, rfl⟩
    go_wp2_with fail
    refine (slots_drop_nil _ _).mono ?_; rintro e w3 ⟨rfl, rfl⟩
    go_wp2_with fail
    refine (slots_len_nil _).mono ?_; rintro e w3 ⟨rfl, rfl⟩
    go_wp2_with fail
    refine (slots_room_nil _ _).mono ?_; rintro e w3 ⟨rfl, hm⟩
    have hB3 := hend _ hB2 _ hm
    clear hm hB2
    go_wp2_with fail
    refine (slots_gets_nil1 _ a1 _ ?_).mono ?_
    · simp
    rintro e w4 ⟨rfl, hw4⟩
    have hB4 := hend _ hB3 _ (hw4 ▸ (Mod.refl [] w3).alloc _)
    clear hw4
    go_wp2_with fail
    go_ret
    exact ⟨rfl, hB4⟩
  · have hbad : a3 < 0 ∨ 1048576 < a3 := by omega
    have hright : (decide (0 ≤ a3) && decide (a3 ≤ 1048576)) = false := by simp; omega
    clear hr
    rcases hbad with hbad | hbad
    all_goals
      have hnew := fun W => slots_new_bad a0 a3 (by omega) W
      first | (have hd : decide (a3 ≤ 1048576) = false := by (simp; omega)) | skip
      go_enter Try.func11, Try.ntmps11
      go_wp2_with fail
      refine (awake22 w.heap.size w (Nat.le_refl _)).mono ?_; rintro e w1 ⟨rfl, hB⟩
      go_wp2_with fail
      refine (hnew w1).mono ?_; rintro e w2 ⟨rfl, hm⟩
      have hB2 := hend _ hB _ hm
      clear hm hB hnew
      go_wp2_with fail
      refine (slots_put_nil _ _ _).mono ?_; rintro e w3 ⟨rfl, rfl⟩
      go_wp2_with fail
      refine (slots_get_nil _ _).mono ?_; rintro e w3 ⟨rfl, rfl⟩
      go_wp2_with fail
      refine (slots_clear_nil _).mono ?_; rintro e w3 ⟨rfl, rfl⟩
      go_wp2_with fail
      refine (slots_drop_nil _ _).mono ?_; rintro e w3 ⟨rfl, rfl⟩
      go_wp2_with fail
      refine (slots_len_nil _).mono ?_; rintro e w3 ⟨rfl, rfl⟩
      go_wp2_with fail
      refine (slots_room_nil _ _).mono ?_; rintro e w3 ⟨rfl, hm⟩
      have hB3 := hend _ hB2 _ hm
      clear hm hB2
      go_wp2_with fail
      refine (slots_gets_nil1 _ a1 _ ?_).mono ?_
      · simp
      rintro e w4 ⟨rfl, hw4⟩
      have hB4 := hend _ hB3 _ (hw4 ▸ (Mod.refl [] w3).alloc _)
      clear hw4
      go_wp2_with fail
      go_ret
      exact ⟨rfl, hB4⟩
end Go.Proofs.Ytnbanbfnabhjjaa
