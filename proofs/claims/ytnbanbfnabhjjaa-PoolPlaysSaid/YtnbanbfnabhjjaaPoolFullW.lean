/- The walk of PoolFull. -/
import Derived.Test.YtnbanbfnabhjjaaPoolB
import Derived.OpenShut
namespace Go.Proofs.Ytnbanbfnabhjjaa
open Go.RowKit

set_option maxRecDepth 100000 in
set_option maxHeartbeats 1000000 in
theorem awake4 (w0 w : World) (hb : Below w0.heap.size w0 w) :
    Calls Try.prog 16 #[] w fun e w' => e = .returned (.bool true) ∧ Below w0.heap.size w0 w' := by
  go_enter Try.func16, Try.ntmps16
  go_wp2_with fail
  refine (pm_new 5 w0 _ hb (by omega)).mono ?_; rintro e w1 ⟨pb, rfl, hP⟩
  go_wp2_with fail
  refine (pm_alloc (s' := ⟨[some 7], [], 5⟩) (i := 0) (ok := true) 7 hP rfl).mono ?_; clear hP; rintro e w2 ⟨rfl, hP⟩
  go_wp2_with fail
  refine (pm_alloc (s' := ⟨[some 7, some 8], [], 5⟩) (i := 1) (ok := true) 8 hP rfl).mono ?_; clear hP; rintro e w3 ⟨rfl, hP⟩
  go_wp2_with fail
  refine (pm_free (s' := ⟨[none, some 8], [0], 5⟩) (ok := true) 0 hP rfl).mono ?_; clear hP; rintro e w4 ⟨rfl, hP⟩
  go_wp2_with fail
  refine (pm_alloc (s' := ⟨[some 9, some 8], [], 5⟩) (i := 0) (ok := true) 9 hP rfl).mono ?_; clear hP; rintro e w5 ⟨rfl, hP⟩
  go_wp2_with fail
  refine (pm_len hP).mono ?_; rintro e w6 ⟨rfl, rfl⟩
  have hl : PS.live (α := Int) ⟨[some 9, some 8], [], 5⟩ = 2 := rfl
  rw [hl]
  go_wp2_with fail
  go_ret
  exact ⟨rfl, hP.below⟩

theorem ret_int' {k : IntKind} {a b : Int} (h : a = b) : Ending.returned (.int k a) = .returned (.int k b) := by rw [h]
set_option maxHeartbeats 400000 in
theorem clamp_any (n most : Int) (w : World) :
    Calls Try.prog 21 #[.int .i64 n, .int .i64 most] w fun e w' => e = .returned (.int .i64 (max (min n most) 0)) ∧ w = w' := by
  go_enter Try.func21, Try.ntmps21
  go_wp2
  all_goals
    go_ret
    exact ⟨ret_int' (by omega), rfl⟩

def fillS (n k : Nat) : PS Int := ⟨(List.range k).map (fun i : Nat => some (i : Int)), [], n⟩
theorem fillS_live (n k : Nat) : (fillS n k).live = k := by simp [PS.live, fillS, List.countP_map, Function.comp_def]
theorem fillS_alloc (n k : Nat) (h : k < n) : (fillS n k).alloc k = (fillS n (k + 1), k, true) := by
  unfold PS.alloc; rw [fillS_live, if_pos (show k < (fillS n k).limit from h)]
  simp [PS.take, PS.nextAt, fillS, List.range_succ]

theorem fillS_full (n : Nat) (v : Int) : (fillS n n).alloc v = (fillS n n, 0, false) := by
  unfold PS.alloc; rw [fillS_live, if_neg (show ¬ n < (fillS n n).limit from Nat.lt_irrefl n)]
theorem fillS_get (n j : Nat) (h : j < n) : (fillS n n).get (j : Int) = some (j : Int) := by
  have : ¬ ((j : Int) < 0) := by omega
  simp [PS.get, fillS, this, h]
/-- Behind Free(j): the pool without j. -/
def goneS (n j : Nat) : PS Int := (fillS n n).drop j
theorem fillS_give (n j : Nat) (h : j < n) : (fillS n n).give (j : Int) = (goneS n j, true) := by
  unfold PS.give; rw [fillS_get n j h]; rfl
def backS (n j : Nat) (v : Int) : PS Int := (fillS n n).put j v
theorem goneS_alloc (n j : Nat) (v : Int) (h : j < n) : (goneS n j).alloc v = (backS n j v, j, true) := by
  have hs : (fillS n n).cells[j]? = some (some (j : Int)) := by simp [fillS, h]
  have hl := PS.drop_live hs
  rw [fillS_live] at hl
  unfold PS.alloc
  rw [if_pos (show (goneS n j).live < (goneS n j).limit from by show ((fillS n n).drop j).live < n; omega)]
  simp [PS.take, PS.nextAt, goneS, backS, PS.drop, PS.put, fillS]
theorem backS_get (n j : Nat) (v : Int) (h : j < n) : (backS n j v).get (j : Int) = some v := by
  have : ¬ ((j : Int) < 0) := by omega
  simp [PS.get, backS, PS.put, fillS, this, h]
theorem backS_none (n j : Nat) (v : Int) : (backS n j v).get (n : Int) = none := by
  have : ¬ ((n : Int) < 0) := by omega
  simp [PS.get, backS, PS.put, fillS, this]
theorem backS_neg (n j : Nat) (v : Int) : (backS n j v).get (-1) = none := by simp [PS.get]
theorem give_none {s : PS Int} {i : Int} (h : s.get i = none) : s.give i = (s, false) := by unfold PS.give; rw [h]; rfl

set_option maxRecDepth 100000 in
set_option maxHeartbeats 2000000 in
theorem poolFull_walk (a0 a1 a2 : Int) (w0 : (Lit.int .u8 a0).wf = true) (w1 : (Lit.int .i64 a1).wf = true) (w2 : (Lit.int .u64 a2).wf = true) (w : World) :
    Calls Try.prog 3 #[.int .u8 a0, .int .i64 a1, .int .u64 a2] w fun e w' => e = .returned (.bool true) ∧ Below w.heap.size w w' := by
  have b0 : 0 ≤ a0 := (bounds_u8 w0).1
  go_enter Try.func3, Try.ntmps3
  go_wp2_with fail
  refine (awake4 w w (Below.refl _ _)).mono ?_; rintro e w1 ⟨rfl, hB⟩
  go_wp2_with fail
  obtain ⟨n, hn⟩ : ∃ n : Nat, 1 + a0 % 20 = (n : Int) := ⟨(1 + a0 % 20).toNat, by omega⟩
  have hn1 : 1 ≤ n := by omega
  have hn2 : n ≤ 20 := by omega
  rw [hn]
  clear hn
  refine (pm_new n w _ hB (by omega)).mono ?_; clear hB; rintro e w2 ⟨pb, rfl, hP⟩
  go_wp2_with fail
  go_loopw [39] (fun i wr => ∃ k : Nat, k ≤ n ∧ i = .int .i64 k ∧ PM w wr pb (fillS n k) Mt.zero) (fun i _ => n - (intOf i).toNat)
  case atStart => exact ⟨0, by omega, rfl, hP⟩
  case round =>
    clear hP
    obtain ⟨k, hk, rfl, hP⟩ := hrel
    by_cases hlt : k < n
    · have hf := fillS_alloc n k hlt
      go_wp2_with fail
      refine (pm_alloc (k : Int) hP hf).mono ?_; clear hf hP; rintro e w3 ⟨rfl, hP⟩
      go_wp2_with fail
      go_roundw
      case rel => exact ⟨k + 1, by omega, by go_num, hP⟩
      case measure => simp [intOf]; omega
    · obtain rfl : n = k := by omega
      have c1 := fillS_full n a2
      have l1 := fillS_live n n
      go_wp2_with fail
      refine (pm_alloc a2 hP c1).mono ?_; clear c1 hP; rintro e w3 ⟨rfl, hP⟩
      go_wp2_with fail
      refine (pm_len hP).mono ?_; rintro e w4 ⟨rfl, rfl⟩
      rw [l1]
      go_wp2_with fail
      have r1 := pm_room 1 hP
      rw [show decide ((1 : Int) ≤ ((fillS n n).limit : Int) - (fillS n n).live) = false from by rw [l1]; simp [fillS]] at r1
      refine r1.mono ?_; clear r1 hP; rintro e w4 ⟨rfl, hP⟩
      go_wp2_with fail
      have r1 := pm_room 0 hP
      rw [show decide ((0 : Int) ≤ ((fillS n n).limit : Int) - (fillS n n).live) = true from by rw [l1]; simp [fillS]] at r1
      refine r1.mono ?_; clear r1 hP l1; rintro e w5 ⟨rfl, hP⟩
      go_wp2_with fail
      refine (clamp_any _ _ _).mono ?_; rintro e w6 ⟨rfl, rfl⟩
      obtain ⟨j, hj⟩ : ∃ j : Nat, max (min a1 ((n : Int) - 1)) 0 = (j : Int) := ⟨(max (min a1 ((n : Int) - 1)) 0).toNat, by omega⟩
      have hjn : j < n := by omega
      rw [hj]
      clear hj
      go_wp2_with fail
      refine (pm_free (j : Int) hP (fillS_give n j hjn)).mono ?_; clear hP; rintro e w6 ⟨rfl, hP⟩
      go_wp2_with fail
      refine (pm_alloc a2 hP (goneS_alloc n j a2 hjn)).mono ?_; clear hP; rintro e w7 ⟨rfl, hP⟩
      go_wp2_with fail
      have r1 := pm_at (j : Int) hP
      rw [backS_get n j a2 hjn] at r1
      refine r1.mono ?_; clear r1 hP; rintro e w8 ⟨rfl, hP⟩
      simp only [Option.isSome_some, Option.getD_some, if_true] at hP ⊢
      go_wp2_with fail
      refine (pm_free (n : Int) hP (give_none (backS_none n j a2))).mono ?_; clear hP; rintro e w9 ⟨rfl, hP⟩
      go_wp2_with fail
      refine (pm_free (-1) hP (give_none (backS_neg n j a2))).mono ?_; clear hP; rintro e w10 ⟨rfl, hP⟩
      go_wp2_with fail
      go_ret
      exact ⟨rfl, hP.below⟩
end Go.Proofs.Ytnbanbfnabhjjaa
