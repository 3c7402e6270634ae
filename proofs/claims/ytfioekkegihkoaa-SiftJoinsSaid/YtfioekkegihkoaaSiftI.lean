/- sift.two: two rising lists joined. -/
import Derived.Test.YtfioekkegihkoaaSiftG
import Derived.Test.YtfioekkegihkoaaTwo
namespace Go.Proofs.Ytfioekkegihkoaa
open Go.RowKit Go.Shelf
set_option linter.unusedVariables false
set_option linter.unusedSimpArgs false
theorem twoL_len : ∀ (n : Nat) (a b : List Int), a.length + b.length ≤ n → (twoL a b).length ≤ a.length + b.length
  | _, [], b, _ => by simp [twoL]
  | _, x :: a, [], _ => by simp [twoL]
  | 0, x :: a, y :: b, h => by simp at h
  | n + 1, x :: a, y :: b, h => by
    simp only [List.length_cons] at h
    have h1 := twoL_len n a (y :: b) (by simp; omega)
    have h2 := twoL_len n (x :: a) b (by simp; omega)
    have h3 := twoL_len n a b (by omega)
    simp only [List.length_cons] at h1 h2 h3
    rw [twoL]
    split
    · simp only [List.length_cons]; omega
    · split
      · simp only [List.length_cons]; omega
      · simp only [List.length_cons]; omega
theorem twoL_lt {x y : Int} {a b : List Int} (h : x < y) : twoL (x :: a) (y :: b) = x :: twoL a (y :: b) := by rw [twoL, if_pos h]
theorem twoL_gt {x y : Int} {a b : List Int} (h : y < x) : twoL (x :: a) (y :: b) = y :: twoL (x :: a) b := by rw [twoL, if_neg (by omega), if_pos h]
theorem twoL_eq {x y : Int} {a b : List Int} (h : x = y) : twoL (x :: a) (y :: b) = x :: twoL a b := by rw [twoL, if_neg (by omega), if_neg (by omega)]
theorem make_u64 (N : Nat) (hN : N ≤ 1000000) (W : World) : ∃ cs : Array Value, cs.size = N ∧ (Instr.makeSlice 23 (.int .i64 0) (.int .i64 (N : Int))).run Try.prog W = .ok (.slice (some ⟨W.heap.size, 0, none⟩) 0 N) (W.alloc (.cells cs 22)) := by
  obtain ⟨i, hi, hz, hsize, hby⟩ := info_parts infoA64
  have hr := run_make (P := Try.prog) W 23 22 i _ (by kernel_rfl) hi hz .i64 .i64 0 N (by omega) (by omega) (by rw [hby]; omega) (by omega)
  simp only [Int.toNat_natCast, Int.toNat_zero] at hr
  exact ⟨_, by rw [size_madeCells, hsize, Nat.mul_one], hr⟩
set_option maxRecDepth 100000 in
set_option maxHeartbeats 8000000 in
theorem sift_two {w : World} {va vb : Value} {a b : List Int} (ha : ISl .u64 w va a) (hb : ISl .u64 w vb b) (hla : a.length ≤ 400000) (hlb : b.length ≤ 400000) :
    Calls Try.prog 67 #[va, vb] w (OwnRow w (twoL a b)) := by
  have ha0 := Hidden.mk ha
  have hb0 := Hidden.mk hb
  obtain ⟨aa, ca, rfl, _⟩ := ha.slice_
  obtain ⟨ab, cb, rfl, _⟩ := hb.slice_
  have hlen : Hidden ((twoL a b).length ≤ 800000) := ⟨by have := twoL_len _ a b (Nat.le_refl _); omega⟩
  have hs : IntKind.i64.wrap ((a.length : Int) + (b.length : Int)) = (a.length : Int) + (b.length : Int) := IntWalk.i64_in _ (by omega)
  obtain ⟨cs, hcs, hmk⟩ := make_u64 (a.length + b.length) (by omega) w
  rw [show ((a.length + b.length : Nat) : Int) = (a.length : Int) + (b.length : Int) from by omega] at hmk
  obtain ⟨N, hN⟩ : ∃ N, a.length + b.length = N := ⟨_, rfl⟩
  rw [hN] at hcs hmk
  have hW0 : Hidden (WayI .u64 22 w (w.alloc (.cells cs 22)) (.slice (some ⟨w.heap.size, 0, none⟩) 0 N) 0 []) :=
    ⟨⟨⟨rfl, .inr ⟨w.heap.size, N, cs, rfl, Nat.zero_le _, World.alloc_heap_new w _, Nat.zero_le _, by show N ≤ 9223372036854775807; omega, by rw [hcs, Nat.mul_one], by simp [icells]⟩⟩, (Mod.refl [] w).alloc _, fun b hb => by simp [rb, Value.ownBlock] at hb; omega⟩⟩
  clear ha hb hcs hN
  go_enter Try.func67, Try.ntmps67
  go_wp2_with fail
  go_loopw [0, 1, 5] (fun ua ub uo wr => ∃ (x y acc : List Int), ISl .u64 w ua x ∧ ISl .u64 w ub y ∧ WayI .u64 22 w wr uo acc.length acc ∧ acc ++ twoL x y = twoL a b) (fun ua ub _ _ => slen ua + slen ub)
  case atStart => exact ⟨a, b, [], ha0.out, hb0.out, hW0.out, rfl⟩
  case round =>
    obtain ⟨x, y, acc, hx, hy, hW, hE⟩ := hrel
    have HE := Hidden.mk hE
    have hacc : acc.length + (twoL x y).length ≤ 800000 := by have := hlen.out; rw [← hE, List.length_append] at this; exact this
    have HACC := Hidden.mk hacc
    clear hE hacc hmk hs
    rcases x with _ | ⟨x0, x⟩
    · have HZ : Hidden (twoL a b = acc ++ [] ++ y) := ⟨by rw [← HE.out]; simp [twoL]⟩
      obtain ⟨p, cp, rfl, _⟩ := hx.none_
      have hb1 : acc.length + y.length ≤ 800000 := by have := HACC.out; simpa [twoL] using this
      have hx1 : Hidden (Holds wr (.slice p 0 cp) 0 1 (icells .u64 [])) := ⟨(hx.news hW.mod).holds⟩
      obtain ⟨q, cq, rfl, _⟩ := hy.slice_
      have HY : Hidden (∀ W', Mod [] w W' → Holds W' (.slice q y.length cq) y.length 1 (icells .u64 y)) := ⟨fun W' h => (hy.news h).holds⟩
      have hA := Hidden.mk hW
      have hi1 := Hidden.mk (icells_one .u64 [])
      have hi2 := Hidden.mk (icells_one .u64 y)
      obtain ⟨m, hm⟩ : ∃ m, y.length = m := ⟨_, rfl⟩
      obtain ⟨k, hk⟩ : ∃ k, acc.length = k := ⟨_, rfl⟩
      rw [hm] at HY hb1 ⊢
      rw [hk] at hA hb1
      have HMK := Hidden.mk (And.intro hm hk)
      clear hx hy hW hm hk
      go_wp2_with (first
        | (refine wpList_any rfl (.tmp 62) (.tmp 63) 23 rfl 22 (.int .u64 0) 1 8 (by kernel_rfl) infoA64 rfl (by decide) _ _ _ rfl hA.out.row _ _ _ rfl hx1.out hi1.out (by omega) (by omega) ?_; intro b4 c4 w4 hr4 hm4 hf4; rw [Nat.add_zero] at hr4 hf4 ⊢; have hB := Hidden.mk (hA.out.next hr4 hm4 hf4 (m := acc ++ []) (by simp [icells])); clear hr4 hm4 hf4; have hY := Hidden.mk (HY.out _ hB.out.mod))
        | (refine wpList_any rfl (.tmp 64) (.tmp 65) 23 rfl 22 (.int .u64 0) 1 8 (by kernel_rfl) infoA64 rfl (by decide) _ _ _ rfl hB.out.row _ _ _ rfl hY.out hi2.out (by omega) (by omega) ?_; intro b5 c5 w5 hr5 hm5 hf5; have hC := Hidden.mk (hB.out.next hr5 hm5 hf5 (m := acc ++ [] ++ y) (by simp [icells])); clear hr5 hm5 hf5))
      go_ret
      exact ⟨_, rfl, by rw [HZ.out]; exact hC.out.isl.2, hC.out.mod, hC.out.ge⟩
    rcases y with _ | ⟨y0, y⟩
    · have HZ : Hidden (twoL a b = acc ++ (x0 :: x) ++ []) := ⟨by rw [← HE.out]; simp [twoL]⟩
      obtain ⟨q, cq, rfl, _⟩ := hy.none_
      have hb1 : acc.length + (x0 :: x).length ≤ 800000 := by have := HACC.out; simpa [twoL] using this
      have hx1 : Hidden (Holds wr _ (x0 :: x).length 1 (icells .u64 (x0 :: x))) := ⟨(hx.news hW.mod).holds⟩
      obtain ⟨p, cp, rfl, _⟩ := hx.slice_
      have HY : Hidden (∀ W', Mod [] w W' → Holds W' (.slice q 0 cq) 0 1 (icells .u64 [])) := ⟨fun W' h => (hy.news h).holds⟩
      have hA := Hidden.mk hW
      have hi1 := Hidden.mk (icells_one .u64 (x0 :: x))
      have hi2 := Hidden.mk (icells_one .u64 [])
      have hpos : 0 < (x0 :: x).length := by simp
      obtain ⟨m, hm⟩ : ∃ m, (x0 :: x).length = m := ⟨_, rfl⟩
      obtain ⟨k, hk⟩ : ∃ k, acc.length = k := ⟨_, rfl⟩
      rw [hm] at hx1 hb1 hpos ⊢
      rw [hk] at hA hb1
      have hpos2 : (0 : Int) < (m : Int) := by omega
      have hpos3 : decide (0 < m) = true := decide_eq_true hpos
      have HMK := Hidden.mk (And.intro hm hk)
      clear hx hy hW hm hk
      go_wp2_with (first
        | (refine wpList_any rfl (.tmp 62) (.tmp 63) 23 rfl 22 (.int .u64 0) 1 8 (by kernel_rfl) infoA64 rfl (by decide) _ _ _ rfl hA.out.row _ _ _ rfl hx1.out hi1.out (by omega) (by omega) ?_; intro b4 c4 w4 hr4 hm4 hf4; have hB := Hidden.mk (hA.out.next hr4 hm4 hf4 (m := acc ++ (x0 :: x)) (by simp [icells])); clear hr4 hm4 hf4; have hY := Hidden.mk (HY.out _ hB.out.mod))
        | (refine wpList_any rfl (.tmp 64) (.tmp 65) 23 rfl 22 (.int .u64 0) 1 8 (by kernel_rfl) infoA64 rfl (by decide) _ _ _ rfl hB.out.row _ _ _ rfl hY.out hi2.out (by omega) (by omega) ?_; intro b5 c5 w5 hr5 hm5 hf5; rw [Nat.add_zero] at hr5 hf5 ⊢; have hC := Hidden.mk (hB.out.next hr5 hm5 hf5 (m := acc ++ (x0 :: x) ++ []) (by simp [icells])); clear hr5 hm5 hf5))
      go_ret
      exact ⟨_, rfl, by rw [HZ.out]; exact hC.out.isl.2, hC.out.mod, hC.out.ge⟩
    have HX := Hidden.mk hx
    have HY := Hidden.mk hy
    obtain ⟨p, po, cp, rfl, hp1, hp2, hpc, hpt⟩ := hx.cons
    obtain ⟨q, qo, cq, rfl, hq1, hq2, hqc, hqt⟩ := hy.cons
    have hpc0 : wr.cell? ⟨p, po, none⟩ = some (.int .u64 x0) := (Below.cell (p := ⟨p, po, none⟩) hW.mod.below' (by simpa using World.block_lt_of_cell? w _ hpc)).trans hpc
    have hqc0 : wr.cell? ⟨q, qo, none⟩ = some (.int .u64 y0) := (Below.cell (p := ⟨q, qo, none⟩) hW.mod.below' (by simpa using World.block_lt_of_cell? w _ hqc)).trans hqc
    have HT := Hidden.mk (And.intro hpt hqt)
    have HW := Hidden.mk hW
    clear hx hy hpc hqc hpt hqt hW
    have hp1z : (1 : Int) ≤ (cp : Int) := by omega
    have hq1z : (1 : Int) ≤ (cq : Int) := by omega
    obtain ⟨n, hn⟩ : ∃ n, x.length = n := ⟨_, rfl⟩
    obtain ⟨m, hm⟩ : ∃ m, y.length = m := ⟨_, rfl⟩
    obtain ⟨k, hk⟩ : ∃ k, acc.length = k := ⟨_, rfl⟩
    have hkb : k < 800000 := by
      have h1 := HACC.out
      have h2 : 0 < (twoL (x0 :: x) (y0 :: y)).length := by
        rcases Int.lt_trichotomy x0 y0 with h | h | h
        · rw [twoL_lt h]; simp
        · rw [twoL_eq h]; simp
        · rw [twoL_gt h]; simp
      omega
    rw [hn] at HX HT hp1 ⊢
    rw [hm] at HY HT hq1 ⊢
    rw [hk] at HW
    have hn1 : (0 : Int) < (n : Int) + 1 := by omega
    have hm1 : (0 : Int) < (m : Int) + 1 := by omega
    have hn2 : (1 : Int) ≤ (n : Int) + 1 := by omega
    have hm2 : (1 : Int) ≤ (m : Int) + 1 := by omega
    have hsn : Hidden (n = x.length ∧ m = y.length ∧ (acc ++ [x0]).length = k + 1 ∧ (acc ++ [y0]).length = k + 1) := ⟨hn.symm, hm.symm, by simp [hk], by simp [hk]⟩
    have hi1 := Hidden.mk (icells_one .u64 [x0])
    have hi2 := Hidden.mk (icells_one .u64 [y0])
    clear hn hm hk
    rcases Int.lt_trichotomy x0 y0 with hlt | hlt | hlt
    · have hE2 : Hidden ((acc ++ [x0]) ++ twoL x (y0 :: y) = twoL a b) := ⟨by rw [← HE.out, twoL_lt hlt]; simp⟩
      have hl1 : decide (x0 < y0) = true := by simp; omega
      have hl2 : decide (y0 < x0) = false := by simp; omega
      clear hlt
      by_cases hcp : cp = 1
      · subst hcp
        have HTX : Hidden (ISl .u64 w (.slice (some ⟨p, po, none⟩) 0 0) x) := ⟨by have h := HT.out.1; rw [if_pos rfl, show n = 0 from by omega] at h; exact h⟩
        have HTY : Hidden (ISl .u64 w (_) (y0 :: y)) := ⟨HY.out⟩
        go_wp2_with fail
        go_quiet (fail)
        go_wp2_with fail
        go_region_law (refine step_any rfl (.tmp 38) (.tmp 42) 23 rfl 22 (.int .u64 0) 1 8 (by kernel_rfl) infoA64 rfl (by decide) _ _ _ rfl ((HW.out.drewN _).drew.alloc _).row _ _ _ rfl (holds_one _ (.int .u64 x0) 22 rfl) hi1.out (by omega) (by omega) ?_; intro b4 c4 w4 hr4 hm4 hf4; have hW4 := Hidden.mk (((HW.out.drewN _).drew.alloc _).next hr4 hm4 hf4 (m := acc ++ [x0]) (by simp [icells])); clear hr4 hm4 hf4)
        all_goals
          go_simp
          (try go_wp2_with fail)
          go_roundw
          case rel => exact ⟨x, (y0 :: y), acc ++ [x0], HTX.out, HTY.out, by rw [hsn.out.2.2.1]; exact hW4.out, hE2.out⟩
          case measure => simp only [slen_slice]; omega
      · skip
        have HTX : Hidden (ISl .u64 w (.slice (some ⟨p, po + 1, none⟩) n (cp - 1)) x) := ⟨by have h := HT.out.1; rw [if_neg (by assumption)] at h; exact h⟩
        have HTY : Hidden (ISl .u64 w (_) (y0 :: y)) := ⟨HY.out⟩
        go_wp2_with fail
        go_quiet (fail)
        go_wp2_with fail
        go_region_law (refine step_any rfl (.tmp 38) (.tmp 42) 23 rfl 22 (.int .u64 0) 1 8 (by kernel_rfl) infoA64 rfl (by decide) _ _ _ rfl ((HW.out.drewN _).drew.alloc _).row _ _ _ rfl (holds_one _ (.int .u64 x0) 22 rfl) hi1.out (by omega) (by omega) ?_; intro b4 c4 w4 hr4 hm4 hf4; have hW4 := Hidden.mk (((HW.out.drewN _).drew.alloc _).next hr4 hm4 hf4 (m := acc ++ [x0]) (by simp [icells])); clear hr4 hm4 hf4)
        all_goals
          go_simp
          (try go_wp2_with fail)
          go_roundw
          case rel => exact ⟨x, (y0 :: y), acc ++ [x0], HTX.out, HTY.out, by rw [hsn.out.2.2.1]; exact hW4.out, hE2.out⟩
          case measure => simp only [slen_slice]; omega
    · have hE2 : Hidden ((acc ++ [x0]) ++ twoL x y = twoL a b) := ⟨by rw [← HE.out, twoL_eq hlt]; simp⟩
      have hl1 : decide (x0 < y0) = false := by simp; omega
      have hl2 : decide (y0 < x0) = false := by simp; omega
      clear hlt
      by_cases hcp : cp = 1
      · subst hcp
        by_cases hcq : cq = 1
        · subst hcq
          have HTX : Hidden (ISl .u64 w (.slice (some ⟨p, po, none⟩) 0 0) x) := ⟨by have h := HT.out.1; rw [if_pos rfl, show n = 0 from by omega] at h; exact h⟩
          have HTY : Hidden (ISl .u64 w (.slice (some ⟨q, qo, none⟩) 0 0) y) := ⟨by have h := HT.out.2; rw [if_pos rfl, show m = 0 from by omega] at h; exact h⟩
          go_wp2_with fail
          go_quiet (fail)
          go_wp2_with fail
          go_quiet (fail)
          go_wp2_with fail
          go_region_law (refine step_any rfl (.tmp 20) (.tmp 24) 23 rfl 22 (.int .u64 0) 1 8 (by kernel_rfl) infoA64 rfl (by decide) _ _ _ rfl ((HW.out.drewN _).drew.alloc _).row _ _ _ rfl (holds_one _ (.int .u64 x0) 22 rfl) hi1.out (by omega) (by omega) ?_; intro b4 c4 w4 hr4 hm4 hf4; have hW4 := Hidden.mk (((HW.out.drewN _).drew.alloc _).next hr4 hm4 hf4 (m := acc ++ [x0]) (by simp [icells])); clear hr4 hm4 hf4)
          all_goals
            go_simp
            (try go_wp2_with fail)
            go_roundw
            case rel => exact ⟨x, y, acc ++ [x0], HTX.out, HTY.out, by rw [hsn.out.2.2.1]; exact hW4.out, hE2.out⟩
            case measure => simp only [slen_slice]; omega
        · skip
          have HTX : Hidden (ISl .u64 w (.slice (some ⟨p, po, none⟩) 0 0) x) := ⟨by have h := HT.out.1; rw [if_pos rfl, show n = 0 from by omega] at h; exact h⟩
          have HTY : Hidden (ISl .u64 w (.slice (some ⟨q, qo + 1, none⟩) m (cq - 1)) y) := ⟨by have h := HT.out.2; rw [if_neg (by assumption)] at h; exact h⟩
          go_wp2_with fail
          go_quiet (fail)
          go_wp2_with fail
          go_quiet (fail)
          go_wp2_with fail
          go_region_law (refine step_any rfl (.tmp 20) (.tmp 24) 23 rfl 22 (.int .u64 0) 1 8 (by kernel_rfl) infoA64 rfl (by decide) _ _ _ rfl ((HW.out.drewN _).drew.alloc _).row _ _ _ rfl (holds_one _ (.int .u64 x0) 22 rfl) hi1.out (by omega) (by omega) ?_; intro b4 c4 w4 hr4 hm4 hf4; have hW4 := Hidden.mk (((HW.out.drewN _).drew.alloc _).next hr4 hm4 hf4 (m := acc ++ [x0]) (by simp [icells])); clear hr4 hm4 hf4)
          all_goals
            go_simp
            (try go_wp2_with fail)
            go_roundw
            case rel => exact ⟨x, y, acc ++ [x0], HTX.out, HTY.out, by rw [hsn.out.2.2.1]; exact hW4.out, hE2.out⟩
            case measure => simp only [slen_slice]; omega
      · skip
        by_cases hcq : cq = 1
        · subst hcq
          have HTX : Hidden (ISl .u64 w (.slice (some ⟨p, po + 1, none⟩) n (cp - 1)) x) := ⟨by have h := HT.out.1; rw [if_neg (by assumption)] at h; exact h⟩
          have HTY : Hidden (ISl .u64 w (.slice (some ⟨q, qo, none⟩) 0 0) y) := ⟨by have h := HT.out.2; rw [if_pos rfl, show m = 0 from by omega] at h; exact h⟩
          go_wp2_with fail
          go_quiet (fail)
          go_wp2_with fail
          go_quiet (fail)
          go_wp2_with fail
          go_region_law (refine step_any rfl (.tmp 20) (.tmp 24) 23 rfl 22 (.int .u64 0) 1 8 (by kernel_rfl) infoA64 rfl (by decide) _ _ _ rfl ((HW.out.drewN _).drew.alloc _).row _ _ _ rfl (holds_one _ (.int .u64 x0) 22 rfl) hi1.out (by omega) (by omega) ?_; intro b4 c4 w4 hr4 hm4 hf4; have hW4 := Hidden.mk (((HW.out.drewN _).drew.alloc _).next hr4 hm4 hf4 (m := acc ++ [x0]) (by simp [icells])); clear hr4 hm4 hf4)
          all_goals
            go_simp
            (try go_wp2_with fail)
            go_roundw
            case rel => exact ⟨x, y, acc ++ [x0], HTX.out, HTY.out, by rw [hsn.out.2.2.1]; exact hW4.out, hE2.out⟩
            case measure => simp only [slen_slice]; omega
        · skip
          have HTX : Hidden (ISl .u64 w (.slice (some ⟨p, po + 1, none⟩) n (cp - 1)) x) := ⟨by have h := HT.out.1; rw [if_neg (by assumption)] at h; exact h⟩
          have HTY : Hidden (ISl .u64 w (.slice (some ⟨q, qo + 1, none⟩) m (cq - 1)) y) := ⟨by have h := HT.out.2; rw [if_neg (by assumption)] at h; exact h⟩
          go_wp2_with fail
          go_quiet (fail)
          go_wp2_with fail
          go_quiet (fail)
          go_wp2_with fail
          go_region_law (refine step_any rfl (.tmp 20) (.tmp 24) 23 rfl 22 (.int .u64 0) 1 8 (by kernel_rfl) infoA64 rfl (by decide) _ _ _ rfl ((HW.out.drewN _).drew.alloc _).row _ _ _ rfl (holds_one _ (.int .u64 x0) 22 rfl) hi1.out (by omega) (by omega) ?_; intro b4 c4 w4 hr4 hm4 hf4; have hW4 := Hidden.mk (((HW.out.drewN _).drew.alloc _).next hr4 hm4 hf4 (m := acc ++ [x0]) (by simp [icells])); clear hr4 hm4 hf4)
          all_goals
            go_simp
            (try go_wp2_with fail)
            go_roundw
            case rel => exact ⟨x, y, acc ++ [x0], HTX.out, HTY.out, by rw [hsn.out.2.2.1]; exact hW4.out, hE2.out⟩
            case measure => simp only [slen_slice]; omega
    · have hE2 : Hidden ((acc ++ [y0]) ++ twoL (x0 :: x) y = twoL a b) := ⟨by rw [← HE.out, twoL_gt hlt]; simp⟩
      have hl1 : decide (x0 < y0) = false := by simp; omega
      have hl2 : decide (y0 < x0) = true := by simp; omega
      clear hlt
      by_cases hcq : cq = 1
      · subst hcq
        have HTX : Hidden (ISl .u64 w (_) (x0 :: x)) := ⟨HX.out⟩
        have HTY : Hidden (ISl .u64 w (.slice (some ⟨q, qo, none⟩) 0 0) y) := ⟨by have h := HT.out.2; rw [if_pos rfl, show m = 0 from by omega] at h; exact h⟩
        go_wp2_with fail
        go_quiet (fail)
        go_wp2_with fail
        go_quiet (fail)
        go_wp2_with fail
        go_region_law (refine step_any rfl (.tmp 54) (.tmp 58) 23 rfl 22 (.int .u64 0) 1 8 (by kernel_rfl) infoA64 rfl (by decide) _ _ _ rfl ((HW.out.drewN _).drew.alloc _).row _ _ _ rfl (holds_one _ (.int .u64 y0) 22 rfl) hi2.out (by omega) (by omega) ?_; intro b4 c4 w4 hr4 hm4 hf4; have hW4 := Hidden.mk (((HW.out.drewN _).drew.alloc _).next hr4 hm4 hf4 (m := acc ++ [y0]) (by simp [icells])); clear hr4 hm4 hf4)
        all_goals
          go_simp
          (try go_wp2_with fail)
          go_roundw
          case rel => exact ⟨(x0 :: x), y, acc ++ [y0], HTX.out, HTY.out, by rw [hsn.out.2.2.2]; exact hW4.out, hE2.out⟩
          case measure => simp only [slen_slice]; omega
      · skip
        have HTX : Hidden (ISl .u64 w (_) (x0 :: x)) := ⟨HX.out⟩
        have HTY : Hidden (ISl .u64 w (.slice (some ⟨q, qo + 1, none⟩) m (cq - 1)) y) := ⟨by have h := HT.out.2; rw [if_neg (by assumption)] at h; exact h⟩
        go_wp2_with fail
        go_quiet (fail)
        go_wp2_with fail
        go_quiet (fail)
        go_wp2_with fail
        go_region_law (refine step_any rfl (.tmp 54) (.tmp 58) 23 rfl 22 (.int .u64 0) 1 8 (by kernel_rfl) infoA64 rfl (by decide) _ _ _ rfl ((HW.out.drewN _).drew.alloc _).row _ _ _ rfl (holds_one _ (.int .u64 y0) 22 rfl) hi2.out (by omega) (by omega) ?_; intro b4 c4 w4 hr4 hm4 hf4; have hW4 := Hidden.mk (((HW.out.drewN _).drew.alloc _).next hr4 hm4 hf4 (m := acc ++ [y0]) (by simp [icells])); clear hr4 hm4 hf4)
        all_goals
          go_simp
          (try go_wp2_with fail)
          go_roundw
          case rel => exact ⟨(x0 :: x), y, acc ++ [y0], HTX.out, HTY.out, by rw [hsn.out.2.2.2]; exact hW4.out, hE2.out⟩
          case measure => simp only [slen_slice]; omega
end Go.Proofs.Ytfioekkegihkoaa
