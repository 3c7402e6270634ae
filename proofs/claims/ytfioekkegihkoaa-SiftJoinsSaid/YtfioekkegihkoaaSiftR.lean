/- stepstonelaw18.want: of the keys of some lists those that so many have. -/
import Derived.Test.YtfioekkegihkoaaSiftQ
namespace Go.Proofs.Ytfioekkegihkoaa
open Go.RowKit Go.Shelf
set_option linter.unusedVariables false
set_option linter.unusedSimpArgs false
theorem WayI.keep {k : IntKind} {e : Nat} {w w1 w2 : World} {v : Value} {n : Nat} {l : List Int} (h : WayI k e w w1 v n l) (hm : Mod [] w1 w2) : WayI k e w w2 v n l := ⟨h.row.mod hm (by simp), h.mod.trans hm (by simp), h.ge⟩
theorem asc_snoc (A : List Int) (x : Int) : (if x ∈ asc A then asc A else insL (asc A) x) = asc (A ++ [x]) := by
  have := asc_step (l := A ++ [x]) (i := A.length) (x := x) (by simp)
  rw [show (A ++ [x]).take A.length = A from by simp, show (A ++ [x]).take (A.length + 1) = A ++ [x] from List.take_of_length_le (by simp)] at this
  exact this
def cntL (ls : List (List Int)) (k : Int) : Nat := ls.countP (fun x => decide (k ∈ x))
theorem cntL_le (ls : List (List Int)) (k : Int) : cntL ls k ≤ ls.length := List.countP_le_length
theorem cntL_snoc (ls : List (List Int)) (x : List Int) (k : Int) : cntL (ls ++ [x]) k = cntL ls k + (if k ∈ x then 1 else 0) := by
  unfold cntL; rw [List.countP_append]; simp [List.countP_cons]
def wantF (ls : List (List Int)) (f t : Int) (k : Int) : Bool := decide (f ≤ (cntL ls k : Int)) && decide ((cntL ls k : Int) ≤ t)
def wantL (ls : List (List Int)) (f t : Int) : List Int := (asc ls.flatten).filter (wantF ls f t)
theorem flat_le {ls : List (List Int)} {m : Nat} (h : ∀ l ∈ ls, l.length ≤ m) : ls.flatten.length ≤ ls.length * m := by
  induction ls with
  | nil => simp
  | cons x ls ih =>
    have h1 := ih (fun l hl => h l (by simp [hl]))
    have h2 := h x (by simp)
    rw [List.flatten_cons, List.length_append, List.length_cons, Nat.add_mul, Nat.one_mul]
    omega
theorem LSl.at_ {k : IntKind} {w : World} {a : Option Addr} {n cap : Nat} {ls : List (List Int)} (h : LSl k w (.slice a n cap) ls) {i : Nat} (hi : i < ls.length) :
    ∃ b off l p c, a = some ⟨b, off, none⟩ ∧ ls[i]? = some l ∧ w.cell? ⟨b, off + i, none⟩ = some (.slice p l.length c) ∧ ISl k w (.slice p l.length c) l := by
  obtain ⟨a', cap', he, h1, h2, h3⟩ := h
  injection he with e1 e2 e3
  subst e1
  rcases h3 with rfl | ⟨b, off, rfl, hc⟩
  · simp at hi
  · obtain ⟨u, hu, hI⟩ := hc i _ (List.getElem?_eq_getElem hi)
    obtain ⟨p, c, rfl, -⟩ := hI.slice_
    exact ⟨b, off, _, p, c, rfl, List.getElem?_eq_getElem hi, hu, hI⟩
set_option maxRecDepth 100000 in
set_option maxHeartbeats 8000000 in
theorem want18 {w : World} {v : Value} {ls : List (List Int)} {f t : Int} (h : LSl .u64 w v ls) (hr : ∀ l ∈ ls, l.Pairwise (· < ·)) (hm : ∀ l ∈ ls, l.length ≤ 60) (hn : ls.length ≤ 3) :
    Calls Try.prog 26 #[v, .int .i64 f, .int .i64 t] w (OwnRow w (wantL ls f t)) := by
  have H0 := Hidden.mk (And.intro hr hm)
  obtain ⟨n, hn'⟩ : ∃ n, ls.length = n := ⟨_, rfl⟩
  obtain ⟨a, cap, rfl, -⟩ := id h
  have hfl : Hidden (∀ i m, ((ls.take i).flatten ++ m).length ≤ 180 + m.length) := ⟨fun i m => by
    rw [List.length_append]
    have h1 := flat_le (ls := ls.take i) (m := 60) (fun l hl => hm l (List.mem_of_mem_take hl))
    have h2 : (ls.take i).length ≤ 3 := by rw [List.length_take]; omega
    omega⟩
  have HLL : Hidden (∀ W, Mod [] w W → ∀ i, i < n → ∃ b off l p c, a = some ⟨b, off, none⟩ ∧ ls[i]? = some l ∧ W.cell? ⟨b, off + i, none⟩ = some (.slice p l.length c) ∧ ISl .u64 W (.slice p l.length c) l) := ⟨fun W hW i hi => by
    obtain ⟨b, off, l, p, c, h1, h2, h3, h4⟩ := h.at_ (i := i) (by omega)
    exact ⟨b, off, l, p, c, h1, h2, (hW.below'.cell (p := ⟨b, off + i, none⟩) (by simpa using World.block_lt_of_cell? w _ h3)).trans h3, h4.news hW⟩⟩
  rw [hn'] at hn ⊢
  have HN := Hidden.mk hn'
  clear h hr hm hn'
  go_enter Try.func26, Try.ntmps26
  go_wp2_with fail
  go_loopw [7, 20] (fun va iv wr => ∃ (i : Nat), i ≤ n ∧ iv = .int .i64 i ∧ ISl .u64 wr va (asc (ls.take i).flatten) ∧ Mod [] w wr) (fun _ iv _ => n - (intOf iv).toNat)
  case atStart => exact ⟨0, Nat.zero_le _, rfl, by have := asc_nil; simpa [this] using ISl.nil_ .u64 w, Mod.refl _ _⟩
  case round =>
    obtain ⟨i, hi, rfl, hI, hmo⟩ := hrel
    by_cases hin : i < n
    · obtain ⟨b, off, x, p, c, rfl, hx, hxc, hxI⟩ := HLL.out wr hmo i hin
      have hd : decide ((i : Int) < (n : Int)) = true := decide_eq_true (by omega)
      have hw1 : IntKind.i64.wrap ((i : Int) + 1) = i + 1 := IntWalk.i64_in _ (by omega)
      have hxl := H0.out.2 x (List.mem_of_getElem? hx)
      obtain ⟨m, hm'⟩ : ∃ m, x.length = m := ⟨_, rfl⟩
      rw [hm'] at hxc hxI hxl
      have HMM := Hidden.mk hm'
      have htk : Hidden ((ls.take (i + 1)).flatten = (ls.take i).flatten ++ x) := ⟨by rw [List.take_add_one, hx, List.flatten_append]; simp⟩
      obtain ⟨pa, ka, rfl, -⟩ := hI.slice_
      have HI := Hidden.mk (And.intro hI (And.intro hmo hxI))
      obtain ⟨wA, rfl⟩ : ∃ wA, wA = wr := ⟨_, rfl⟩
      clear hI hmo hx hm' hxI
      go_wp2_with fail
      go_loopw [7, 26] (fun va iv wr => ∃ (j : Nat), j ≤ m ∧ iv = .int .i64 j ∧ ISl .u64 wr va (asc ((ls.take i).flatten ++ x.take j)) ∧ Mod [] wA wr) (fun _ iv _ => m - (intOf iv).toNat)
      case atStart => exact ⟨0, Nat.zero_le _, rfl, by simpa using HI.out.1, Mod.refl _ _⟩
      case round =>
        clear hxc
        obtain ⟨j, hj, rfl, hI2, hmo2⟩ := hrel
        by_cases hjm : j < m
        · obtain ⟨g, og, y, rfl, hg, hy, hyc⟩ := (HI.out.2.2.news hmo2).get hjm
          have hd2 : decide ((j : Int) < (m : Int)) = true := decide_eq_true (by omega)
          have hw2 : IntKind.i64.wrap ((j : Int) + 1) = j + 1 := IntWalk.i64_in _ (by omega)
          have hs := asc_snoc ((ls.take i).flatten ++ x.take j) y
          rw [List.append_assoc, show x.take j ++ [y] = x.take (j + 1) from by rw [List.take_add_one, hy]; rfl] at hs
          have HA := Hidden.mk (add11 y hI2 (by have h1 := asc_le ((ls.take i).flatten ++ x.take j); have h2 := hfl.out i (x.take j); have h3 : (x.take j).length ≤ 60 := (by rw [List.length_take]; omega); omega) (rises_le (asc_rises _)))
          rw [hs] at HA
          have HM2 := Hidden.mk hmo2
          obtain ⟨pb, kb, rfl, -⟩ := hI2.slice_
          clear hI2 hmo2 hy hs
          go_wp2_with fail
          refine HA.out.mono ?_
          rintro e w4 ⟨v4, rfl, h4, hm4⟩
          have H4 := Hidden.mk (And.intro h4 (HM2.out.trans hm4 (by simp)))
          clear h4 hm4 hyc HA
          go_wp2_with fail
          go_roundw
          case rel => exact ⟨j + 1, by omega, by go_num, H4.out.1, H4.out.2⟩
          case measure => simp [intOf]; omega
        · obtain rfl : j = m := by omega
          have hd2 : decide ((j : Int) < (j : Int)) = false := decide_eq_false (by omega)
          rw [show x.take j = x from List.take_of_length_le (by rw [HMM.out]; exact Nat.le_refl _), ← htk.out] at hI2
          have H4 := Hidden.mk (And.intro hI2 (HI.out.2.1.trans hmo2 (by simp)))
          clear hI2 hmo2
          go_wp2_with fail
          go_roundw
          case rel => exact ⟨i + 1, by omega, by go_num, H4.out.1, H4.out.2⟩
          case measure => simp [intOf]; omega
    · obtain rfl : i = n := by omega
      have hd : decide ((i : Int) < (i : Int)) = false := decide_eq_false (by omega)
      rw [show ls.take i = ls from List.take_of_length_le (by rw [HN.out]; exact Nat.le_refl _)] at hI
      have hal : (asc ls.flatten).length ≤ 180 := by have h1 := asc_le ls.flatten; have h2 := hfl.out i []; rw [List.take_of_length_le (by rw [HN.out]; exact Nat.le_refl _), List.append_nil] at h2; simpa using Nat.le_trans h1 h2
      obtain ⟨A, hA⟩ : ∃ A, asc ls.flatten = A := ⟨_, rfl⟩
      rw [hA] at hI hal
      have HA := Hidden.mk hA
      obtain ⟨m, hm'⟩ : ∃ m, A.length = m := ⟨_, rfl⟩
      obtain ⟨pa, ka, rfl, -⟩ := hI.slice_
      rw [hm'] at hI hal ⊢
      have HMM := Hidden.mk hm'
      have HI := Hidden.mk (And.intro hI hmo)
      obtain ⟨wA, rfl⟩ : ∃ wA, wA = wr := ⟨_, rfl⟩
      clear hI hmo hm' hA
      go_wp2_with fail
      go_loopw [8, 37] (fun vo iv wr => ∃ (j : Nat), j ≤ m ∧ iv = .int .i64 j ∧ WayI .u64 22 wA wr vo ((A.take j).filter (wantF ls f t)).length ((A.take j).filter (wantF ls f t))) (fun _ iv _ => m - (intOf iv).toNat)
      case atStart => exact ⟨0, Nat.zero_le _, rfl, WayI.nil_ (Mod.refl _ _)⟩
      case round =>
        obtain ⟨j, hj, rfl, hW⟩ := hrel
        by_cases hjm : j < m
        · obtain ⟨g, og, y, rfl, hg, hy, hyc⟩ := (HI.out.1.news hW.mod).get hjm
          have hd2 : decide ((j : Int) < (m : Int)) = true := decide_eq_true (by omega)
          have hw2 : IntKind.i64.wrap ((j : Int) + 1) = j + 1 := IntWalk.i64_in _ (by omega)
          have htk : Hidden ((A.take (j + 1)).filter (wantF ls f t) = (A.take j).filter (wantF ls f t) ++ (if wantF ls f t y then [y] else [])) := ⟨by rw [List.take_add_one, hy, List.filter_append]; simp [List.filter_cons]⟩
          have hol : ((A.take j).filter (wantF ls f t)).length ≤ 180 := by have h1 := List.length_filter_le (wantF ls f t) (A.take j); have h2 : (A.take j).length ≤ 180 := (by rw [List.length_take]; omega); omega
          obtain ⟨out, hout⟩ : ∃ out, (A.take j).filter (wantF ls f t) = out := ⟨_, rfl⟩
          rw [hout] at hW htk hol
          obtain ⟨wB, rfl⟩ : ∃ wB, wB = wr := ⟨_, rfl⟩
          have HW := Hidden.mk hW
          clear hW hy hout
          go_wp2_with fail
          go_loopw [15, 43] (fun vn iv wr => ∃ (q : Nat), q ≤ i ∧ iv = .int .i64 q ∧ vn = .int .i64 ((cntL (ls.take q) y : Nat) : Int) ∧ Mod [] wB wr) (fun _ iv _ => i - (intOf iv).toNat)
          case atStart => exact ⟨0, Nat.zero_le _, rfl, rfl, Mod.refl _ _⟩
          case round =>
            clear hyc
            obtain ⟨q, hq, rfl, rfl, hmo⟩ := hrel
            have hcl := cntL_le (ls.take q) y
            have htl : (ls.take q).length ≤ 3 := by rw [List.length_take]; have := HN.out; omega
            obtain ⟨c, hc⟩ : ∃ c : Int, ((cntL (ls.take q) y : Nat) : Int) = c := ⟨_, rfl⟩
            have hcb : 0 ≤ c ∧ c ≤ 3 := by omega
            rw [hc]
            have HC := Hidden.mk hc
            clear hc hcl htl
            by_cases hqn : q < i
            · obtain ⟨b, off, x, p, cc, rfl, hx, hxc, hxI⟩ := HLL.out wr ((HI.out.2.trans HW.out.mod (by simp)).trans hmo (by simp)) q hqn
              have hd3 : decide ((q : Int) < (i : Int)) = true := decide_eq_true (by omega)
              have hw3 : IntKind.i64.wrap ((q : Int) + 1) = q + 1 := IntWalk.i64_in _ (by omega)
              have hw4 : IntKind.i64.wrap (c + 1) = c + 1 := IntWalk.i64_in _ (by omega)
              have hmem := List.mem_of_getElem? hx
              have HH := Hidden.mk (has18 y hxI (by have := H0.out.2 x hmem; omega) (rises_le (H0.out.1 x hmem)))
              have hsn : Hidden (cntL (ls.take (q + 1)) y = cntL (ls.take q) y + (if y ∈ x then 1 else 0)) := ⟨by rw [List.take_add_one, hx]; exact cntL_snoc _ _ _⟩
              have HM := Hidden.mk hmo
              clear hmo hx hxI hmem
              go_wp2_with fail
              refine HH.out.mono ?_
              rintro e w5 ⟨rfl, hm5⟩
              have H5 := Hidden.mk (HM.out.trans hm5 (by simp))
              clear hm5 HH hxc
              by_cases hyx : y ∈ x
              · have hs2 : Hidden (((cntL (ls.take (q + 1)) y : Nat) : Int) = c + 1) := ⟨by rw [hsn.out, if_pos hyx]; have := HC.out; omega⟩
                rw [decide_eq_true hyx]
                clear hyx
                go_wp2_with fail
                go_roundw
                case rel => exact ⟨q + 1, by omega, by go_num, by rw [hs2.out], H5.out⟩
                case measure => simp [intOf]; omega
              · have hs2 : Hidden (((cntL (ls.take (q + 1)) y : Nat) : Int) = c) := ⟨by rw [hsn.out, if_neg hyx]; have := HC.out; omega⟩
                rw [decide_eq_false hyx]
                clear hyx
                go_wp2_with fail
                go_roundw
                case rel => exact ⟨q + 1, by omega, by go_num, by rw [hs2.out], H5.out⟩
                case measure => simp [intOf]; omega
            · obtain rfl : q = i := by omega
              have hd3 : decide ((q : Int) < (q : Int)) = false := decide_eq_false (by omega)
              have hwf : Hidden (wantF ls f t y = (decide (f ≤ c) && decide (c ≤ t))) := ⟨by unfold wantF; rw [← HC.out, List.take_of_length_le (by rw [HN.out]; exact Nat.le_refl _)]⟩
              have HW2 := Hidden.mk (HW.out.keep hmo)
              clear hmo HW
              have hno : ∀ (h : wantF ls f t y = false), Hidden (out = (A.take (j + 1)).filter (wantF ls f t)) := fun h => ⟨by rw [htk.out, h]; simp⟩
              have HNO := Hidden.mk hno
              clear hno
              by_cases h1 : f ≤ c
              · have h1d : decide (f ≤ c) = true := decide_eq_true h1
                by_cases h2 : c ≤ t
                · have h2d : decide (c ≤ t) = true := decide_eq_true h2
                  have hyes : Hidden (out ++ [y] = (A.take (j + 1)).filter (wantF ls f t)) := ⟨by rw [htk.out, hwf.out, h1d, h2d]; simp⟩
                  have hw2' := Hidden.mk (HW2.out.alloc (.cells #[.int .u64 y] 22))
                  have hi1 := Hidden.mk (icells_one .u64 [y])
                  have hn1 := Hidden.mk (holds_one wr (.int .u64 y) 22 rfl)
                  have hl2 := Hidden.mk (show out.length + 1 = (out ++ [y]).length from by simp)
                  clear h1 h2
                  go_wp2_with (refine wpList_any rfl (.tmp 61) (.tmp 63) 23 rfl 22 (.int .u64 0) 1 8 (by kernel_rfl) infoA64 rfl (by decide) _ _ _ rfl hw2'.out.row _ _ _ rfl hn1.out hi1.out (by omega) (by omega) ?_; intro b4 c4 w4 hr4 hm4 hf4; have hW4 := Hidden.mk (hw2'.out.next hr4 hm4 hf4 (m := out ++ [y]) (by simp [icells])); clear hr4 hm4 hf4)
                  go_roundw
                  case rel => exact ⟨j + 1, by omega, by go_num, by rw [← hyes.out, ← hl2.out]; exact hW4.out⟩
                  case measure => simp [intOf]; omega
                · have h2d : decide (c ≤ t) = false := decide_eq_false h2
                  have hE := HNO.out (by rw [hwf.out, h1d, h2d]; rfl)
                  clear h1 h2
                  go_wp2_with fail
                  go_roundw
                  case rel => exact ⟨j + 1, by omega, by go_num, by rw [← hE.out]; exact HW2.out⟩
                  case measure => simp [intOf]; omega
              · have h1d : decide (f ≤ c) = false := decide_eq_false h1
                have hE := HNO.out (by rw [hwf.out, h1d]; rfl)
                clear h1
                go_wp2_with fail
                go_roundw
                case rel => exact ⟨j + 1, by omega, by go_num, by rw [← hE.out]; exact HW2.out⟩
                case measure => simp [intOf]; omega
        · obtain rfl : j = m := by omega
          have hd2 : decide ((j : Int) < (j : Int)) = false := decide_eq_false (by omega)
          rw [show A.take j = A from List.take_of_length_le (by rw [HMM.out]; exact Nat.le_refl _)] at hW
          have HW := Hidden.mk hW
          clear hW
          go_wp2_with fail
          go_ret
          refine ⟨_, rfl, ?_, HI.out.2.trans HW.out.mod (by simp), fun b hb => Nat.le_trans HI.out.2.size (HW.out.ge b hb)⟩
          unfold wantL
          rw [HA.out]
          exact HW.out.isl.2
end Go.Proofs.Ytfioekkegihkoaa
