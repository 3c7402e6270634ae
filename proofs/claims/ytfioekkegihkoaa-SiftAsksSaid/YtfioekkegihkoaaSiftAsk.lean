/- SiftAsks: whether two sequences tell the same, or one all of the other. -/
import Derived.Test.YtfioekkegihkoaaSiftP
import Derived.Test.YtfioekkegihkoaaWords
namespace Go.Proofs.Ytfioekkegihkoaa
open Go.RowKit Go.Shelf
set_option linter.unusedVariables false
set_option linter.unusedSimpArgs false
theorem lessL_nil_iff (a b : List Int) : decide (lessL a b = []) = a.all (fun k => decide (k ∈ b)) := by
  rw [Bool.eq_iff_iff, decide_eq_true_iff, List.all_eq_true]
  unfold lessL
  rw [List.filter_eq_nil_iff]
  simp
theorem all_snoc {l : List Int} {f : Int → Bool} {i : Nat} {x : Int} (h : l[i]? = some x) : (l.take (i + 1)).all f = ((l.take i).all f && f x) := by
  rw [List.take_add_one, h, List.all_append]; simp
/-- Does a list rise up to a place? -/
def isrTo (l : List Int) (i : Nat) : Bool := decide (∀ p, p < i → 0 < p → l.getD (p - 1) 0 < l.getD p 0)
theorem isrTo_all {l : List Int} {i : Nat} (h : l.length ≤ i) (h2 : i ≤ l.length ∨ i ≤ 1) : isrTo l i = isr l := by
  unfold isrTo isr
  rw [decide_eq_decide]
  refine ⟨fun h1 p hp hp0 => h1 p (by omega) hp0, fun h1 p hp hp0 => h1 p ?_ hp0⟩
  omega
theorem isrTo_one (l : List Int) : isrTo l 1 = true := by unfold isrTo; rw [decide_eq_true_iff]; intro p hp hp0; omega
theorem isrTo_step {l : List Int} {i : Nat} {x y : Int} (hi : 0 < i) (hx : l.getD (i - 1) 0 = x) (hy : l.getD i 0 = y) : isrTo l (i + 1) = (isrTo l i && decide (x < y)) := by
  unfold isrTo
  rw [Bool.eq_iff_iff, Bool.and_eq_true, decide_eq_true_iff, decide_eq_true_iff, decide_eq_true_iff]
  refine ⟨fun h => ⟨fun p hp hp0 => h p (by omega) hp0, by have := h i (by omega) hi; rwa [hx, hy] at this⟩, fun ⟨h1, h2⟩ p hp hp0 => ?_⟩
  rcases Nat.lt_or_ge p i with h3 | h3
  · exact h1 p h3 hp0
  · obtain rfl : p = i := by omega
    rw [hx, hy]; exact h2
theorem andF_empty (a : List Int) : andF a [[]] = [] := by unfold andF; simp
theorem orF_nil2 (a : List Int) : orF [a, []] = a := by rw [orF_two, twoL_nil]
set_option maxRecDepth 100000 in
set_option maxHeartbeats 8000000 in
theorem siftAsks_walk {w : World} (a0 : Option Addr) (len0 cap0 : Nat) (z0 : List Int) (a1 : Option Addr) (len1 cap1 : Nat) (z1 : List Int) (a2 : Bool) (w0 : IntRow .u64 w a0 len0 cap0 z0) (y0 : len0 * 8 ≤ 140737488351232) (w1 : IntRow .u64 w a1 len1 cap1 z1) (y1 : len1 * 8 ≤ 140737488351232) :
    Calls Try.prog 7 #[.slice a0 len0 cap0, .slice a1 len1 cap1, .bool a2] w fun e w' => e = .returned (.bool true) ∧ Below w.heap.size w w' := by
  obtain ⟨hsl0, hlen0⟩ := w0.isl
  obtain ⟨hsl1, hlen1⟩ := w1.isl
  have G0 : Hidden (∀ W, Mod [] w W → _) := ⟨fun W hW => words_call 60 (by decide) _ _ W (hsl0.news hW)⟩
  have G1 : Hidden (∀ W, Mod [] w W → _) := ⟨fun W hW => words_call 60 (by decide) _ _ W (hsl1.news hW)⟩
  rw [hlen0] at G0
  rw [hlen1] at G1
  obtain ⟨A, hA⟩ : ∃ A, (z0.take len0).take 60 = A := ⟨_, rfl⟩
  obtain ⟨B0, hB0⟩ : ∃ B0, (z1.take len1).take 60 = B0 := ⟨_, rfl⟩
  have hAl : Hidden (A.length ≤ 60) := ⟨by rw [← hA]; simp; omega⟩
  have hBl : Hidden (B0.length ≤ 60) := ⟨by rw [← hB0]; simp; omega⟩
  rw [hA] at G0
  rw [hB0] at G1
  clear hA hB0 hsl0 hsl1 hlen0 hlen1 w0 y0 w1 y1
  go_enter Try.func7, Try.ntmps7
  go_wp2_with fail
  refine (awake18 _).mono ?_
  rintro e wa ⟨rfl, hm⟩
  have GA := Hidden.mk (G0.out wa hm)
  have HM0 := Hidden.mk hm
  clear hm G0
  go_wp2_with fail
  refine GA.out.mono ?_
  rintro e wb ⟨vA, rfl, hW⟩
  have HA := Hidden.mk hW.isl.2
  have HM1 := Hidden.mk (HM0.out.trans hW.mod (by simp))
  obtain ⟨pA, kA, rfl, -⟩ := HA.out.slice_
  have GB := Hidden.mk (G1.out wb HM1.out)
  clear hW GA G1
  go_wp2_with fail
  refine GB.out.mono ?_
  rintro e wc ⟨vB, rfl, hW⟩
  have HB0 := Hidden.mk hW.isl.2
  have HA1 := Hidden.mk (HA.out.news hW.mod)
  have HM2 := Hidden.mk (HM1.out.trans hW.mod (by simp))
  obtain ⟨pB, kB, rfl, -⟩ := HB0.out.slice_
  clear hW GB HA HM1 HM0
  cases a2 with
  | true =>
    have GA2 := Hidden.mk (words_call 60 (by decide) _ _ wc HA1.out)
    rw [show min A.length 60 = A.length from by have := hAl.out; omega, show A.take 60 = A from List.take_of_length_le hAl.out] at GA2
    have hal := hAl.out
    have hbl := hBl.out
    obtain ⟨nA, hnA⟩ : ∃ nA, A.length = nA := ⟨_, rfl⟩
    obtain ⟨nB, hnB⟩ : ∃ nB, B0.length = nB := ⟨_, rfl⟩
    have hHB : Hidden (∀ W, Mod [] wc W → Holds W (.slice pB nB kB) nB 1 (icells .u64 B0)) := ⟨fun W h => by rw [← hnB]; exact (HB0.out.news h).holds⟩
    rw [hnA] at hal GA2 ⊢
    rw [hnB] at hbl ⊢
    have HNN := Hidden.mk (And.intro hnA hnB)
    clear hnA hnB
    go_wp2_with fail
    refine GA2.out.mono ?_
    rintro e wk ⟨vK, rfl, hWk⟩
    have hw2 := Hidden.mk hWk
    have hi1 := Hidden.mk (icells_one .u64 B0)
    have hn1 := Hidden.mk (hHB.out _ hWk.mod)
    clear hWk GA2 hHB
    go_wp2_with (refine wpList_any rfl (.tmp 24) (.tmp 25) 23 rfl 22 (.int .u64 0) 1 8 (by kernel_rfl) infoA64 rfl (by decide) _ _ _ rfl hw2.out.row _ _ _ rfl hn1.out hi1.out (by omega) (by omega) ?_; intro b4 c4 w4 hr4 hm4 hf4; have hW4 := Hidden.mk (hw2.out.next hr4 hm4 hf4 (m := A ++ B0) (by simp [icells])); clear hr4 hm4 hf4 hw2)
    have HA := Hidden.mk (HA1.out.news hW4.out.mod)
    have HB := Hidden.mk hW4.out.isl.2
    have HM := Hidden.mk (HM2.out.trans hW4.out.mod (by simp))
    rw [← HNN.out.1, ← HNN.out.2, ← List.length_append] at HB ⊢
    obtain ⟨B, hB⟩ : ∃ B, A ++ B0 = B := ⟨_, rfl⟩
    have hBL : Hidden (B.length ≤ 120) := ⟨by rw [← hB, List.length_append]; have := hBl.out; have := hAl.out; omega⟩
    rw [hB] at HB ⊢
    clear HA1 HB0 HM2 hB hBl hal hbl HNN hW4 hn1 hi1
    obtain ⟨nA, hnA⟩ : ∃ nA, A.length = nA := ⟨_, rfl⟩
    have hnA' := hAl.out
    rw [hnA] at hnA'
    have HNA := Hidden.mk hnA
    clear hnA
    go_wp2_with fail
    refine (of11 HA.out (by have := hAl.out; omega)).mono ?_
    rintro e wd ⟨vX, rfl, hX, hm⟩
    have HX := Hidden.mk hX
    have HB' := Hidden.mk (HB.out.news hm)
    have HA' := Hidden.mk (HA.out.news hm)
    have HM' := Hidden.mk (HM.out.trans hm (by simp))
    obtain ⟨pX, kX, rfl, -⟩ := hX.slice_
    clear hX hm HA HB HM
    go_wp2_with fail
    refine (of11 HB'.out (by have := hBL.out; omega)).mono ?_
    rintro e we ⟨vY, rfl, hY, hm⟩
    have HF := Hidden.mk (And.intro (HA'.out.news hm) (And.intro (HB'.out.news hm) (And.intro (HX.out.news hm) (And.intro hY (HM'.out.trans hm (by simp))))))
    obtain ⟨pY, kY, rfl, -⟩ := hY.slice_
    have HXL : Hidden ((asc A).length ≤ 60) := ⟨by have := asc_le A; have := hAl.out; omega⟩
    have HYL : Hidden ((asc B).length ≤ 120) := ⟨by have := asc_le B; have := hBL.out; omega⟩
    have HXR := Hidden.mk (asc_rises A)
    have HYR := Hidden.mk (asc_rises B)
    clear hY hm HX HB' HA' HM'
    obtain ⟨X, hX⟩ : ∃ X, asc A = X := ⟨_, rfl⟩
    obtain ⟨Y, hY⟩ : ∃ Y, asc B = Y := ⟨_, rfl⟩
    rw [hX, hY] at HF ⊢
    rw [hX] at HXL HXR
    rw [hY] at HYL HYR
    have HXY := Hidden.mk (And.intro hX hY)
    clear hX hY
    obtain ⟨nX, hnX⟩ : ∃ nX, X.length = nX := ⟨_, rfl⟩
    have hnX' := HXL.out
    rw [hnX] at hnX'
    have HF2 : Hidden (ISl .u64 we (.slice pX nX kX) X) := ⟨by rw [← hnX]; exact HF.out.2.2.1⟩
    rw [hnX]
    have HNX := Hidden.mk hnX
    clear hnX
    go_wp2_with fail
    go_loopw [9, 11, 33] (fun vb _ iv wr => ∃ (i : Nat), i ≤ nX ∧ iv = .int .i64 i ∧ vb = .bool ((X.take i).all (fun k => decide (k ∈ Y))) ∧ Mod [] we wr) (fun _ _ iv _ => nX - (intOf iv).toNat)
    case atStart => exact ⟨0, Nat.zero_le _, rfl, rfl, Mod.refl _ _⟩
    case round =>
      obtain ⟨i, hi, rfl, rfl, hmo⟩ := hrel
      by_cases hin : i < nX
      · obtain ⟨g, off, x, rfl, hg, hx, hc⟩ := (HF2.out.news hmo).get hin
        have hd : decide ((i : Int) < (nX : Int)) = true := decide_eq_true (by omega)
        have hw1 : IntKind.i64.wrap ((i : Int) + 1) = i + 1 := IntWalk.i64_in _ (by omega)
        have hst := Hidden.mk (all_snoc (f := fun k => decide (k ∈ Y)) hx)
        have HMO := Hidden.mk hmo
        have HY1 := Hidden.mk (has18 x (HF.out.2.2.2.1.news hmo) (by have := HYL.out; omega) (rises_le HYR.out))
        clear hx hmo
        cases his : (X.take i).all (fun k => decide (k ∈ Y)) with
        | true =>
          rw [his] at hst
          clear his
          go_wp2_with fail
          refine HY1.out.mono ?_
          rintro e wf ⟨rfl, hm⟩
          have HM9 := Hidden.mk (HMO.out.trans hm (by simp))
          clear hm HY1 hc
          go_wp2_with fail
          go_roundw
          case rel => exact ⟨i + 1, by omega, by go_num, by rw [hst.out]; rfl, HM9.out⟩
          case measure => simp [intOf]; omega
        | false =>
          rw [his] at hst
          clear his HY1
          go_wp2_with fail
          go_roundw
          case rel => exact ⟨i + 1, by omega, by go_num, by rw [hst.out]; rfl, HMO.out⟩
          case measure => simp [intOf]; omega
      · obtain rfl : i = nX := by omega
        have hd : decide ((i : Int) < (i : Int)) = false := decide_eq_false (by omega)
        have hta : X.take i = X := List.take_of_length_le (by rw [HNX.out]; exact Nat.le_refl _)
        rw [hta]
        obtain ⟨wi, hwi⟩ : ∃ wi, X.all (fun k => decide (k ∈ Y)) = wi := ⟨_, rfl⟩
        rw [hwi]
        have HWI := Hidden.mk hwi
        have HR := Hidden.mk (And.intro (HF.out.1.news hmo) (And.intro (HF.out.2.1.news hmo) (And.intro (HF2.out.news hmo) (And.intro (HF.out.2.2.2.1.news hmo) (HF.out.2.2.2.2.trans hmo (by simp))))))
        clear hmo hta hwi HF HF2
        obtain ⟨wg, rfl⟩ : ∃ wg, wg = wr := ⟨_, rfl⟩
        rw [HNA.out]
        have HRA : Hidden (ISl .u64 wg (.slice pA nA kA) A) := ⟨by rw [← HNA.out]; exact HR.out.1⟩
        go_wp2_with fail
        go_loopw [12, 13] (fun vb iv wr => ∃ (j q : Nat), 1 ≤ j ∧ (j ≤ nA ∨ j ≤ 1) ∧ iv = .int .i64 j ∧ vb = .bool (isrTo A j) ∧ wr = wg.drewN q) (fun _ iv _ => nA + 1 - (intOf iv).toNat)
        case atStart => exact ⟨1, 0, Nat.le_refl _, .inr (Nat.le_refl _), rfl, by rw [isrTo_one], rfl⟩
        case round =>
          obtain ⟨j, q, hj1, hj2, rfl, rfl, rfl⟩ := hrel
          by_cases hjn : j < nA
          · obtain ⟨g, off, x, rfl, hg, hx, hc1⟩ := HRA.out.get hjn
            obtain ⟨g', off', y, he, hg', hy, hc2⟩ := HRA.out.get (i := j - 1) (by omega)
            injection he with he
            injection he with e1 e2
            subst e1 e2
            have hc1' : (wg.drewN q).cell? ⟨g, off + j, none⟩ = some (.int .u64 x) := hc1
            have hc2' : (wg.drewN q).cell? ⟨g, off + (j - 1), none⟩ = some (.int .u64 y) := hc2
            have hst : Hidden (isrTo A (j + 1) = (isrTo A j && decide (y < x))) := ⟨isrTo_step (by omega) (by rw [List.getD_eq_getElem?_getD, hy]; rfl) (by rw [List.getD_eq_getElem?_getD, hx]; rfl)⟩
            have hd2 : decide ((j : Int) < (nA : Int)) = true := decide_eq_true (by omega)
            have hz : (0 : Int) < (j : Int) := by omega
            have hw2 : IntKind.i64.wrap ((j : Int) + 1) = j + 1 := IntWalk.i64_in _ (by omega)
            clear hc1 hc2 hx hy hg hg'
            obtain ⟨W, hW⟩ : ∃ W, wg.drewN q = W := ⟨_, rfl⟩
            rw [hW] at hc1' hc2' ⊢
            have HW := Hidden.mk hW
            clear hW
            cases his : isrTo A j with
            | true =>
              rw [his] at hst
              clear his
              go_wp2_with fail
              go_quiet (fail)
              go_wp2_with fail
              go_roundw
              case rel => exact ⟨j + 1, q + nq, by omega, by omega, by go_num, by rw [hst.out]; rfl, by rw [← HW.out]; exact drewN_add wg q nq⟩
              case measure => simp [intOf]; omega
            | false =>
              rw [his] at hst
              clear his
              go_wp2_with fail
              go_quiet (fail)
              go_wp2_with fail
              go_roundw
              case rel => exact ⟨j + 1, q + nq, by omega, by omega, by go_num, by rw [hst.out]; rfl, by rw [← HW.out]; exact drewN_add wg q nq⟩
              case measure => simp [intOf]; omega
          · have hd2 : decide ((j : Int) < (nA : Int)) = false := decide_eq_false (by omega)
            have hri : isrTo A j = isr A := isrTo_all (by rw [HNA.out]; omega) (by rw [HNA.out]; omega)
            rw [hri]
            obtain ⟨ri, hri'⟩ : ∃ ri, isr A = ri := ⟨_, rfl⟩
            rw [hri']
            have HRI := Hidden.mk hri'
            have HRR := Hidden.mk (And.intro (HR.out.1.drewN q) (And.intro (HR.out.2.1.drewN q) (And.intro (HR.out.2.2.1.drewN q) (And.intro (HR.out.2.2.2.1.drewN q) (HR.out.2.2.2.2.drewN q)))))
            obtain ⟨wh, hwh⟩ : ∃ wh, wg.drewN q = wh := ⟨_, rfl⟩
            rw [hwh] at HRR ⊢
            have HNXR : Hidden (decide (([] : List Int) = X) = ((i : Int) == 0)) := ⟨by rw [← HNX.out]; cases X <;> simp; omega⟩
            clear hwh hri hri' HR HRA
            rw [HNA.out] at HRR
            go_wp2_with fail
            refine (sift_of HRR.out.1 (by rw [HNA.out]; omega)).mono ?_
            rintro e wi' ⟨g1, b1, R1, rfl, h1, hm, hr1⟩
            rw [HXY.out.1] at h1
            have K1 := Hidden.mk (And.intro h1 (And.intro hm hr1))
            clear h1 hm hr1
            go_wp2_with fail
            refine (sift_of (HRR.out.2.1.news K1.out.2.1) (by have := hBL.out; omega)).mono ?_
            rintro e wj ⟨g2, b2, R2, rfl, h2, hm, hr2⟩
            rw [HXY.out.2] at h2
            have hmz := K1.out.2.1.trans hm (by simp)
            have Z1 := Hidden.mk (K1.out.1.news hm)
            have Z1R : Hidden (∀ q ∈ R1, q < wj.heap.size) := ⟨fun q hq => Nat.lt_of_lt_of_le (K1.out.2.2 q hq).2 hm.size⟩
            have Z2 := Hidden.mk h2
            have Z2R : Hidden (∀ q ∈ R2, q < wj.heap.size) := ⟨fun q hq => (hr2 q hq).2⟩
            have ZF := Hidden.mk (And.intro (HRR.out.1.news hmz) (And.intro (HRR.out.2.2.1.news hmz) (And.intro (HRR.out.2.2.2.1.news hmz) (HRR.out.2.2.2.2.trans hmz (by simp)))))
            have HC0 := Hidden.mk (Mod.refl [] wj)
            clear h2 hm hmz hr2 K1 HRR
            go_wp2_with fail
            refine (sift_equal Z1.out Z2.out (by have := HXL.out; omega) (by have := HYL.out; omega)).mono ?_
            rintro e u1 ⟨rfl, hm⟩
            have HC1 := Hidden.mk hm
            clear hm
            obtain ⟨d, hd9⟩ : ∃ d, decide (X = Y) = d := ⟨_, rfl⟩
            rw [hd9]
            have HD := Hidden.mk hd9
            clear hd9
            go_wp2_with fail
            refine (same01 (ZF.out.2.1.news HC1.out) (ZF.out.2.2.1.news HC1.out) (by have := HXL.out; omega) (by have := HYL.out; omega)).mono ?_
            rintro e u2 ⟨rfl, q2, hq2⟩
            have HC2 : Hidden (Mod [] wj u2) := ⟨by rw [hq2]; exact HC1.out.drewN q2⟩
            rw [HD.out]
            clear hq2
            go_wp2_with fail
            refine (within_call (Z1.out.news HC2.out) (Z2.out.news HC2.out) (fun q hq => Nat.lt_of_lt_of_le (Z1R.out q hq) HC2.out.size) (fun q hq => Nat.lt_of_lt_of_le (Z2R.out q hq) HC2.out.size) (by have := HXL.out; omega) (by have := HYL.out; omega) HXR.out HYR.out).mono ?_
            rintro e u3 ⟨rfl, hm⟩
            have HC3 := Hidden.mk (HC2.out.trans hm (by simp))
            rw [lessL_nil_iff, HWI.out]
            clear hm
            go_wp2_with fail
            refine (sift_rises (ZF.out.1.news HC3.out) (by rw [HNA.out]; omega)).mono ?_
            rintro e u4 ⟨rfl, q4, hq4⟩
            have HC4 : Hidden (Mod [] wj u4) := ⟨by rw [hq4]; exact HC3.out.drewN q4⟩
            rw [HRI.out]
            clear hq4
            go_wp2_with fail
            refine (told18 (Z1.out.news HC4.out) (by have := HXL.out; omega) (ZF.out.2.1.news HC4.out) (by have := HXL.out; omega) (by decide)).mono ?_
            rintro e u5 ⟨rfl, hm⟩
            have HC5 := Hidden.mk (HC4.out.trans hm (by simp))
            rw [decide_eq_true (rfl : X = X)]
            clear hm
            go_wp2_with fail
            have hm6 : Mod [] u5 (u5.alloc (.cells #[.func (.func g1) #[] b1, .nilFunc] 43)) := (Mod.refl [] u5).alloc _
            have HL6 := Hidden.mk (LSeq.two (Blk.new u5 43 #[.func (.func g1) #[] b1, .nilFunc]) ((Z1.out.news HC5.out).news hm6) (SeqL.nil_ _))
            have HR6 : Hidden (∀ q ∈ u5.heap.size :: (R1 ++ []), q < (u5.alloc (.cells #[.func (.func g1) #[] b1, .nilFunc] 43)).heap.size) := ⟨fun q hq => by
              simp only [List.append_nil, List.mem_cons] at hq
              have e1 : (u5.alloc (.cells #[.func (.func g1) #[] b1, .nilFunc] 43)).heap.size = u5.heap.size + 1 := by simp
              rw [e1]
              rcases hq with rfl | hq
              · omega
              · have := Z1R.out q hq; have := HC5.out.size; omega⟩
            have HC6 := Hidden.mk (HC5.out.trans hm6 (by simp))
            clear hm6
            refine (or_call HL6.out HR6.out (by intro l hl; simp only [List.mem_cons, List.not_mem_nil, or_false] at hl; have := HXL.out; rcases hl with rfl | rfl; omega; simp) (by simp)).mono ?_
            rintro e u7 ⟨g7, b7, R7, rfl, h7, hm, -⟩
            rw [orF_nil2] at h7
            have Z7 := Hidden.mk h7
            have HC7 := Hidden.mk (HC6.out.trans hm (by simp))
            clear h7 hm HL6 HR6
            go_wp2_with fail
            refine (told18 Z7.out (by have := HXL.out; omega) (ZF.out.2.1.news HC7.out) (by have := HXL.out; omega) (by decide)).mono ?_
            rintro e u8 ⟨rfl, hm⟩
            have HC8 := Hidden.mk (HC7.out.trans hm (by simp))
            rw [decide_eq_true (rfl : X = X)]
            clear hm
            go_wp2_with fail
            have hm9 : Mod [] u8 (u8.alloc (.cells #[.func (.func g1) #[] b1, .nilFunc] 43)) := (Mod.refl [] u8).alloc _
            have HL9 := Hidden.mk (LSeq.two (Blk.new u8 43 #[.func (.func g1) #[] b1, .nilFunc]) ((Z1.out.news HC8.out).news hm9) (SeqL.nil_ _))
            have HR9 : Hidden (∀ q ∈ u8.heap.size :: (R1 ++ []), q < (u8.alloc (.cells #[.func (.func g1) #[] b1, .nilFunc] 43)).heap.size) := ⟨fun q hq => by
              simp only [List.append_nil, List.mem_cons] at hq
              have e1 : (u8.alloc (.cells #[.func (.func g1) #[] b1, .nilFunc] 43)).heap.size = u8.heap.size + 1 := by simp
              rw [e1]
              rcases hq with rfl | hq
              · omega
              · have := Z1R.out q hq; have := HC8.out.size; omega⟩
            have HC9 := Hidden.mk (HC8.out.trans hm9 (by simp))
            clear hm9
            refine (and_call HL9.out HR9.out (by intro l hl; simp only [List.mem_cons, List.not_mem_nil, or_false] at hl; have := HXL.out; rcases hl with rfl | rfl; omega; simp) (by intro l hl; simp only [List.mem_cons, List.not_mem_nil, or_false] at hl; rcases hl with rfl | rfl; exact HXR.out; exact List.Pairwise.nil) (by simp)).mono ?_
            rintro e u10 ⟨g10, b10, R10, rfl, h10, hm, -⟩
            rw [andF_empty] at h10
            have Z10 := Hidden.mk h10
            have HC10 := Hidden.mk (HC9.out.trans hm (by simp))
            clear h10 hm HL9 HR9
            go_wp2_with fail
            refine (sift_count Z10.out (by simp)).mono ?_
            rintro e u11 ⟨rfl, hm⟩
            have HC11 := Hidden.mk (HC10.out.trans hm (by simp))
            clear hm
            simp only [List.length_nil]
            go_wp2_with fail
            refine (sift_count (SeqL.nil_ _) (by simp)).mono ?_
            rintro e u12 ⟨rfl, hm⟩
            have HC12 := Hidden.mk (HC11.out.trans hm (by simp))
            clear hm
            simp only [List.length_nil]
            go_wp2_with fail
            refine (sift_first (SeqL.nil_ _) (by simp) 3 (by omega)).mono ?_
            rintro e u13 ⟨v13, rfl, h13, hm, -⟩
            have HC13 := Hidden.mk (HC12.out.trans hm (by simp))
            rw [List.take_nil] at h13
            obtain ⟨p13, k13, rfl, -⟩ := h13.none_
            clear hm h13
            go_wp2_with fail
            refine (within_call (SeqL.nil_ _) (Z1.out.news HC13.out) (by simp) (fun q hq => Nat.lt_of_lt_of_le (Z1R.out q hq) HC13.out.size) (by simp) (by have := HXL.out; omega) List.Pairwise.nil HXR.out).mono ?_
            rintro e u14 ⟨rfl, hm⟩
            have HC14 := Hidden.mk (HC13.out.trans hm (by simp))
            rw [show decide (lessL [] X = []) = true from rfl]
            clear hm
            go_wp2_with fail
            refine (sift_equal (SeqL.nil_ _) (Z1.out.news HC14.out) (by simp) (by have := HXL.out; omega)).mono ?_
            rintro e u15 ⟨rfl, hm⟩
            have HC15 := Hidden.mk (HC14.out.trans hm (by simp))
            clear hm
            rw [HNXR.out]
            obtain ⟨zb, hzb⟩ : ∃ zb, ((i : Int) == 0) = zb := ⟨_, rfl⟩
            rw [hzb]
            go_wp2_with fail
            refine (less_call (SeqL.nil_ _) (Z1.out.news HC15.out) (by simp) (fun q hq => Nat.lt_of_lt_of_le (Z1R.out q hq) HC15.out.size) (by simp) (by have := HXL.out; omega) List.Pairwise.nil HXR.out).mono ?_
            rintro e u16 ⟨g16, b16, R16, rfl, h16, hm, -⟩
            rw [show lessL [] X = [] from rfl] at h16
            have Z16 := Hidden.mk h16
            have HC16 := Hidden.mk (HC15.out.trans hm (by simp))
            clear h16 hm
            go_wp2_with fail
            refine (sift_count Z16.out (by simp)).mono ?_
            rintro e u17 ⟨rfl, hm⟩
            have HC17 := Hidden.mk (HC16.out.trans hm (by simp))
            clear hm
            simp only [List.length_nil]
            go_wp2_with fail
            go_ret
            exact ⟨rfl, (ZF.out.2.2.2.trans HC17.out (by simp)).below'⟩
  | false =>
    have HA := Hidden.mk HA1.out
    have HB := Hidden.mk HB0.out
    have HM := Hidden.mk HM2.out
    obtain ⟨B, hB⟩ : ∃ B, B0 = B := ⟨_, rfl⟩
    have hBL : Hidden (B.length ≤ 120) := ⟨by rw [← hB]; have := hBl.out; omega⟩
    rw [hB] at HB ⊢
    clear HA1 HB0 HM2 hB hBl
    obtain ⟨nA, hnA⟩ : ∃ nA, A.length = nA := ⟨_, rfl⟩
    have hnA' := hAl.out
    rw [hnA] at hnA'
    have HNA := Hidden.mk hnA
    clear hnA
    go_wp2_with fail
    refine (of11 HA.out (by have := hAl.out; omega)).mono ?_
    rintro e wd ⟨vX, rfl, hX, hm⟩
    have HX := Hidden.mk hX
    have HB' := Hidden.mk (HB.out.news hm)
    have HA' := Hidden.mk (HA.out.news hm)
    have HM' := Hidden.mk (HM.out.trans hm (by simp))
    obtain ⟨pX, kX, rfl, -⟩ := hX.slice_
    clear hX hm HA HB HM
    go_wp2_with fail
    refine (of11 HB'.out (by have := hBL.out; omega)).mono ?_
    rintro e we ⟨vY, rfl, hY, hm⟩
    have HF := Hidden.mk (And.intro (HA'.out.news hm) (And.intro (HB'.out.news hm) (And.intro (HX.out.news hm) (And.intro hY (HM'.out.trans hm (by simp))))))
    obtain ⟨pY, kY, rfl, -⟩ := hY.slice_
    have HXL : Hidden ((asc A).length ≤ 60) := ⟨by have := asc_le A; have := hAl.out; omega⟩
    have HYL : Hidden ((asc B).length ≤ 120) := ⟨by have := asc_le B; have := hBL.out; omega⟩
    have HXR := Hidden.mk (asc_rises A)
    have HYR := Hidden.mk (asc_rises B)
    clear hY hm HX HB' HA' HM'
    obtain ⟨X, hX⟩ : ∃ X, asc A = X := ⟨_, rfl⟩
    obtain ⟨Y, hY⟩ : ∃ Y, asc B = Y := ⟨_, rfl⟩
    rw [hX, hY] at HF ⊢
    rw [hX] at HXL HXR
    rw [hY] at HYL HYR
    have HXY := Hidden.mk (And.intro hX hY)
    clear hX hY
    obtain ⟨nX, hnX⟩ : ∃ nX, X.length = nX := ⟨_, rfl⟩
    have hnX' := HXL.out
    rw [hnX] at hnX'
    have HF2 : Hidden (ISl .u64 we (.slice pX nX kX) X) := ⟨by rw [← hnX]; exact HF.out.2.2.1⟩
    rw [hnX]
    have HNX := Hidden.mk hnX
    clear hnX
    go_wp2_with fail
    go_loopw [9, 11, 33] (fun vb _ iv wr => ∃ (i : Nat), i ≤ nX ∧ iv = .int .i64 i ∧ vb = .bool ((X.take i).all (fun k => decide (k ∈ Y))) ∧ Mod [] we wr) (fun _ _ iv _ => nX - (intOf iv).toNat)
    case atStart => exact ⟨0, Nat.zero_le _, rfl, rfl, Mod.refl _ _⟩
    case round =>
      obtain ⟨i, hi, rfl, rfl, hmo⟩ := hrel
      by_cases hin : i < nX
      · obtain ⟨g, off, x, rfl, hg, hx, hc⟩ := (HF2.out.news hmo).get hin
        have hd : decide ((i : Int) < (nX : Int)) = true := decide_eq_true (by omega)
        have hw1 : IntKind.i64.wrap ((i : Int) + 1) = i + 1 := IntWalk.i64_in _ (by omega)
        have hst := Hidden.mk (all_snoc (f := fun k => decide (k ∈ Y)) hx)
        have HMO := Hidden.mk hmo
        have HY1 := Hidden.mk (has18 x (HF.out.2.2.2.1.news hmo) (by have := HYL.out; omega) (rises_le HYR.out))
        clear hx hmo
        cases his : (X.take i).all (fun k => decide (k ∈ Y)) with
        | true =>
          rw [his] at hst
          clear his
          go_wp2_with fail
          refine HY1.out.mono ?_
          rintro e wf ⟨rfl, hm⟩
          have HM9 := Hidden.mk (HMO.out.trans hm (by simp))
          clear hm HY1 hc
          go_wp2_with fail
          go_roundw
          case rel => exact ⟨i + 1, by omega, by go_num, by rw [hst.out]; rfl, HM9.out⟩
          case measure => simp [intOf]; omega
        | false =>
          rw [his] at hst
          clear his HY1
          go_wp2_with fail
          go_roundw
          case rel => exact ⟨i + 1, by omega, by go_num, by rw [hst.out]; rfl, HMO.out⟩
          case measure => simp [intOf]; omega
      · obtain rfl : i = nX := by omega
        have hd : decide ((i : Int) < (i : Int)) = false := decide_eq_false (by omega)
        have hta : X.take i = X := List.take_of_length_le (by rw [HNX.out]; exact Nat.le_refl _)
        rw [hta]
        obtain ⟨wi, hwi⟩ : ∃ wi, X.all (fun k => decide (k ∈ Y)) = wi := ⟨_, rfl⟩
        rw [hwi]
        have HWI := Hidden.mk hwi
        have HR := Hidden.mk (And.intro (HF.out.1.news hmo) (And.intro (HF.out.2.1.news hmo) (And.intro (HF2.out.news hmo) (And.intro (HF.out.2.2.2.1.news hmo) (HF.out.2.2.2.2.trans hmo (by simp))))))
        clear hmo hta hwi HF HF2
        obtain ⟨wg, rfl⟩ : ∃ wg, wg = wr := ⟨_, rfl⟩
        rw [HNA.out]
        have HRA : Hidden (ISl .u64 wg (.slice pA nA kA) A) := ⟨by rw [← HNA.out]; exact HR.out.1⟩
        go_wp2_with fail
        go_loopw [12, 13] (fun vb iv wr => ∃ (j q : Nat), 1 ≤ j ∧ (j ≤ nA ∨ j ≤ 1) ∧ iv = .int .i64 j ∧ vb = .bool (isrTo A j) ∧ wr = wg.drewN q) (fun _ iv _ => nA + 1 - (intOf iv).toNat)
        case atStart => exact ⟨1, 0, Nat.le_refl _, .inr (Nat.le_refl _), rfl, by rw [isrTo_one], rfl⟩
        case round =>
          obtain ⟨j, q, hj1, hj2, rfl, rfl, rfl⟩ := hrel
          by_cases hjn : j < nA
          · obtain ⟨g, off, x, rfl, hg, hx, hc1⟩ := HRA.out.get hjn
            obtain ⟨g', off', y, he, hg', hy, hc2⟩ := HRA.out.get (i := j - 1) (by omega)
            injection he with he
            injection he with e1 e2
            subst e1 e2
            have hc1' : (wg.drewN q).cell? ⟨g, off + j, none⟩ = some (.int .u64 x) := hc1
            have hc2' : (wg.drewN q).cell? ⟨g, off + (j - 1), none⟩ = some (.int .u64 y) := hc2
            have hst : Hidden (isrTo A (j + 1) = (isrTo A j && decide (y < x))) := ⟨isrTo_step (by omega) (by rw [List.getD_eq_getElem?_getD, hy]; rfl) (by rw [List.getD_eq_getElem?_getD, hx]; rfl)⟩
            have hd2 : decide ((j : Int) < (nA : Int)) = true := decide_eq_true (by omega)
            have hz : (0 : Int) < (j : Int) := by omega
            have hw2 : IntKind.i64.wrap ((j : Int) + 1) = j + 1 := IntWalk.i64_in _ (by omega)
            clear hc1 hc2 hx hy hg hg'
            obtain ⟨W, hW⟩ : ∃ W, wg.drewN q = W := ⟨_, rfl⟩
            rw [hW] at hc1' hc2' ⊢
            have HW := Hidden.mk hW
            clear hW
            cases his : isrTo A j with
            | true =>
              rw [his] at hst
              clear his
              go_wp2_with fail
              go_quiet (fail)
              go_wp2_with fail
              go_roundw
              case rel => exact ⟨j + 1, q + nq, by omega, by omega, by go_num, by rw [hst.out]; rfl, by rw [← HW.out]; exact drewN_add wg q nq⟩
              case measure => simp [intOf]; omega
            | false =>
              rw [his] at hst
              clear his
              go_wp2_with fail
              go_quiet (fail)
              go_wp2_with fail
              go_roundw
              case rel => exact ⟨j + 1, q + nq, by omega, by omega, by go_num, by rw [hst.out]; rfl, by rw [← HW.out]; exact drewN_add wg q nq⟩
              case measure => simp [intOf]; omega
          · have hd2 : decide ((j : Int) < (nA : Int)) = false := decide_eq_false (by omega)
            have hri : isrTo A j = isr A := isrTo_all (by rw [HNA.out]; omega) (by rw [HNA.out]; omega)
            rw [hri]
            obtain ⟨ri, hri'⟩ : ∃ ri, isr A = ri := ⟨_, rfl⟩
            rw [hri']
            have HRI := Hidden.mk hri'
            have HRR := Hidden.mk (And.intro (HR.out.1.drewN q) (And.intro (HR.out.2.1.drewN q) (And.intro (HR.out.2.2.1.drewN q) (And.intro (HR.out.2.2.2.1.drewN q) (HR.out.2.2.2.2.drewN q)))))
            obtain ⟨wh, hwh⟩ : ∃ wh, wg.drewN q = wh := ⟨_, rfl⟩
            rw [hwh] at HRR ⊢
            have HNXR : Hidden (decide (([] : List Int) = X) = ((i : Int) == 0)) := ⟨by rw [← HNX.out]; cases X <;> simp; omega⟩
            clear hwh hri hri' HR HRA
            rw [HNA.out] at HRR
            go_wp2_with fail
            refine (sift_of HRR.out.1 (by rw [HNA.out]; omega)).mono ?_
            rintro e wi' ⟨g1, b1, R1, rfl, h1, hm, hr1⟩
            rw [HXY.out.1] at h1
            have K1 := Hidden.mk (And.intro h1 (And.intro hm hr1))
            clear h1 hm hr1
            go_wp2_with fail
            refine (sift_of (HRR.out.2.1.news K1.out.2.1) (by have := hBL.out; omega)).mono ?_
            rintro e wj ⟨g2, b2, R2, rfl, h2, hm, hr2⟩
            rw [HXY.out.2] at h2
            have hmz := K1.out.2.1.trans hm (by simp)
            have Z1 := Hidden.mk (K1.out.1.news hm)
            have Z1R : Hidden (∀ q ∈ R1, q < wj.heap.size) := ⟨fun q hq => Nat.lt_of_lt_of_le (K1.out.2.2 q hq).2 hm.size⟩
            have Z2 := Hidden.mk h2
            have Z2R : Hidden (∀ q ∈ R2, q < wj.heap.size) := ⟨fun q hq => (hr2 q hq).2⟩
            have ZF := Hidden.mk (And.intro (HRR.out.1.news hmz) (And.intro (HRR.out.2.2.1.news hmz) (And.intro (HRR.out.2.2.2.1.news hmz) (HRR.out.2.2.2.2.trans hmz (by simp)))))
            have HC0 := Hidden.mk (Mod.refl [] wj)
            clear h2 hm hmz hr2 K1 HRR
            go_wp2_with fail
            refine (sift_equal Z1.out Z2.out (by have := HXL.out; omega) (by have := HYL.out; omega)).mono ?_
            rintro e u1 ⟨rfl, hm⟩
            have HC1 := Hidden.mk hm
            clear hm
            obtain ⟨d, hd9⟩ : ∃ d, decide (X = Y) = d := ⟨_, rfl⟩
            rw [hd9]
            have HD := Hidden.mk hd9
            clear hd9
            go_wp2_with fail
            refine (same01 (ZF.out.2.1.news HC1.out) (ZF.out.2.2.1.news HC1.out) (by have := HXL.out; omega) (by have := HYL.out; omega)).mono ?_
            rintro e u2 ⟨rfl, q2, hq2⟩
            have HC2 : Hidden (Mod [] wj u2) := ⟨by rw [hq2]; exact HC1.out.drewN q2⟩
            rw [HD.out]
            clear hq2
            go_wp2_with fail
            refine (within_call (Z1.out.news HC2.out) (Z2.out.news HC2.out) (fun q hq => Nat.lt_of_lt_of_le (Z1R.out q hq) HC2.out.size) (fun q hq => Nat.lt_of_lt_of_le (Z2R.out q hq) HC2.out.size) (by have := HXL.out; omega) (by have := HYL.out; omega) HXR.out HYR.out).mono ?_
            rintro e u3 ⟨rfl, hm⟩
            have HC3 := Hidden.mk (HC2.out.trans hm (by simp))
            rw [lessL_nil_iff, HWI.out]
            clear hm
            go_wp2_with fail
            refine (sift_rises (ZF.out.1.news HC3.out) (by rw [HNA.out]; omega)).mono ?_
            rintro e u4 ⟨rfl, q4, hq4⟩
            have HC4 : Hidden (Mod [] wj u4) := ⟨by rw [hq4]; exact HC3.out.drewN q4⟩
            rw [HRI.out]
            clear hq4
            go_wp2_with fail
            refine (told18 (Z1.out.news HC4.out) (by have := HXL.out; omega) (ZF.out.2.1.news HC4.out) (by have := HXL.out; omega) (by decide)).mono ?_
            rintro e u5 ⟨rfl, hm⟩
            have HC5 := Hidden.mk (HC4.out.trans hm (by simp))
            rw [decide_eq_true (rfl : X = X)]
            clear hm
            go_wp2_with fail
            have hm6 : Mod [] u5 (u5.alloc (.cells #[.func (.func g1) #[] b1, .nilFunc] 43)) := (Mod.refl [] u5).alloc _
            have HL6 := Hidden.mk (LSeq.two (Blk.new u5 43 #[.func (.func g1) #[] b1, .nilFunc]) ((Z1.out.news HC5.out).news hm6) (SeqL.nil_ _))
            have HR6 : Hidden (∀ q ∈ u5.heap.size :: (R1 ++ []), q < (u5.alloc (.cells #[.func (.func g1) #[] b1, .nilFunc] 43)).heap.size) := ⟨fun q hq => by
              simp only [List.append_nil, List.mem_cons] at hq
              have e1 : (u5.alloc (.cells #[.func (.func g1) #[] b1, .nilFunc] 43)).heap.size = u5.heap.size + 1 := by simp
              rw [e1]
              rcases hq with rfl | hq
              · omega
              · have := Z1R.out q hq; have := HC5.out.size; omega⟩
            have HC6 := Hidden.mk (HC5.out.trans hm6 (by simp))
            clear hm6
            refine (or_call HL6.out HR6.out (by intro l hl; simp only [List.mem_cons, List.not_mem_nil, or_false] at hl; have := HXL.out; rcases hl with rfl | rfl; omega; simp) (by simp)).mono ?_
            rintro e u7 ⟨g7, b7, R7, rfl, h7, hm, -⟩
            rw [orF_nil2] at h7
            have Z7 := Hidden.mk h7
            have HC7 := Hidden.mk (HC6.out.trans hm (by simp))
            clear h7 hm HL6 HR6
            go_wp2_with fail
            refine (told18 Z7.out (by have := HXL.out; omega) (ZF.out.2.1.news HC7.out) (by have := HXL.out; omega) (by decide)).mono ?_
            rintro e u8 ⟨rfl, hm⟩
            have HC8 := Hidden.mk (HC7.out.trans hm (by simp))
            rw [decide_eq_true (rfl : X = X)]
            clear hm
            go_wp2_with fail
            have hm9 : Mod [] u8 (u8.alloc (.cells #[.func (.func g1) #[] b1, .nilFunc] 43)) := (Mod.refl [] u8).alloc _
            have HL9 := Hidden.mk (LSeq.two (Blk.new u8 43 #[.func (.func g1) #[] b1, .nilFunc]) ((Z1.out.news HC8.out).news hm9) (SeqL.nil_ _))
            have HR9 : Hidden (∀ q ∈ u8.heap.size :: (R1 ++ []), q < (u8.alloc (.cells #[.func (.func g1) #[] b1, .nilFunc] 43)).heap.size) := ⟨fun q hq => by
              simp only [List.append_nil, List.mem_cons] at hq
              have e1 : (u8.alloc (.cells #[.func (.func g1) #[] b1, .nilFunc] 43)).heap.size = u8.heap.size + 1 := by simp
              rw [e1]
              rcases hq with rfl | hq
              · omega
              · have := Z1R.out q hq; have := HC8.out.size; omega⟩
            have HC9 := Hidden.mk (HC8.out.trans hm9 (by simp))
            clear hm9
            refine (and_call HL9.out HR9.out (by intro l hl; simp only [List.mem_cons, List.not_mem_nil, or_false] at hl; have := HXL.out; rcases hl with rfl | rfl; omega; simp) (by intro l hl; simp only [List.mem_cons, List.not_mem_nil, or_false] at hl; rcases hl with rfl | rfl; exact HXR.out; exact List.Pairwise.nil) (by simp)).mono ?_
            rintro e u10 ⟨g10, b10, R10, rfl, h10, hm, -⟩
            rw [andF_empty] at h10
            have Z10 := Hidden.mk h10
            have HC10 := Hidden.mk (HC9.out.trans hm (by simp))
            clear h10 hm HL9 HR9
            go_wp2_with fail
            refine (sift_count Z10.out (by simp)).mono ?_
            rintro e u11 ⟨rfl, hm⟩
            have HC11 := Hidden.mk (HC10.out.trans hm (by simp))
            clear hm
            simp only [List.length_nil]
            go_wp2_with fail
            refine (sift_count (SeqL.nil_ _) (by simp)).mono ?_
            rintro e u12 ⟨rfl, hm⟩
            have HC12 := Hidden.mk (HC11.out.trans hm (by simp))
            clear hm
            simp only [List.length_nil]
            go_wp2_with fail
            refine (sift_first (SeqL.nil_ _) (by simp) 3 (by omega)).mono ?_
            rintro e u13 ⟨v13, rfl, h13, hm, -⟩
            have HC13 := Hidden.mk (HC12.out.trans hm (by simp))
            rw [List.take_nil] at h13
            obtain ⟨p13, k13, rfl, -⟩ := h13.none_
            clear hm h13
            go_wp2_with fail
            refine (within_call (SeqL.nil_ _) (Z1.out.news HC13.out) (by simp) (fun q hq => Nat.lt_of_lt_of_le (Z1R.out q hq) HC13.out.size) (by simp) (by have := HXL.out; omega) List.Pairwise.nil HXR.out).mono ?_
            rintro e u14 ⟨rfl, hm⟩
            have HC14 := Hidden.mk (HC13.out.trans hm (by simp))
            rw [show decide (lessL [] X = []) = true from rfl]
            clear hm
            go_wp2_with fail
            refine (sift_equal (SeqL.nil_ _) (Z1.out.news HC14.out) (by simp) (by have := HXL.out; omega)).mono ?_
            rintro e u15 ⟨rfl, hm⟩
            have HC15 := Hidden.mk (HC14.out.trans hm (by simp))
            clear hm
            rw [HNXR.out]
            obtain ⟨zb, hzb⟩ : ∃ zb, ((i : Int) == 0) = zb := ⟨_, rfl⟩
            rw [hzb]
            go_wp2_with fail
            refine (less_call (SeqL.nil_ _) (Z1.out.news HC15.out) (by simp) (fun q hq => Nat.lt_of_lt_of_le (Z1R.out q hq) HC15.out.size) (by simp) (by have := HXL.out; omega) List.Pairwise.nil HXR.out).mono ?_
            rintro e u16 ⟨g16, b16, R16, rfl, h16, hm, -⟩
            rw [show lessL [] X = [] from rfl] at h16
            have Z16 := Hidden.mk h16
            have HC16 := Hidden.mk (HC15.out.trans hm (by simp))
            clear h16 hm
            go_wp2_with fail
            refine (sift_count Z16.out (by simp)).mono ?_
            rintro e u17 ⟨rfl, hm⟩
            have HC17 := Hidden.mk (HC16.out.trans hm (by simp))
            clear hm
            simp only [List.length_nil]
            go_wp2_with fail
            go_ret
            exact ⟨rfl, (ZF.out.2.2.2.trans HC17.out (by simp)).below'⟩
end Go.Proofs.Ytfioekkegihkoaa
