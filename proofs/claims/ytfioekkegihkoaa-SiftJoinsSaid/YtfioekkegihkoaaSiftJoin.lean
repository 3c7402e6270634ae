/- SiftJoins: what one, all, the first alone and just one of rising sequences tell. -/
import Derived.Test.YtfioekkegihkoaaSiftS
import Derived.Test.YtfioekkegihkoaaWords
namespace Go.Proofs.Ytfioekkegihkoaa
open Go.RowKit Go.Shelf
set_option linter.unusedVariables false
set_option linter.unusedSimpArgs false
set_option maxRecDepth 100000 in
set_option maxHeartbeats 8000000 in
theorem siftJoins_walk {w : World} (a0 : Option Addr) (len0 cap0 : Nat) (z0 : List Int) (a1 : Option Addr) (len1 cap1 : Nat) (z1 : List Int) (a2 : Option Addr) (len2 cap2 : Nat) (z2 : List Int) (a3 a4 : Int) (w0 : IntRow .u64 w a0 len0 cap0 z0) (y0 : len0 * 8 ≤ 140737488351232) (w1 : IntRow .u64 w a1 len1 cap1 z1) (y1 : len1 * 8 ≤ 140737488351232) (w2 : IntRow .u64 w a2 len2 cap2 z2) (y2 : len2 * 8 ≤ 140737488351232) (w3 : (Lit.int .u8 a3).wf = true) (w4 : (Lit.int .i64 a4).wf = true) :
    Calls Try.prog 4 #[.slice a0 len0 cap0, .slice a1 len1 cap1, .slice a2 len2 cap2, .int .u8 a3, .int .i64 a4] w fun e w' => e = .returned (.bool true) ∧ Below w.heap.size w w' := by
  obtain ⟨k0, k1⟩ := bounds_u8 w3
  have hmost : Hidden (a4 ≤ 9223372036854775807) := ⟨(bounds_i64 w4).2⟩
  obtain ⟨hsl0, hlen0⟩ := w0.isl
  have G0 : Hidden (∀ W, Mod [] w W → _) := ⟨fun W hW => words_call 60 (by decide) _ _ W (hsl0.news hW)⟩
  rw [hlen0] at G0
  obtain ⟨A0, hA0⟩ : ∃ A, (z0.take len0).take 60 = A := ⟨_, rfl⟩
  have hL0 : Hidden (A0.length ≤ 60) := ⟨by rw [← hA0]; simp; omega⟩
  rw [hA0] at G0
  clear hA0 hsl0 hlen0 w0 y0
  obtain ⟨hsl1, hlen1⟩ := w1.isl
  have G1 : Hidden (∀ W, Mod [] w W → _) := ⟨fun W hW => words_call 60 (by decide) _ _ W (hsl1.news hW)⟩
  rw [hlen1] at G1
  obtain ⟨A1, hA1⟩ : ∃ A, (z1.take len1).take 60 = A := ⟨_, rfl⟩
  have hL1 : Hidden (A1.length ≤ 60) := ⟨by rw [← hA1]; simp; omega⟩
  rw [hA1] at G1
  clear hA1 hsl1 hlen1 w1 y1
  obtain ⟨hsl2, hlen2⟩ := w2.isl
  have G2 : Hidden (∀ W, Mod [] w W → _) := ⟨fun W hW => words_call 60 (by decide) _ _ W (hsl2.news hW)⟩
  rw [hlen2] at G2
  obtain ⟨A2, hA2⟩ : ∃ A, (z2.take len2).take 60 = A := ⟨_, rfl⟩
  have hL2 : Hidden (A2.length ≤ 60) := ⟨by rw [← hA2]; simp; omega⟩
  rw [hA2] at G2
  clear hA2 hsl2 hlen2 w2 y2
  have htm : a3.tmod 4 = a3 % 4 := Int.tmod_eq_emod_of_nonneg k0
  obtain ⟨K, hK⟩ : ∃ K : Nat, a3.tmod 4 = (K : Int) := ⟨(a3 % 4).toNat, by rw [htm]; omega⟩
  have hK3 : K ≤ 3 := by rw [htm] at hK; omega
  clear htm
  clear w3 w4
  go_enter Try.func4, Try.ntmps4
  go_wp2_with fail
  refine (awake18 _).mono ?_
  rintro e wa ⟨rfl, hm⟩
  have HM := Hidden.mk hm
  clear hm
  have GW := Hidden.mk (G0.out _ HM.out)
  clear G0
  go_wp2_with fail
  refine GW.out.mono ?_
  rintro e v1 ⟨vv, rfl, hW⟩
  have HA := Hidden.mk hW.isl.2
  have hm := hW.mod
  replace HM := Hidden.mk (HM.out.trans hm (by simp))
  clear hm
  obtain ⟨pv, kv, rfl, -⟩ := HA.out.slice_
  clear hW GW
  go_wp2_with fail
  refine (of11 HA.out (by have := hL0.out; omega)).mono ?_
  rintro e u1 ⟨xX, rfl, hz, hm⟩
  obtain ⟨X, hX⟩ : ∃ X, asc A0 = X := ⟨_, rfl⟩
  have BX : Hidden (X.length ≤ 60) := ⟨by rw [← hX]; have := asc_le A0; have := hL0.out; omega⟩
  have IX : Hidden (X.Pairwise (· < ·)) := ⟨by rw [← hX]; exact asc_rises _⟩
  rw [hX] at hz
  replace HM := Hidden.mk (HM.out.trans hm (by simp))
  clear hm
  have FX := Hidden.mk hz
  obtain ⟨pX, kX, eX, -⟩ := hz.slice_
  obtain ⟨nX, hnX⟩ : ∃ m, X.length = m := ⟨_, rfl⟩
  rw [hnX] at eX
  subst eX
  have NX := Hidden.mk hnX
  clear hz hX HA hL0 hnX
  have GW := Hidden.mk (G1.out _ HM.out)
  clear G1
  go_wp2_with fail
  refine GW.out.mono ?_
  rintro e v2 ⟨vv, rfl, hW⟩
  have HA := Hidden.mk hW.isl.2
  have hm := hW.mod
  replace HM := Hidden.mk (HM.out.trans hm (by simp))
  replace FX := Hidden.mk (FX.out.news hm)
  clear hm
  obtain ⟨pv, kv, rfl, -⟩ := HA.out.slice_
  clear hW GW
  go_wp2_with fail
  refine (of11 HA.out (by have := hL1.out; omega)).mono ?_
  rintro e u2 ⟨xY, rfl, hz, hm⟩
  obtain ⟨Y, hY⟩ : ∃ Y, asc A1 = Y := ⟨_, rfl⟩
  have BY : Hidden (Y.length ≤ 60) := ⟨by rw [← hY]; have := asc_le A1; have := hL1.out; omega⟩
  have IY : Hidden (Y.Pairwise (· < ·)) := ⟨by rw [← hY]; exact asc_rises _⟩
  rw [hY] at hz
  replace HM := Hidden.mk (HM.out.trans hm (by simp))
  replace FX := Hidden.mk (FX.out.news hm)
  clear hm
  have FY := Hidden.mk hz
  obtain ⟨pY, kY, eY, -⟩ := hz.slice_
  obtain ⟨nY, hnY⟩ : ∃ m, Y.length = m := ⟨_, rfl⟩
  rw [hnY] at eY
  subst eY
  have NY := Hidden.mk hnY
  clear hz hY HA hL1 hnY
  have GW := Hidden.mk (G2.out _ HM.out)
  clear G2
  go_wp2_with fail
  refine GW.out.mono ?_
  rintro e v3 ⟨vv, rfl, hW⟩
  have HA := Hidden.mk hW.isl.2
  have hm := hW.mod
  replace HM := Hidden.mk (HM.out.trans hm (by simp))
  replace FX := Hidden.mk (FX.out.news hm)
  replace FY := Hidden.mk (FY.out.news hm)
  clear hm
  obtain ⟨pv, kv, rfl, -⟩ := HA.out.slice_
  clear hW GW
  go_wp2_with fail
  refine (of11 HA.out (by have := hL2.out; omega)).mono ?_
  rintro e u3 ⟨xZ, rfl, hz, hm⟩
  obtain ⟨Z, hZ⟩ : ∃ Z, asc A2 = Z := ⟨_, rfl⟩
  have BZ : Hidden (Z.length ≤ 60) := ⟨by rw [← hZ]; have := asc_le A2; have := hL2.out; omega⟩
  have IZ : Hidden (Z.Pairwise (· < ·)) := ⟨by rw [← hZ]; exact asc_rises _⟩
  rw [hZ] at hz
  replace HM := Hidden.mk (HM.out.trans hm (by simp))
  replace FX := Hidden.mk (FX.out.news hm)
  replace FY := Hidden.mk (FY.out.news hm)
  clear hm
  have FZ := Hidden.mk hz
  obtain ⟨pZ, kZ, eZ, -⟩ := hz.slice_
  obtain ⟨nZ, hnZ⟩ : ∃ m, Z.length = m := ⟨_, rfl⟩
  rw [hnZ] at eZ
  subst eZ
  have NZ := Hidden.mk hnZ
  clear hz hZ HA hL2 hnZ
  go_wp2_with fail
  have HL3 := LSl.new3 (b := u3.heap.size) (t := 23) rfl FX.out FY.out FZ.out
  obtain ⟨wl, hwl⟩ : ∃ wl, u3.alloc (.cells #[.slice pX nX kX, .slice pY nY kY, .slice pZ nZ kZ] 23) = wl := ⟨_, rfl⟩
  have hm : Mod [] u3 wl := by rw [← hwl]; exact (Mod.refl [] u3).alloc _
  rw [hwl] at HL3 ⊢
  clear hwl
  replace HM := Hidden.mk (HM.out.trans hm (by simp))
  replace FX := Hidden.mk (FX.out.news hm)
  replace FY := Hidden.mk (FY.out.news hm)
  replace FZ := Hidden.mk (FZ.out.news hm)
  clear hm
  have HLK := HL3.take hK3
  obtain ⟨ls, hls⟩ : ∃ ls, [X, Y, Z].take K = ls := ⟨_, rfl⟩
  rw [hls] at HLK
  have hln : Hidden (ls.length = K) := ⟨by rw [← hls, List.length_take]; simp; omega⟩
  have hmem3 : ∀ l ∈ ls, l = X ∨ l = Y ∨ l = Z := fun l hl => by rw [← hls] at hl; simpa using List.mem_of_mem_take hl
  have hlr : Hidden (∀ l ∈ ls, l.Pairwise (· < ·)) := ⟨fun l hl => by rcases hmem3 l hl with rfl | rfl | rfl; exact IX.out; exact IY.out; exact IZ.out⟩
  have hll : Hidden (∀ l ∈ ls, l.length ≤ 60) := ⟨fun l hl => by rcases hmem3 l hl with rfl | rfl | rfl; exact BX.out; exact BY.out; exact BZ.out⟩
  have HLL := Hidden.mk HLK
  have hKK := hK3
  clear HL3 hls hmem3 HLK hK k0 k1
  go_loopw [15, 44] (fun vs iv wr => ∃ (i : Nat) (fs : List Value) (RR : List Nat), i ≤ K ∧ iv = .int .i64 i ∧ SqRow wl wr vs (ls.take i) fs RR) (fun _ iv _ => K - (intOf iv).toNat)
  case atStart => exact ⟨0, [], [], Nat.zero_le _, rfl, SqRow.nil_ _⟩
  case round =>
    obtain ⟨i, fs, RR, hi, rfl, hS⟩ := hrel
    by_cases hin : i < K
    · obtain ⟨b, off, l, pl, cl, he, hl, hlc, hlI⟩ := HLL.out.at_ (i := i) (by rw [hln.out]; exact hin)
      obtain ⟨rfl, rfl⟩ : u3.heap.size = b ∧ 0 = off := by simpa using he
      have hlc2 : wr.cell? ⟨u3.heap.size, 0 + i, none⟩ = some (.slice pl l.length cl) := (hS.mod.below'.cell (p := ⟨u3.heap.size, 0 + i, none⟩) (by simpa using World.block_lt_of_cell? wl _ hlc)).trans hlc
      rw [Nat.zero_add] at hlc2
      have hd : decide ((i : Int) < (K : Int)) = true := decide_eq_true (by omega)
      have hw1 : IntKind.i64.wrap ((i : Int) + 1) = i + 1 := IntWalk.i64_in _ (by omega)
      have hmem := List.mem_of_getElem? hl
      have hof := sift_of (hlI.news hS.mod) (by have := hll.out l hmem; omega)
      rw [asc_id (hlr.out l hmem)] at hof
      have HOF := Hidden.mk hof
      have htk : Hidden (ls.take (i + 1) = ls.take i ++ [l]) := ⟨by rw [List.take_add_one, hl]; rfl⟩
      have hti : (ls.take i).length = i := by rw [List.length_take, hln.out]; omega
      obtain ⟨m, hm'⟩ : ∃ m, l.length = m := ⟨_, rfl⟩
      rw [hm'] at hlc2 HOF
      have HTI := Hidden.mk hti
      have HS := Hidden.mk hS
      clear hS hof hl hmem he hti hlc hlI hm'
      go_wp2_with fail
      refine HOF.out.mono ?_
      rintro e w1 ⟨g1, b1, R1, rfl, hs1, hm1, hr1⟩
      have H1 := Hidden.mk (And.intro hs1 (And.intro hm1 hr1))
      have hrw : Hidden (Row (w1.alloc (.cells #[.func (.func g1) #[] b1] 43)) 43 1 u15 i fs) := ⟨by have h9 := (HS.out.row.mod hm1 (by simp)).alloc (.cells #[.func (.func g1) #[] b1] 43); rw [HTI.out] at h9; exact h9⟩
      have hn1 := Hidden.mk (holds_one w1 (.func (.func g1) #[] b1) 43 rfl)
      clear hs1 hm1 hr1 HOF hlc2
      go_wp2_with (refine wpList_any rfl (.tmp 48) (.tmp 51) 41 rfl 43 .nilFunc 1 8 (by kernel_rfl) infoF64 rfl (by decide) _ _ _ rfl hrw.out _ _ _ rfl hn1.out (by simp [Value.oneCell']) (by omega) (by omega) ?_; intro b4 c4 w4 hr4 hm4 hf4; have H4 := Hidden.mk (And.intro hr4 (And.intro hm4 hf4)); clear hr4 hm4 hf4)
      go_roundw
      case rel => exact ⟨i + 1, _, _, by omega, by go_num, by rw [htk.out]; exact HS.out.next H1.out.2.1 H1.out.1 H1.out.2.2 _ (by rw [HTI.out]; exact H4.out.1) H4.out.2.1 H4.out.2.2⟩
      case measure => simp [intOf]; omega
    · obtain rfl : i = K := by omega
      have hd : decide ((i : Int) < (i : Int)) = false := decide_eq_false (by omega)
      rw [show ls.take i = ls from List.take_of_length_le (by rw [hln.out]; exact Nat.le_refl _)] at hS
      have hm := hS.mod
      obtain ⟨wr1, rfl⟩ : ∃ wr1, wr1 = wr := ⟨_, rfl⟩
      have HS := Hidden.mk hS
      replace HM := Hidden.mk (HM.out.trans hm (by simp))
      replace FX := Hidden.mk (FX.out.news hm)
      replace FY := Hidden.mk (FY.out.news hm)
      replace FZ := Hidden.mk (FZ.out.news hm)
      replace HLL := Hidden.mk (HLL.out.news hm)
      clear hm
      clear hS
      go_wp2_with fail
      have HT := LSl.new2 (b := wr1.heap.size) (t := 23) rfl FX.out FY.out
      obtain ⟨wt, hwt⟩ : ∃ wt, wr1.alloc (.cells #[.slice pX nX kX, .slice pY nY kY] 23) = wt := ⟨_, rfl⟩
      have hm : Mod [] wr1 wt := by rw [← hwt]; exact (Mod.refl [] wr1).alloc _
      rw [hwt] at HT ⊢
      replace HS := Hidden.mk (HS.out.news hm)
      replace HM := Hidden.mk (HM.out.trans hm (by simp))
      replace FX := Hidden.mk (FX.out.news hm)
      replace FY := Hidden.mk (FY.out.news hm)
      replace FZ := Hidden.mk (FZ.out.news hm)
      replace HLL := Hidden.mk (HLL.out.news hm)
      clear hm
      have HT2 := Hidden.mk HT
      clear hwt HT
      obtain ⟨g, hg⟩ : ∃ g : Int → Bool, g = fun x => !decide (x ∈ Y) := ⟨_, rfl⟩
      have HG := Hidden.mk hg
      have hcx := BX.out
      rw [NX.out] at hcx
      clear hg
      go_loopw [19, 59] (fun vo iv wr => ∃ (j : Nat), j ≤ nX ∧ iv = .int .i64 j ∧ WayI .u64 22 wt wr vo ((X.take j).filter g).length ((X.take j).filter g)) (fun _ iv _ => nX - (intOf iv).toNat)
      case atStart => exact ⟨0, Nat.zero_le _, rfl, WayI.nil_ (Mod.refl _ _)⟩
      case round =>
        obtain ⟨j, hj, rfl, hW⟩ := hrel
        by_cases hjm : j < nX
        · obtain ⟨gb, og, y, rfl, hgl, hy, hyc⟩ := (FX.out.news hW.mod).get hjm
          have hd2 : decide ((j : Int) < (nX : Int)) = true := decide_eq_true (by omega)
          have hw2 : IntKind.i64.wrap ((j : Int) + 1) = j + 1 := IntWalk.i64_in _ (by omega)
          have htk : Hidden ((X.take (j + 1)).filter g = (X.take j).filter g ++ (if g y then [y] else [])) := ⟨by rw [List.take_add_one, hy, List.filter_append]; simp [List.filter_cons]⟩
          have hol : ((X.take j).filter g).length ≤ 60 := by have h1 := List.length_filter_le g (X.take j); have h2 : (X.take j).length ≤ 60 := (by rw [List.length_take]; omega); omega
          have HH := Hidden.mk (has18 y (FY.out.news hW.mod) (by have := BY.out; omega) (rises_le IY.out))
          obtain ⟨out, hout⟩ : ∃ out, (X.take j).filter g = out := ⟨_, rfl⟩
          rw [hout] at hW htk hol
          have HW := Hidden.mk hW
          clear hW hy hout
          go_wp2_with fail
          refine HH.out.mono ?_
          rintro e w5 ⟨rfl, hm5⟩
          have HW2 := Hidden.mk (HW.out.keep hm5)
          clear hm5 HH hyc HW
          by_cases hyx : y ∈ Y
          · have hE : Hidden (out = (X.take (j + 1)).filter g) := ⟨by rw [htk.out, HG.out]; simp [hyx]⟩
            rw [decide_eq_true hyx]
            clear hyx
            go_wp2_with fail
            go_roundw
            case rel => exact ⟨j + 1, by omega, by go_num, by rw [← hE.out]; exact HW2.out⟩
            case measure => simp [intOf]; omega
          · have hE : Hidden (out ++ [y] = (X.take (j + 1)).filter g) := ⟨by rw [htk.out, HG.out]; simp [hyx]⟩
            rw [decide_eq_false hyx]
            clear hyx
            have hw2' := Hidden.mk (HW2.out.alloc (.cells #[.int .u64 y] 22))
            have hi1 := Hidden.mk (icells_one .u64 [y])
            have hn1 := Hidden.mk (holds_one w5 (.int .u64 y) 22 rfl)
            have hl2 := Hidden.mk (show out.length + 1 = (out ++ [y]).length from by simp)
            go_wp2_with (refine wpList_any rfl (.tmp 67) (.tmp 69) 23 rfl 22 (.int .u64 0) 1 8 (by kernel_rfl) infoA64 rfl (by decide) _ _ _ rfl hw2'.out.row _ _ _ rfl hn1.out hi1.out (by omega) (by omega) ?_; intro b4 c4 w4 hr4 hm4 hf4; have hW4 := Hidden.mk (hw2'.out.next hr4 hm4 hf4 (m := out ++ [y]) (by simp [icells])); clear hr4 hm4 hf4)
            go_roundw
            case rel => exact ⟨j + 1, by omega, by go_num, by rw [← hE.out, ← hl2.out]; exact hW4.out⟩
            case measure => simp [intOf]; omega
        · obtain rfl : j = nX := by omega
          have hd2 : decide ((j : Int) < (j : Int)) = false := decide_eq_false (by omega)
          have he : (X.take j).filter g = lessL X Y := by rw [show X.take j = X from List.take_of_length_le (by rw [NX.out]; exact Nat.le_refl _), HG.out]; rfl
          rw [he] at hW
          have hm := hW.mod
          obtain ⟨wr2, rfl⟩ : ∃ wr2, wr2 = wr := ⟨_, rfl⟩
          have FD := Hidden.mk hW.isl.2
          replace HM := Hidden.mk (HM.out.trans hm (by simp))
          replace FX := Hidden.mk (FX.out.news hm)
          replace FY := Hidden.mk (FY.out.news hm)
          replace FZ := Hidden.mk (FZ.out.news hm)
          replace HLL := Hidden.mk (HLL.out.news hm)
          replace HS := Hidden.mk (HS.out.news hm)
          replace HT2 := Hidden.mk (HT2.out.news hm)
          clear hm
          clear hW he HG
          go_wp2_with fail
          refine (of_new FX.out (by have := BX.out; omega)).mono ?_
          rintro e u4 ⟨gP, bP, RP, rfl, hz, hm⟩
          replace HM := Hidden.mk (HM.out.trans hm (by simp))
          replace FX := Hidden.mk (FX.out.news hm)
          replace FY := Hidden.mk (FY.out.news hm)
          replace FZ := Hidden.mk (FZ.out.news hm)
          replace HLL := Hidden.mk (HLL.out.news hm)
          replace HS := Hidden.mk (HS.out.news hm)
          replace HT2 := Hidden.mk (HT2.out.news hm)
          replace FD := Hidden.mk (FD.out.news hm)
          clear hm
          have ZP := Hidden.mk hz
          clear hz
          rw [asc_id IX.out] at ZP
          go_wp2_with fail
          refine (of_new FY.out (by have := BY.out; omega)).mono ?_
          rintro e u5 ⟨gQ, bQ, RQ, rfl, hz, hm⟩
          replace HM := Hidden.mk (HM.out.trans hm (by simp))
          replace FX := Hidden.mk (FX.out.news hm)
          replace FY := Hidden.mk (FY.out.news hm)
          replace FZ := Hidden.mk (FZ.out.news hm)
          replace HLL := Hidden.mk (HLL.out.news hm)
          replace HS := Hidden.mk (HS.out.news hm)
          replace HT2 := Hidden.mk (HT2.out.news hm)
          replace FD := Hidden.mk (FD.out.news hm)
          replace ZP := Hidden.mk (ZP.out.news hm)
          clear hm
          have ZQ := Hidden.mk hz
          clear hz
          rw [asc_id IY.out] at ZQ
          have HLQ := Hidden.mk HS.out.lseq
          have hor : orF ls = wantL ls 1 9 := want_or hlr.out (by rw [hln.out]; omega)
          have hand : andA ls = wantL ls (max (i : Int) 1) 9 := by have h9 := want_and hlr.out (by rw [hln.out]; omega); rw [hln.out] at h9; exact h9
          have hol : (orF ls).length ≤ 1000 := by have h9 := orF_len hll.out; have := hln.out; omega
          have hal : (andA ls).length ≤ 60 := by
            rw [hand]
            have h9 : (andA ls).length ≤ 60 := by
              cases hc : ls with
              | nil => simp [andA]
              | cons l0 l1 => have h8 := andF_le l0 l1; have := hll.out l0 (by rw [hc]; simp); show (andF l0 l1).length ≤ 60; omega
            rw [← hand]; exact h9
          obtain ⟨OL, hOL⟩ : ∃ L, orF ls = L := ⟨_, rfl⟩
          obtain ⟨AL, hAL⟩ : ∃ L, andA ls = L := ⟨_, rfl⟩
          rw [hOL] at hor hol
          rw [hAL] at hand hal
          obtain ⟨MX, hMX⟩ : ∃ m : Nat, max (i : Int) 1 = (m : Int) := ⟨(max (i : Int) 1).toNat, by omega⟩
          rw [hMX] at hand
          have EOR := Hidden.mk (And.intro hor (And.intro hol hOL))
          have EAN := Hidden.mk (And.intro hand (And.intro hal hAL))
          clear hor hand hol hal hOL hAL
          have HKK := Hidden.mk hKK
          go_wp2_with fail
          refine ((or_call HLQ.out.1 HLQ.out.2 (fun l hl => by have := hll.out l hl; omega) (by rw [hln.out]; omega)).mono (fun e w' h => h.new (Mod.refl _ _))).mono ?_
          rintro e u6 ⟨gO, bO, RO, rfl, hz, hm⟩
          rw [EOR.out.2.2] at hz
          replace HM := Hidden.mk (HM.out.trans hm (by simp))
          replace FX := Hidden.mk (FX.out.news hm)
          replace FY := Hidden.mk (FY.out.news hm)
          replace FZ := Hidden.mk (FZ.out.news hm)
          replace HLL := Hidden.mk (HLL.out.news hm)
          replace HS := Hidden.mk (HS.out.news hm)
          replace HT2 := Hidden.mk (HT2.out.news hm)
          replace FD := Hidden.mk (FD.out.news hm)
          replace ZP := Hidden.mk (ZP.out.news hm)
          replace ZQ := Hidden.mk (ZQ.out.news hm)
          clear hm
          have ZO := Hidden.mk hz
          clear hz HLQ
          go_wp2_with fail
          refine (want18 (f := 1) (t := 9) HLL.out hlr.out hll.out (by rw [hln.out]; omega)).mono ?_
          rintro e u7 ⟨vW1, rfl, hz, hm, -⟩
          replace HM := Hidden.mk (HM.out.trans hm (by simp))
          replace FX := Hidden.mk (FX.out.news hm)
          replace FY := Hidden.mk (FY.out.news hm)
          replace FZ := Hidden.mk (FZ.out.news hm)
          replace HLL := Hidden.mk (HLL.out.news hm)
          replace HS := Hidden.mk (HS.out.news hm)
          replace HT2 := Hidden.mk (HT2.out.news hm)
          replace FD := Hidden.mk (FD.out.news hm)
          replace ZP := Hidden.mk (ZP.out.news hm)
          replace ZQ := Hidden.mk (ZQ.out.news hm)
          replace ZO := Hidden.mk (ZO.out.news hm)
          clear hm
          have ZW1 := Hidden.mk hz
          obtain ⟨pW1, kW1, rfl, -⟩ := hz.slice_
          clear hz
          go_wp2_with fail
          refine (told18 ZO.out.s EOR.out.2.1 ZW1.out (by rw [← EOR.out.1]; exact EOR.out.2.1) hmost.out).mono ?_
          rintro e u8 ⟨rfl, hm⟩
          rw [decide_eq_true EOR.out.1]
          replace HM := Hidden.mk (HM.out.trans hm (by simp))
          replace FX := Hidden.mk (FX.out.news hm)
          replace FY := Hidden.mk (FY.out.news hm)
          replace FZ := Hidden.mk (FZ.out.news hm)
          replace HLL := Hidden.mk (HLL.out.news hm)
          replace HS := Hidden.mk (HS.out.news hm)
          replace HT2 := Hidden.mk (HT2.out.news hm)
          replace FD := Hidden.mk (FD.out.news hm)
          replace ZP := Hidden.mk (ZP.out.news hm)
          replace ZQ := Hidden.mk (ZQ.out.news hm)
          replace ZO := Hidden.mk (ZO.out.news hm)
          replace ZW1 := Hidden.mk (ZW1.out.news hm)
          clear hm
          clear ZO ZW1
          have HLQ := Hidden.mk HS.out.lseq
          go_wp2_with fail
          refine ((and_any HLQ.out.1 HLQ.out.2 (fun l hl => by have := hll.out l hl; omega) hlr.out (by rw [hln.out]; omega)).mono (fun e w' h => h.new (Mod.refl _ _))).mono ?_
          rintro e u9 ⟨gO, bO, RO, rfl, hz, hm⟩
          rw [EAN.out.2.2] at hz
          replace HM := Hidden.mk (HM.out.trans hm (by simp))
          replace FX := Hidden.mk (FX.out.news hm)
          replace FY := Hidden.mk (FY.out.news hm)
          replace FZ := Hidden.mk (FZ.out.news hm)
          replace HLL := Hidden.mk (HLL.out.news hm)
          replace HS := Hidden.mk (HS.out.news hm)
          replace HT2 := Hidden.mk (HT2.out.news hm)
          replace FD := Hidden.mk (FD.out.news hm)
          replace ZP := Hidden.mk (ZP.out.news hm)
          replace ZQ := Hidden.mk (ZQ.out.news hm)
          clear hm
          have ZO := Hidden.mk hz
          clear hz HLQ
          go_wp2_with fail
          refine (want18 (f := (MX : Int)) (t := 9) HLL.out hlr.out hll.out (by rw [hln.out]; omega)).mono ?_
          rintro e u10 ⟨vW2, rfl, hz, hm, -⟩
          replace HM := Hidden.mk (HM.out.trans hm (by simp))
          replace FX := Hidden.mk (FX.out.news hm)
          replace FY := Hidden.mk (FY.out.news hm)
          replace FZ := Hidden.mk (FZ.out.news hm)
          replace HLL := Hidden.mk (HLL.out.news hm)
          replace HS := Hidden.mk (HS.out.news hm)
          replace HT2 := Hidden.mk (HT2.out.news hm)
          replace FD := Hidden.mk (FD.out.news hm)
          replace ZP := Hidden.mk (ZP.out.news hm)
          replace ZQ := Hidden.mk (ZQ.out.news hm)
          replace ZO := Hidden.mk (ZO.out.news hm)
          clear hm
          have ZW2 := Hidden.mk hz
          obtain ⟨pW2, kW2, rfl, -⟩ := hz.slice_
          clear hz
          go_wp2_with fail
          refine (told18 ZO.out.s (by have := EAN.out.2.1; omega) ZW2.out (by rw [← EAN.out.1]; have := EAN.out.2.1; omega) hmost.out).mono ?_
          rintro e u11 ⟨rfl, hm⟩
          rw [decide_eq_true EAN.out.1]
          replace HM := Hidden.mk (HM.out.trans hm (by simp))
          replace FX := Hidden.mk (FX.out.news hm)
          replace FY := Hidden.mk (FY.out.news hm)
          replace FZ := Hidden.mk (FZ.out.news hm)
          replace HLL := Hidden.mk (HLL.out.news hm)
          replace HS := Hidden.mk (HS.out.news hm)
          replace HT2 := Hidden.mk (HT2.out.news hm)
          replace FD := Hidden.mk (FD.out.news hm)
          replace ZP := Hidden.mk (ZP.out.news hm)
          replace ZQ := Hidden.mk (ZQ.out.news hm)
          replace ZO := Hidden.mk (ZO.out.news hm)
          replace ZW2 := Hidden.mk (ZW2.out.news hm)
          clear hm
          clear ZO ZW2
          go_wp2_with fail
          refine (less2 ZP.out ZQ.out (by have := BX.out; omega) (by have := BY.out; omega) IX.out IY.out).mono ?_
          rintro e u12 ⟨gL, bL, RL, rfl, hz, hm⟩
          replace HM := Hidden.mk (HM.out.trans hm (by simp))
          replace FX := Hidden.mk (FX.out.news hm)
          replace FY := Hidden.mk (FY.out.news hm)
          replace FZ := Hidden.mk (FZ.out.news hm)
          replace HLL := Hidden.mk (HLL.out.news hm)
          replace HS := Hidden.mk (HS.out.news hm)
          replace HT2 := Hidden.mk (HT2.out.news hm)
          replace FD := Hidden.mk (FD.out.news hm)
          replace ZP := Hidden.mk (ZP.out.news hm)
          replace ZQ := Hidden.mk (ZQ.out.news hm)
          clear hm
          have ZL := Hidden.mk hz
          clear hz
          have hlL := lessL_le X Y
          go_wp2_with fail
          refine (told18 ZL.out.s (by have := BX.out; omega) FD.out (by have := BX.out; omega) hmost.out).mono ?_
          rintro e u13 ⟨rfl, hm⟩
          rw [decide_eq_true rfl]
          replace HM := Hidden.mk (HM.out.trans hm (by simp))
          replace FX := Hidden.mk (FX.out.news hm)
          replace FY := Hidden.mk (FY.out.news hm)
          replace FZ := Hidden.mk (FZ.out.news hm)
          replace HLL := Hidden.mk (HLL.out.news hm)
          replace HS := Hidden.mk (HS.out.news hm)
          replace HT2 := Hidden.mk (HT2.out.news hm)
          replace FD := Hidden.mk (FD.out.news hm)
          replace ZP := Hidden.mk (ZP.out.news hm)
          replace ZQ := Hidden.mk (ZQ.out.news hm)
          replace ZL := Hidden.mk (ZL.out.news hm)
          clear hm
          clear ZL FD
          go_wp2_with fail
          refine (xor2 ZP.out ZQ.out (by have := BX.out; omega) (by have := BY.out; omega) IX.out IY.out).mono ?_
          rintro e u14 ⟨gE, bE, RE, rfl, hz, hm⟩
          replace HM := Hidden.mk (HM.out.trans hm (by simp))
          replace FX := Hidden.mk (FX.out.news hm)
          replace FY := Hidden.mk (FY.out.news hm)
          replace FZ := Hidden.mk (FZ.out.news hm)
          replace HLL := Hidden.mk (HLL.out.news hm)
          replace HS := Hidden.mk (HS.out.news hm)
          replace HT2 := Hidden.mk (HT2.out.news hm)
          replace ZP := Hidden.mk (ZP.out.news hm)
          replace ZQ := Hidden.mk (ZQ.out.news hm)
          clear hm
          have ZE := Hidden.mk hz
          clear hz
          have hxo := want_xor IX.out IY.out
          have hxl : (twoL (lessL X Y) (lessL Y X)).length ≤ 200 := by have h1 := two_le (lessL X Y) (lessL Y X); have h2 := lessL_le Y X; have := BX.out; have := BY.out; omega
          have EXO := Hidden.mk (And.intro hxo hxl)
          clear hxo hxl hlL
          go_wp2_with fail
          refine (want18 (f := 1) (t := 1) HT2.out (fun l hl => by simp at hl; rcases hl with rfl | rfl; exact IX.out; exact IY.out) (fun l hl => by simp at hl; rcases hl with rfl | rfl; exact BX.out; exact BY.out) (by simp)).mono ?_
          rintro e u15 ⟨vW3, rfl, hz, hm, -⟩
          replace HM := Hidden.mk (HM.out.trans hm (by simp))
          replace FX := Hidden.mk (FX.out.news hm)
          replace FY := Hidden.mk (FY.out.news hm)
          replace FZ := Hidden.mk (FZ.out.news hm)
          replace HLL := Hidden.mk (HLL.out.news hm)
          replace HS := Hidden.mk (HS.out.news hm)
          replace HT2 := Hidden.mk (HT2.out.news hm)
          replace ZP := Hidden.mk (ZP.out.news hm)
          replace ZQ := Hidden.mk (ZQ.out.news hm)
          replace ZE := Hidden.mk (ZE.out.news hm)
          clear hm
          have ZW3 := Hidden.mk hz
          obtain ⟨pW3, kW3, rfl, -⟩ := hz.slice_
          clear hz
          go_wp2_with fail
          refine (told18 ZE.out.s (by have := EXO.out.2; omega) ZW3.out (by rw [← EXO.out.1]; have := EXO.out.2; omega) hmost.out).mono ?_
          rintro e u16 ⟨rfl, hm⟩
          rw [decide_eq_true EXO.out.1]
          replace HM := Hidden.mk (HM.out.trans hm (by simp))
          replace FX := Hidden.mk (FX.out.news hm)
          replace FY := Hidden.mk (FY.out.news hm)
          replace FZ := Hidden.mk (FZ.out.news hm)
          replace HLL := Hidden.mk (HLL.out.news hm)
          replace HS := Hidden.mk (HS.out.news hm)
          replace HT2 := Hidden.mk (HT2.out.news hm)
          replace ZP := Hidden.mk (ZP.out.news hm)
          replace ZQ := Hidden.mk (ZQ.out.news hm)
          replace ZE := Hidden.mk (ZE.out.news hm)
          replace ZW3 := Hidden.mk (ZW3.out.news hm)
          clear hm
          go_wp2_with fail
          go_ret
          exact ⟨rfl, HM.out.below'⟩
end Go.Proofs.Ytfioekkegihkoaa
