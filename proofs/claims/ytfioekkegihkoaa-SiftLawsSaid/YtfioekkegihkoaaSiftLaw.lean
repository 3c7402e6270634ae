/- SiftLaws: of any rising sequences how many are in both and in one, and what is the same. -/
import Derived.Test.YtfioekkegihkoaaSiftQ
import Derived.Test.YtfioekkegihkoaaWords
namespace Go.Proofs.Ytfioekkegihkoaa
open Go.RowKit Go.Shelf
set_option linter.unusedVariables false
set_option linter.unusedSimpArgs false
set_option maxRecDepth 100000 in
set_option maxHeartbeats 8000000 in
theorem siftLaws_walk {w : World} (a0 : Option Addr) (len0 cap0 : Nat) (z0 : List Int) (a1 : Option Addr) (len1 cap1 : Nat) (z1 : List Int) (a2 : Option Addr) (len2 cap2 : Nat) (z2 : List Int) (w0 : IntRow .u64 w a0 len0 cap0 z0) (y0 : len0 * 8 ≤ 140737488351232) (w1 : IntRow .u64 w a1 len1 cap1 z1) (y1 : len1 * 8 ≤ 140737488351232) (w2 : IntRow .u64 w a2 len2 cap2 z2) (y2 : len2 * 8 ≤ 140737488351232) :
    Calls Try.prog 6 #[.slice a0 len0 cap0, .slice a1 len1 cap1, .slice a2 len2 cap2] w fun e w' => e = .returned (.bool true) ∧ Below w.heap.size w w' := by
  obtain ⟨hsl0, hlen0⟩ := w0.isl
  have G0 : Hidden (∀ W, Mod [] w W → _) := ⟨fun W hW => words_call 50 (by decide) _ _ W (hsl0.news hW)⟩
  rw [hlen0] at G0
  obtain ⟨A0, hA0⟩ : ∃ A, (z0.take len0).take 50 = A := ⟨_, rfl⟩
  have hL0 : Hidden (A0.length ≤ 50) := ⟨by rw [← hA0]; simp; omega⟩
  rw [hA0] at G0
  clear hA0 hsl0 hlen0 w0 y0
  obtain ⟨hsl1, hlen1⟩ := w1.isl
  have G1 : Hidden (∀ W, Mod [] w W → _) := ⟨fun W hW => words_call 50 (by decide) _ _ W (hsl1.news hW)⟩
  rw [hlen1] at G1
  obtain ⟨A1, hA1⟩ : ∃ A, (z1.take len1).take 50 = A := ⟨_, rfl⟩
  have hL1 : Hidden (A1.length ≤ 50) := ⟨by rw [← hA1]; simp; omega⟩
  rw [hA1] at G1
  clear hA1 hsl1 hlen1 w1 y1
  obtain ⟨hsl2, hlen2⟩ := w2.isl
  have G2 : Hidden (∀ W, Mod [] w W → _) := ⟨fun W hW => words_call 50 (by decide) _ _ W (hsl2.news hW)⟩
  rw [hlen2] at G2
  obtain ⟨A2, hA2⟩ : ∃ A, (z2.take len2).take 50 = A := ⟨_, rfl⟩
  have hL2 : Hidden (A2.length ≤ 50) := ⟨by rw [← hA2]; simp; omega⟩
  rw [hA2] at G2
  clear hA2 hsl2 hlen2 w2 y2
  go_enter Try.func6, Try.ntmps6
  go_wp2_with fail
  refine (awake18 _).mono ?_
  rintro e wa ⟨rfl, hm⟩
  have HM := Hidden.mk hm
  clear hm
  have GW := Hidden.mk (G0.out _ HM.out)
  clear G0
  go_wp2_with fail
  refine GW.out.mono ?_
  rintro e v1 ⟨vv, rfl, hW⟩
  have HA := Hidden.mk hW.isl.2
  have hm := hW.mod
  replace HM := Hidden.mk (HM.out.trans hm (by simp))
  clear hm
  obtain ⟨pv, kv, rfl, -⟩ := HA.out.slice_
  clear hW GW
  go_wp2_with fail
  refine (of_new HA.out (by have := hL0.out; omega)).mono ?_
  rintro e u1 ⟨gP, bP, RP, rfl, hz, hm⟩
  obtain ⟨P, hP⟩ : ∃ P, asc A0 = P := ⟨_, rfl⟩
  have LP : Hidden (P.length ≤ 50) := ⟨by rw [← hP]; have := asc_le A0; have := hL0.out; omega⟩
  have IP : Hidden (P.Pairwise (· < ·)) := ⟨by rw [← hP]; exact asc_rises _⟩
  rw [hP] at hz
  replace HM := Hidden.mk (HM.out.trans hm (by simp))
  clear hm
  have ZP := Hidden.mk hz
  clear hz hP HA hL0
  have GW := Hidden.mk (G1.out _ HM.out)
  clear G1
  go_wp2_with fail
  refine GW.out.mono ?_
  rintro e v2 ⟨vv, rfl, hW⟩
  have HA := Hidden.mk hW.isl.2
  have hm := hW.mod
  replace HM := Hidden.mk (HM.out.trans hm (by simp))
  replace ZP := Hidden.mk (ZP.out.news hm)
  clear hm
  obtain ⟨pv, kv, rfl, -⟩ := HA.out.slice_
  clear hW GW
  go_wp2_with fail
  refine (of_new HA.out (by have := hL1.out; omega)).mono ?_
  rintro e u2 ⟨gQ, bQ, RQ, rfl, hz, hm⟩
  obtain ⟨Q, hQ⟩ : ∃ Q, asc A1 = Q := ⟨_, rfl⟩
  have LQ : Hidden (Q.length ≤ 50) := ⟨by rw [← hQ]; have := asc_le A1; have := hL1.out; omega⟩
  have IQ : Hidden (Q.Pairwise (· < ·)) := ⟨by rw [← hQ]; exact asc_rises _⟩
  rw [hQ] at hz
  replace HM := Hidden.mk (HM.out.trans hm (by simp))
  replace ZP := Hidden.mk (ZP.out.news hm)
  clear hm
  have ZQ := Hidden.mk hz
  clear hz hQ HA hL1
  have GW := Hidden.mk (G2.out _ HM.out)
  clear G2
  go_wp2_with fail
  refine GW.out.mono ?_
  rintro e v3 ⟨vv, rfl, hW⟩
  have HA := Hidden.mk hW.isl.2
  have hm := hW.mod
  replace HM := Hidden.mk (HM.out.trans hm (by simp))
  replace ZP := Hidden.mk (ZP.out.news hm)
  replace ZQ := Hidden.mk (ZQ.out.news hm)
  clear hm
  obtain ⟨pv, kv, rfl, -⟩ := HA.out.slice_
  clear hW GW
  go_wp2_with fail
  refine (of_new HA.out (by have := hL2.out; omega)).mono ?_
  rintro e u3 ⟨gS, bS, RS, rfl, hz, hm⟩
  obtain ⟨S, hS⟩ : ∃ S, asc A2 = S := ⟨_, rfl⟩
  have LS : Hidden (S.length ≤ 50) := ⟨by rw [← hS]; have := asc_le A2; have := hL2.out; omega⟩
  have IS : Hidden (S.Pairwise (· < ·)) := ⟨by rw [← hS]; exact asc_rises _⟩
  rw [hS] at hz
  replace HM := Hidden.mk (HM.out.trans hm (by simp))
  replace ZP := Hidden.mk (ZP.out.news hm)
  replace ZQ := Hidden.mk (ZQ.out.news hm)
  clear hm
  have ZS := Hidden.mk hz
  clear hz hS HA hL2
  have BP : Hidden (P.length ≤ 50) := LP
  have BQ : Hidden (Q.length ≤ 50) := LQ
  have BS : Hidden (S.length ≤ 50) := LS
  clear LP LQ LS
  go_wp2_with fail
  refine (or2 ZP.out ZQ.out (by have := BP.out; omega) (by have := BQ.out; omega)).mono ?_
  rintro e u4 ⟨gM, bM, RM, rfl, hz, hm⟩
  replace HM := Hidden.mk (HM.out.trans hm (by simp))
  replace ZP := Hidden.mk (ZP.out.news hm)
  replace ZQ := Hidden.mk (ZQ.out.news hm)
  replace ZS := Hidden.mk (ZS.out.news hm)
  clear hm
  have ZM := Hidden.mk hz
  clear hz
  obtain ⟨M, hM⟩ : ∃ L, twoL P Q = L := ⟨_, rfl⟩
  have BM : Hidden (M.length ≤ 100) := ⟨by rw [← hM]; have := two_le P Q; have := BP.out; have := BQ.out; omega⟩
  have IM : Hidden (M.Pairwise (· < ·)) := ⟨by rw [← hM]; exact two_rises IP.out IQ.out⟩
  have EM : Hidden (twoL P Q = M) := ⟨hM⟩
  rw [hM] at ZM
  clear hM
  go_wp2_with fail
  refine (and2 ZP.out ZQ.out (by have := BP.out; omega) (by have := BQ.out; omega) IP.out IQ.out).mono ?_
  rintro e u5 ⟨gN, bN, RN, rfl, hz, hm⟩
  replace HM := Hidden.mk (HM.out.trans hm (by simp))
  replace ZP := Hidden.mk (ZP.out.news hm)
  replace ZQ := Hidden.mk (ZQ.out.news hm)
  replace ZS := Hidden.mk (ZS.out.news hm)
  replace ZM := Hidden.mk (ZM.out.news hm)
  clear hm
  have ZN := Hidden.mk hz
  clear hz
  obtain ⟨N, hN⟩ : ∃ L, andF P [Q] = L := ⟨_, rfl⟩
  have BN : Hidden (N.length ≤ 50) := ⟨by rw [← hN]; have := andF_le P [Q]; have := BP.out; omega⟩
  have IN : Hidden (N.Pairwise (· < ·)) := ⟨by rw [← hN]; exact andF_rises IP.out⟩
  have EN : Hidden (andF P [Q] = N) := ⟨hN⟩
  rw [hN] at ZN
  clear hN
  obtain ⟨cM, hcM⟩ : ∃ c : Int, (M.length : Int) = c := ⟨_, rfl⟩
  have CM := Hidden.mk hcM
  have hbM : 0 ≤ cM ∧ cM ≤ 100 := by have := BM.out; omega
  clear hcM
  obtain ⟨cN, hcN⟩ : ∃ c : Int, (N.length : Int) = c := ⟨_, rfl⟩
  have CN := Hidden.mk hcN
  have hbN : 0 ≤ cN ∧ cN ≤ 100 := by have := BN.out; omega
  clear hcN
  obtain ⟨cP, hcP⟩ : ∃ c : Int, (P.length : Int) = c := ⟨_, rfl⟩
  have CP := Hidden.mk hcP
  have hbP : 0 ≤ cP ∧ cP ≤ 100 := by have := BP.out; omega
  clear hcP
  obtain ⟨cQ, hcQ⟩ : ∃ c : Int, (Q.length : Int) = c := ⟨_, rfl⟩
  have CQ := Hidden.mk hcQ
  have hbQ : 0 ≤ cQ ∧ cQ ≤ 100 := by have := BQ.out; omega
  clear hcQ
  have hsum : cM + cN = cP + cQ := by rw [← CM.out, ← CN.out, ← CP.out, ← CQ.out]; have := law_count IP.out IQ.out; rw [EM.out, EN.out] at this; omega
  have hw1 : IntKind.i64.wrap (cM + cN) = cM + cN := IntWalk.i64_in _ (by omega)
  have hw2 : IntKind.i64.wrap (cP + cQ) = cP + cQ := IntWalk.i64_in _ (by omega)
  have hsame : (cM + cN == cP + cQ) = true := by simpa using hsum
  go_wp2_with fail
  refine (count1 ZM.out (by have := BM.out; omega)).mono ?_
  rintro e u6 ⟨rfl, hm⟩
  rw [CM.out]
  replace HM := Hidden.mk (HM.out.trans hm (by simp))
  replace ZP := Hidden.mk (ZP.out.news hm)
  replace ZQ := Hidden.mk (ZQ.out.news hm)
  replace ZS := Hidden.mk (ZS.out.news hm)
  replace ZM := Hidden.mk (ZM.out.news hm)
  replace ZN := Hidden.mk (ZN.out.news hm)
  clear hm
  go_wp2_with fail
  refine (count1 ZN.out (by have := BN.out; omega)).mono ?_
  rintro e u7 ⟨rfl, hm⟩
  rw [CN.out]
  replace HM := Hidden.mk (HM.out.trans hm (by simp))
  replace ZP := Hidden.mk (ZP.out.news hm)
  replace ZQ := Hidden.mk (ZQ.out.news hm)
  replace ZS := Hidden.mk (ZS.out.news hm)
  replace ZM := Hidden.mk (ZM.out.news hm)
  replace ZN := Hidden.mk (ZN.out.news hm)
  clear hm
  go_wp2_with fail
  refine (count1 ZP.out (by have := BP.out; omega)).mono ?_
  rintro e u8 ⟨rfl, hm⟩
  rw [CP.out]
  replace HM := Hidden.mk (HM.out.trans hm (by simp))
  replace ZP := Hidden.mk (ZP.out.news hm)
  replace ZQ := Hidden.mk (ZQ.out.news hm)
  replace ZS := Hidden.mk (ZS.out.news hm)
  replace ZM := Hidden.mk (ZM.out.news hm)
  replace ZN := Hidden.mk (ZN.out.news hm)
  clear hm
  go_wp2_with fail
  refine (count1 ZQ.out (by have := BQ.out; omega)).mono ?_
  rintro e u9 ⟨rfl, hm⟩
  rw [CQ.out]
  replace HM := Hidden.mk (HM.out.trans hm (by simp))
  replace ZP := Hidden.mk (ZP.out.news hm)
  replace ZQ := Hidden.mk (ZQ.out.news hm)
  replace ZS := Hidden.mk (ZS.out.news hm)
  replace ZM := Hidden.mk (ZM.out.news hm)
  replace ZN := Hidden.mk (ZN.out.news hm)
  clear hm
  go_wp2_with fail
  clear hsum hw1 hw2 hsame
  go_wp2_with fail
  refine (xor2 ZP.out ZQ.out (by have := BP.out; omega) (by have := BQ.out; omega) IP.out IQ.out).mono ?_
  rintro e u10 ⟨gX, bX, RX, rfl, hz, hm⟩
  replace HM := Hidden.mk (HM.out.trans hm (by simp))
  replace ZP := Hidden.mk (ZP.out.news hm)
  replace ZQ := Hidden.mk (ZQ.out.news hm)
  replace ZS := Hidden.mk (ZS.out.news hm)
  replace ZM := Hidden.mk (ZM.out.news hm)
  replace ZN := Hidden.mk (ZN.out.news hm)
  clear hm
  have ZX := Hidden.mk hz
  clear hz
  obtain ⟨X, hX⟩ : ∃ L, twoL (lessL P Q) (lessL Q P) = L := ⟨_, rfl⟩
  have BX : Hidden (X.length ≤ 100) := ⟨by rw [← hX]; have := two_le (lessL P Q) (lessL Q P); have := lessL_le P Q; have := lessL_le Q P; have := BP.out; have := BQ.out; omega⟩
  have IX : Hidden (X.Pairwise (· < ·)) := ⟨by rw [← hX]; exact two_rises (lessL_rises IP.out) (lessL_rises IQ.out)⟩
  have EX : Hidden (twoL (lessL P Q) (lessL Q P) = X) := ⟨hX⟩
  rw [hX] at ZX
  clear hX
  go_wp2_with fail
  refine (less2 ZM.out ZN.out (by have := BM.out; omega) (by have := BN.out; omega) IM.out IN.out).mono ?_
  rintro e u11 ⟨gY, bY, RY, rfl, hz, hm⟩
  replace HM := Hidden.mk (HM.out.trans hm (by simp))
  replace ZP := Hidden.mk (ZP.out.news hm)
  replace ZQ := Hidden.mk (ZQ.out.news hm)
  replace ZS := Hidden.mk (ZS.out.news hm)
  replace ZM := Hidden.mk (ZM.out.news hm)
  replace ZN := Hidden.mk (ZN.out.news hm)
  replace ZX := Hidden.mk (ZX.out.news hm)
  clear hm
  have ZY := Hidden.mk hz
  clear hz
  obtain ⟨Y, hY⟩ : ∃ L, lessL M N = L := ⟨_, rfl⟩
  have BY : Hidden (Y.length ≤ 100) := ⟨by rw [← hY]; have := lessL_le M N; have := BM.out; omega⟩
  have IY : Hidden (Y.Pairwise (· < ·)) := ⟨by rw [← hY]; exact lessL_rises IM.out⟩
  have EY : Hidden (lessL M N = Y) := ⟨hY⟩
  rw [hY] at ZY
  clear hY
  go_wp2_with fail
  refine (eq2 ZX.out ZY.out (by have := BX.out; omega) (by have := BY.out; omega)).mono ?_
  rintro e u12 ⟨rfl, hm⟩
  rw [decide_eq_true (show X = Y from by rw [← EX.out, ← EY.out, law_xor IP.out IQ.out, EM.out, EN.out])]
  replace HM := Hidden.mk (HM.out.trans hm (by simp))
  replace ZP := Hidden.mk (ZP.out.news hm)
  replace ZQ := Hidden.mk (ZQ.out.news hm)
  replace ZS := Hidden.mk (ZS.out.news hm)
  replace ZM := Hidden.mk (ZM.out.news hm)
  replace ZN := Hidden.mk (ZN.out.news hm)
  replace ZX := Hidden.mk (ZX.out.news hm)
  replace ZY := Hidden.mk (ZY.out.news hm)
  clear hm
  clear ZX ZY
  go_wp2_with fail
  refine (or3 ZP.out ZQ.out ZS.out (by have := BP.out; omega) (by have := BQ.out; omega) (by have := BS.out; omega)).mono ?_
  rintro e u13 ⟨gX3, bX3, RX3, rfl, hz, hm⟩
  replace HM := Hidden.mk (HM.out.trans hm (by simp))
  replace ZP := Hidden.mk (ZP.out.news hm)
  replace ZQ := Hidden.mk (ZQ.out.news hm)
  replace ZS := Hidden.mk (ZS.out.news hm)
  replace ZM := Hidden.mk (ZM.out.news hm)
  replace ZN := Hidden.mk (ZN.out.news hm)
  clear hm
  have ZX3 := Hidden.mk hz
  clear hz
  obtain ⟨X3, hX3⟩ : ∃ L, twoL (twoL P Q) S = L := ⟨_, rfl⟩
  have BX3 : Hidden (X3.length ≤ 150) := ⟨by rw [← hX3]; have := two_le (twoL P Q) S; have := two_le P Q; have := BP.out; have := BQ.out; have := BS.out; omega⟩
  have IX3 : Hidden (X3.Pairwise (· < ·)) := ⟨by rw [← hX3]; exact two_rises (two_rises IP.out IQ.out) IS.out⟩
  have EX3 : Hidden (twoL (twoL P Q) S = X3) := ⟨hX3⟩
  rw [hX3] at ZX3
  clear hX3
  go_wp2_with fail
  refine (or2 ZQ.out ZP.out (by have := BQ.out; omega) (by have := BP.out; omega)).mono ?_
  rintro e u14 ⟨gT, bT, RT, rfl, hz, hm⟩
  replace HM := Hidden.mk (HM.out.trans hm (by simp))
  replace ZP := Hidden.mk (ZP.out.news hm)
  replace ZQ := Hidden.mk (ZQ.out.news hm)
  replace ZS := Hidden.mk (ZS.out.news hm)
  replace ZM := Hidden.mk (ZM.out.news hm)
  replace ZN := Hidden.mk (ZN.out.news hm)
  replace ZX3 := Hidden.mk (ZX3.out.news hm)
  clear hm
  have ZT := Hidden.mk hz
  clear hz
  obtain ⟨T, hT⟩ : ∃ L, twoL Q P = L := ⟨_, rfl⟩
  have BT : Hidden (T.length ≤ 100) := ⟨by rw [← hT]; have := two_le Q P; have := BP.out; have := BQ.out; omega⟩
  have IT : Hidden (T.Pairwise (· < ·)) := ⟨by rw [← hT]; exact two_rises IQ.out IP.out⟩
  have ET : Hidden (twoL Q P = T) := ⟨hT⟩
  rw [hT] at ZT
  clear hT
  go_wp2_with fail
  refine (or2 ZS.out ZT.out (by have := BS.out; omega) (by have := BT.out; omega)).mono ?_
  rintro e u15 ⟨gU, bU, RU, rfl, hz, hm⟩
  replace HM := Hidden.mk (HM.out.trans hm (by simp))
  replace ZP := Hidden.mk (ZP.out.news hm)
  replace ZQ := Hidden.mk (ZQ.out.news hm)
  replace ZS := Hidden.mk (ZS.out.news hm)
  replace ZM := Hidden.mk (ZM.out.news hm)
  replace ZN := Hidden.mk (ZN.out.news hm)
  replace ZX3 := Hidden.mk (ZX3.out.news hm)
  replace ZT := Hidden.mk (ZT.out.news hm)
  clear hm
  have ZU := Hidden.mk hz
  clear hz
  obtain ⟨U, hU⟩ : ∃ L, twoL S T = L := ⟨_, rfl⟩
  have BU : Hidden (U.length ≤ 150) := ⟨by rw [← hU]; have := two_le S T; have := BS.out; have := BT.out; omega⟩
  have IU : Hidden (U.Pairwise (· < ·)) := ⟨by rw [← hU]; exact two_rises IS.out IT.out⟩
  have EU : Hidden (twoL S T = U) := ⟨hU⟩
  rw [hU] at ZU
  clear hU
  go_wp2_with fail
  refine (eq2 ZX3.out ZU.out (by have := BX3.out; omega) (by have := BU.out; omega)).mono ?_
  rintro e u16 ⟨rfl, hm⟩
  rw [decide_eq_true (show X3 = U from by rw [← EX3.out, ← EU.out, ← ET.out, law_or IP.out IQ.out IS.out])]
  replace HM := Hidden.mk (HM.out.trans hm (by simp))
  replace ZP := Hidden.mk (ZP.out.news hm)
  replace ZQ := Hidden.mk (ZQ.out.news hm)
  replace ZS := Hidden.mk (ZS.out.news hm)
  replace ZM := Hidden.mk (ZM.out.news hm)
  replace ZN := Hidden.mk (ZN.out.news hm)
  replace ZX3 := Hidden.mk (ZX3.out.news hm)
  replace ZT := Hidden.mk (ZT.out.news hm)
  replace ZU := Hidden.mk (ZU.out.news hm)
  clear hm
  clear ZX3 ZT ZU
  go_wp2_with fail
  refine (and3 ZP.out ZQ.out ZS.out (by have := BP.out; omega) (by have := BQ.out; omega) (by have := BS.out; omega) IP.out IQ.out IS.out).mono ?_
  rintro e u17 ⟨gV, bV, RV, rfl, hz, hm⟩
  replace HM := Hidden.mk (HM.out.trans hm (by simp))
  replace ZP := Hidden.mk (ZP.out.news hm)
  replace ZQ := Hidden.mk (ZQ.out.news hm)
  replace ZS := Hidden.mk (ZS.out.news hm)
  replace ZM := Hidden.mk (ZM.out.news hm)
  replace ZN := Hidden.mk (ZN.out.news hm)
  clear hm
  have ZV := Hidden.mk hz
  clear hz
  obtain ⟨V, hV⟩ : ∃ L, andF P [Q, S] = L := ⟨_, rfl⟩
  have BV : Hidden (V.length ≤ 50) := ⟨by rw [← hV]; have := andF_le P [Q, S]; have := BP.out; omega⟩
  have IV : Hidden (V.Pairwise (· < ·)) := ⟨by rw [← hV]; exact andF_rises IP.out⟩
  have EV : Hidden (andF P [Q, S] = V) := ⟨hV⟩
  rw [hV] at ZV
  clear hV
  go_wp2_with fail
  refine (and2 ZS.out ZN.out (by have := BS.out; omega) (by have := BN.out; omega) IS.out IN.out).mono ?_
  rintro e u18 ⟨gW, bW, RW, rfl, hz, hm⟩
  replace HM := Hidden.mk (HM.out.trans hm (by simp))
  replace ZP := Hidden.mk (ZP.out.news hm)
  replace ZQ := Hidden.mk (ZQ.out.news hm)
  replace ZS := Hidden.mk (ZS.out.news hm)
  replace ZM := Hidden.mk (ZM.out.news hm)
  replace ZN := Hidden.mk (ZN.out.news hm)
  replace ZV := Hidden.mk (ZV.out.news hm)
  clear hm
  have ZW := Hidden.mk hz
  clear hz
  obtain ⟨W, hW⟩ : ∃ L, andF S [N] = L := ⟨_, rfl⟩
  have BW : Hidden (W.length ≤ 50) := ⟨by rw [← hW]; have := andF_le S [N]; have := BS.out; omega⟩
  have IW : Hidden (W.Pairwise (· < ·)) := ⟨by rw [← hW]; exact andF_rises IS.out⟩
  have EW : Hidden (andF S [N] = W) := ⟨hW⟩
  rw [hW] at ZW
  clear hW
  go_wp2_with fail
  refine (eq2 ZV.out ZW.out (by have := BV.out; omega) (by have := BW.out; omega)).mono ?_
  rintro e u19 ⟨rfl, hm⟩
  rw [decide_eq_true (show V = W from by rw [← EV.out, ← EW.out, ← EN.out, law_and IP.out IS.out])]
  replace HM := Hidden.mk (HM.out.trans hm (by simp))
  replace ZP := Hidden.mk (ZP.out.news hm)
  replace ZQ := Hidden.mk (ZQ.out.news hm)
  replace ZS := Hidden.mk (ZS.out.news hm)
  replace ZM := Hidden.mk (ZM.out.news hm)
  replace ZN := Hidden.mk (ZN.out.news hm)
  replace ZV := Hidden.mk (ZV.out.news hm)
  replace ZW := Hidden.mk (ZW.out.news hm)
  clear hm
  clear ZV ZW
  go_wp2_with fail
  refine (within2 ZN.out ZP.out (by have := BN.out; omega) (by have := BP.out; omega) IN.out IP.out).mono ?_
  rintro e u20 ⟨rfl, hm⟩
  rw [decide_eq_true (show lessL N P = [] from by rw [← EN.out]; exact law_within1 P Q)]
  replace HM := Hidden.mk (HM.out.trans hm (by simp))
  replace ZP := Hidden.mk (ZP.out.news hm)
  replace ZQ := Hidden.mk (ZQ.out.news hm)
  replace ZS := Hidden.mk (ZS.out.news hm)
  replace ZM := Hidden.mk (ZM.out.news hm)
  replace ZN := Hidden.mk (ZN.out.news hm)
  clear hm
  go_wp2_with fail
  refine (within2 ZP.out ZM.out (by have := BP.out; omega) (by have := BM.out; omega) IP.out IM.out).mono ?_
  rintro e u21 ⟨rfl, hm⟩
  rw [decide_eq_true (show lessL P M = [] from by rw [← EM.out]; exact law_within2 P Q)]
  replace HM := Hidden.mk (HM.out.trans hm (by simp))
  replace ZP := Hidden.mk (ZP.out.news hm)
  replace ZQ := Hidden.mk (ZQ.out.news hm)
  replace ZS := Hidden.mk (ZS.out.news hm)
  replace ZM := Hidden.mk (ZM.out.news hm)
  replace ZN := Hidden.mk (ZN.out.news hm)
  clear hm
  go_wp2_with fail
  refine (or2 ZQ.out ZS.out (by have := BQ.out; omega) (by have := BS.out; omega)).mono ?_
  rintro e u22 ⟨gD, bD, RD, rfl, hz, hm⟩
  replace HM := Hidden.mk (HM.out.trans hm (by simp))
  replace ZP := Hidden.mk (ZP.out.news hm)
  replace ZQ := Hidden.mk (ZQ.out.news hm)
  replace ZS := Hidden.mk (ZS.out.news hm)
  replace ZM := Hidden.mk (ZM.out.news hm)
  replace ZN := Hidden.mk (ZN.out.news hm)
  clear hm
  have ZD := Hidden.mk hz
  clear hz
  obtain ⟨D, hD⟩ : ∃ L, twoL Q S = L := ⟨_, rfl⟩
  have BD : Hidden (D.length ≤ 100) := ⟨by rw [← hD]; have := two_le Q S; have := BS.out; have := BQ.out; omega⟩
  have ID : Hidden (D.Pairwise (· < ·)) := ⟨by rw [← hD]; exact two_rises IQ.out IS.out⟩
  have ED : Hidden (twoL Q S = D) := ⟨hD⟩
  rw [hD] at ZD
  clear hD
  go_wp2_with fail
  refine (and2 ZP.out ZD.out (by have := BP.out; omega) (by have := BD.out; omega) IP.out ID.out).mono ?_
  rintro e u23 ⟨gF, bF, RF, rfl, hz, hm⟩
  replace HM := Hidden.mk (HM.out.trans hm (by simp))
  replace ZP := Hidden.mk (ZP.out.news hm)
  replace ZQ := Hidden.mk (ZQ.out.news hm)
  replace ZS := Hidden.mk (ZS.out.news hm)
  replace ZM := Hidden.mk (ZM.out.news hm)
  replace ZN := Hidden.mk (ZN.out.news hm)
  replace ZD := Hidden.mk (ZD.out.news hm)
  clear hm
  have ZF := Hidden.mk hz
  clear hz
  obtain ⟨F, hF⟩ : ∃ L, andF P [D] = L := ⟨_, rfl⟩
  have BF : Hidden (F.length ≤ 50) := ⟨by rw [← hF]; have := andF_le P [D]; have := BP.out; omega⟩
  have IF : Hidden (F.Pairwise (· < ·)) := ⟨by rw [← hF]; exact andF_rises IP.out⟩
  have EF : Hidden (andF P [D] = F) := ⟨hF⟩
  rw [hF] at ZF
  clear hF
  go_wp2_with fail
  refine (and2 ZP.out ZS.out (by have := BP.out; omega) (by have := BS.out; omega) IP.out IS.out).mono ?_
  rintro e u24 ⟨gH, bH, RH, rfl, hz, hm⟩
  replace HM := Hidden.mk (HM.out.trans hm (by simp))
  replace ZP := Hidden.mk (ZP.out.news hm)
  replace ZQ := Hidden.mk (ZQ.out.news hm)
  replace ZS := Hidden.mk (ZS.out.news hm)
  replace ZM := Hidden.mk (ZM.out.news hm)
  replace ZN := Hidden.mk (ZN.out.news hm)
  replace ZD := Hidden.mk (ZD.out.news hm)
  replace ZF := Hidden.mk (ZF.out.news hm)
  clear hm
  have ZH := Hidden.mk hz
  clear hz
  obtain ⟨H, hH⟩ : ∃ L, andF P [S] = L := ⟨_, rfl⟩
  have BH : Hidden (H.length ≤ 50) := ⟨by rw [← hH]; have := andF_le P [S]; have := BP.out; omega⟩
  have IH : Hidden (H.Pairwise (· < ·)) := ⟨by rw [← hH]; exact andF_rises IP.out⟩
  have EH : Hidden (andF P [S] = H) := ⟨hH⟩
  rw [hH] at ZH
  clear hH
  go_wp2_with fail
  refine (or2 ZN.out ZH.out (by have := BN.out; omega) (by have := BH.out; omega)).mono ?_
  rintro e u25 ⟨gJ, bJ, RJ, rfl, hz, hm⟩
  replace HM := Hidden.mk (HM.out.trans hm (by simp))
  replace ZP := Hidden.mk (ZP.out.news hm)
  replace ZQ := Hidden.mk (ZQ.out.news hm)
  replace ZS := Hidden.mk (ZS.out.news hm)
  replace ZM := Hidden.mk (ZM.out.news hm)
  replace ZN := Hidden.mk (ZN.out.news hm)
  replace ZD := Hidden.mk (ZD.out.news hm)
  replace ZF := Hidden.mk (ZF.out.news hm)
  replace ZH := Hidden.mk (ZH.out.news hm)
  clear hm
  have ZJ := Hidden.mk hz
  clear hz
  obtain ⟨J, hJ⟩ : ∃ L, twoL N H = L := ⟨_, rfl⟩
  have BJ : Hidden (J.length ≤ 100) := ⟨by rw [← hJ]; have := two_le N H; have := BN.out; have := BH.out; omega⟩
  have IJ : Hidden (J.Pairwise (· < ·)) := ⟨by rw [← hJ]; exact two_rises IN.out IH.out⟩
  have EJ : Hidden (twoL N H = J) := ⟨hJ⟩
  rw [hJ] at ZJ
  clear hJ
  go_wp2_with fail
  refine (eq2 ZF.out ZJ.out (by have := BF.out; omega) (by have := BJ.out; omega)).mono ?_
  rintro e u26 ⟨rfl, hm⟩
  rw [decide_eq_true (show F = J from by rw [← EF.out, ← EJ.out, ← ED.out, ← EN.out, ← EH.out, law_dist IP.out])]
  replace HM := Hidden.mk (HM.out.trans hm (by simp))
  replace ZP := Hidden.mk (ZP.out.news hm)
  replace ZQ := Hidden.mk (ZQ.out.news hm)
  replace ZS := Hidden.mk (ZS.out.news hm)
  replace ZM := Hidden.mk (ZM.out.news hm)
  replace ZN := Hidden.mk (ZN.out.news hm)
  replace ZD := Hidden.mk (ZD.out.news hm)
  replace ZF := Hidden.mk (ZF.out.news hm)
  replace ZH := Hidden.mk (ZH.out.news hm)
  replace ZJ := Hidden.mk (ZJ.out.news hm)
  clear hm
  go_wp2_with fail
  go_ret
  exact ⟨rfl, HM.out.below'⟩
end Go.Proofs.Ytfioekkegihkoaa
