/- BucketParts: the walk. -/
import Derived.Test.YthcjnijggebcaaaRef11B
import Derived.Test.YthcjnijggebcaaaAw15
import Derived.Test.YthcjnijggebcaaaWords
import Derived.Test.YthcjnijggebcaaaSame01
namespace Go.Proofs.Ythcjnijggebcaaa
open Go.RowKit
set_option linter.unusedVariables false
set_option linter.unusedSimpArgs false
theorem asc_length_le {l : List Int} {n : Nat} (h : l.length ≤ n) : (asc l).length ≤ n := Nat.le_trans (asc_le l) h
set_option maxHeartbeats 8000000 in
set_option maxRecDepth 100000 in
theorem bucketParts_walk {w : World} (a0 : Option Addr) (len0 cap0 : Nat) (z0 : List Int) (a1 : Option Addr) (len1 cap1 : Nat) (z1 : List Int) (w0 : IntRow .u64 w a0 len0 cap0 z0) (y0 : len0 * 8 ≤ 140737488351232) (w1 : IntRow .u64 w a1 len1 cap1 z1) (y1 : len1 * 8 ≤ 140737488351232) :
    Calls Try.prog 9 #[.slice a0 len0 cap0, .slice a1 len1 cap1] w fun e w' => e = .returned (.bool true) ∧ Below w.heap.size w w' := by
  obtain ⟨hsl0, hlen0⟩ := w0.isl
  have HLN0 : Hidden (((z0.take len0).take 100).length ≤ 100) := ⟨by simp; omega⟩
  have G0 : Hidden (∀ W, Mod [] w W → _) := ⟨fun W hW => words_call 100 (by decide) _ _ W (hsl0.news hW)⟩
  rw [hlen0] at G0
  obtain ⟨L0, hL0⟩ : ∃ L, (z0.take len0).take 100 = L := ⟨_, rfl⟩
  rw [hL0] at G0 HLN0
  obtain ⟨X0, hX0⟩ : ∃ X, asc L0 = X := ⟨_, rfl⟩
  have RX0 : Hidden (X0.Pairwise (· < ·)) := ⟨by rw [← hX0]; exact asc_rises L0⟩
  have LX0 : Hidden (X0.length ≤ 100) := ⟨by rw [← hX0]; exact asc_length_le HLN0.out⟩
  have HXL0 := Hidden.mk hX0
  clear hL0 hsl0 hlen0 w0 y0 hX0
  obtain ⟨hsl1, hlen1⟩ := w1.isl
  have HLN1 : Hidden (((z1.take len1).take 100).length ≤ 100) := ⟨by simp; omega⟩
  have G1 : Hidden (∀ W, Mod [] w W → _) := ⟨fun W hW => words_call 100 (by decide) _ _ W (hsl1.news hW)⟩
  rw [hlen1] at G1
  obtain ⟨L1, hL1⟩ : ∃ L, (z1.take len1).take 100 = L := ⟨_, rfl⟩
  rw [hL1] at G1 HLN1
  obtain ⟨X1, hX1⟩ : ∃ X, asc L1 = X := ⟨_, rfl⟩
  have RX1 : Hidden (X1.Pairwise (· < ·)) := ⟨by rw [← hX1]; exact asc_rises L1⟩
  have LX1 : Hidden (X1.length ≤ 100) := ⟨by rw [← hX1]; exact asc_length_le HLN1.out⟩
  have HXL1 := Hidden.mk hX1
  clear hL1 hsl1 hlen1 w1 y1 hX1
  go_enter Try.func9, Try.ntmps9
  go_wp2_with fail
  refine (awake15 _).mono ?_
  rintro e w1 ⟨rfl, hm⟩
  have HM := Hidden.mk hm
  clear hm
  go_wp2_with fail
  refine (G0.out _ HM.out).mono ?_
  rintro e w20 ⟨v, rfl, hW⟩
  have hmz : Mod [] w1 w20 := hW.mod
  replace HM := Hidden.mk (HM.out.trans hmz (by simp))
  have F0 := Hidden.mk (hW.isl.2)
  obtain ⟨pf0, cf0, rfl, _⟩ := F0.out.slice_
  clear hmz hW
  go_wp2_with fail
  refine (G1.out _ HM.out).mono ?_
  rintro e w21 ⟨v, rfl, hW⟩
  have hmz : Mod [] w20 w21 := hW.mod
  replace HM := Hidden.mk (HM.out.trans hmz (by simp))
  replace F0 := Hidden.mk (F0.out.news hmz)
  have F1 := Hidden.mk (hW.isl.2)
  obtain ⟨pf1, cf1, rfl, _⟩ := F1.out.slice_
  clear hmz hW
  go_wp2_with fail
  refine (of11 F0.out (Nat.le_trans HLN0.out (by decide))).mono ?_
  rintro e w30 ⟨v, rfl, hW, hm⟩
  have hmz : Mod [] w21 w30 := hm
  replace HM := Hidden.mk (HM.out.trans hmz (by simp))
  replace F0 := Hidden.mk (F0.out.news hmz)
  replace F1 := Hidden.mk (F1.out.news hmz)
  have FX0 := Hidden.mk (hW)
  rw [HXL0.out] at FX0
  obtain ⟨px0, cx0, rfl, _⟩ := FX0.out.slice_
  clear hmz hW
  go_wp2_with fail
  refine (of11 F1.out (Nat.le_trans HLN1.out (by decide))).mono ?_
  rintro e w31 ⟨v, rfl, hW, hm⟩
  have hmz : Mod [] w30 w31 := hm
  replace HM := Hidden.mk (HM.out.trans hmz (by simp))
  replace F0 := Hidden.mk (F0.out.news hmz)
  replace F1 := Hidden.mk (F1.out.news hmz)
  replace FX0 := Hidden.mk (FX0.out.news hmz)
  have FX1 := Hidden.mk (hW)
  rw [HXL1.out] at FX1
  obtain ⟨px1, cx1, rfl, _⟩ := FX1.out.slice_
  clear hmz hW
  have SP := Hidden.mk (split64 FX0.out (Nat.le_trans LX0.out (by decide)))
  obtain ⟨n, hn⟩ : ∃ n, (X0.length + 1) / 2 = n := ⟨_, rfl⟩
  rw [hn] at SP
  have HAB : Hidden (X0.take n ++ X0.drop n = X0) := ⟨List.take_append_drop n X0⟩
  have HNN : Hidden ((X0.take n).length = (X0.drop n).length ∨ (X0.take n).length = (X0.drop n).length + 1) := ⟨by rw [List.length_take, List.length_drop]; omega⟩
  have LA : Hidden ((X0.take n).length ≤ 100) := ⟨by rw [List.length_take]; have := LX0.out; omega⟩
  have LB : Hidden ((X0.drop n).length ≤ 100) := ⟨by rw [List.length_drop]; have := LX0.out; omega⟩
  clear hn
  generalize X0.take n = A at *
  generalize X0.drop n = B at *
  go_wp2_with fail
  refine (SP.out).mono ?_
  rintro e w4 ⟨va, vb, rfl, hW, hb, hm2⟩
  have hmz : Mod [] w31 w4 := hm2
  replace HM := Hidden.mk (HM.out.trans hmz (by simp))
  replace F0 := Hidden.mk (F0.out.news hmz)
  replace F1 := Hidden.mk (F1.out.news hmz)
  replace FX0 := Hidden.mk (FX0.out.news hmz)
  replace FX1 := Hidden.mk (FX1.out.news hmz)
  have FA := Hidden.mk (hW)
  obtain ⟨pa, ca, rfl, _⟩ := FA.out.slice_
  have FB := Hidden.mk (hb)
  obtain ⟨pb, cb, rfl, _⟩ := FB.out.slice_
  clear hmz hW
  clear hb hm2 SP
  obtain ⟨L, hL⟩ : ∃ L, L0 = L := ⟨_, rfl⟩
  obtain ⟨n, hn⟩ : ∃ n, L0.length = n := ⟨_, rfl⟩
  have HN := Hidden.mk hn
  have HLN2 := HLN0.out
  rw [hn] at HLN2
  obtain ⟨X, hX⟩ : ∃ X : Nat → Int, ∀ t, X t = L0.getD t 0 := ⟨fun t => L0.getD t 0, fun _ => rfl⟩
  have HX := Hidden.mk hX
  have HC : Hidden (∀ W, Mod [] w4 W → ∀ p, p < n → 0 < p → ∃ g off, pf0 = some ⟨g, off, none⟩ ∧ W.cell? ⟨g, off + p, none⟩ = some (.int .u64 (X p)) ∧ W.cell? ⟨g, off + (p - 1), none⟩ = some (.int .u64 (X (p - 1)))) := ⟨fun W hW p hp hp0 => by
    have hi := F0.out.news hW
    obtain ⟨g, off, x, rfl, _, hx, hc⟩ := hi.get (i := p) (by rw [HN.out]; exact hp)
    obtain ⟨g', off', x', he, _, hx', hc'⟩ := hi.get (i := p - 1) (by rw [HN.out]; omega)
    injection he with he
    injection he with e1 e2
    subst e1 e2
    refine ⟨g, off, rfl, ?_, ?_⟩
    · rw [hc, HX.out, List.getD_eq_getElem?_getD, hx]; rfl
    · rw [hc', HX.out, List.getD_eq_getElem?_getD, hx']; rfl⟩
  clear hX hL L
  obtain ⟨na, hna⟩ : ∃ m, A.length = m := ⟨_, rfl⟩
  obtain ⟨nb, hnb⟩ : ∃ m, B.length = m := ⟨_, rfl⟩
  have hab : na = nb ∨ na = nb + 1 := by rw [← hna, ← hnb]; exact HNN.out
  have hna1 : na ≤ 100 := by rw [← hna]; exact LA.out
  have hnb1 : nb ≤ 100 := by rw [← hnb]; exact LB.out
  have FA2 : Hidden (ISl .u64 w4 (.slice pa na ca) A) := ⟨by rw [← hna]; exact FA.out⟩
  have FB2 : Hidden (ISl .u64 w4 (.slice pb nb cb) B) := ⟨by rw [← hnb]; exact FB.out⟩
  rw [hna, hnb, hn]
  have HNA := Hidden.mk (And.intro hna hnb)
  have F02 : Hidden (ISl .u64 w4 (.slice pf0 n cf0) L0) := ⟨by rw [← hn]; exact F0.out⟩
  clear hna hnb HNN FA FB F0 hn
  obtain ⟨d, hd, hd01⟩ : ∃ d : Int, (na : Int) - (nb : Int) = d ∧ (d = 0 ∨ d = 1) := ⟨_, rfl, by omega⟩
  clear hab
  have HXab : Hidden (asc [X0, X1].flatten = asc (X0 ++ X1)) := ⟨by simp⟩
  have HXm : Hidden (asc [A, B].flatten = X0) := ⟨by simp only [List.flatten_cons, List.flatten_nil, List.append_nil]; rw [HAB.out]; exact asc_self RX0.out⟩
  have LX0b := LX0.out
  have LX1b := LX1.out
  have LAb := LA.out
  have LBb := LB.out
  go_wp2_with fail
  go_loopw [10, 11] (fun vg vi wr => ∃ (i q : Nat) (g : Bool), 1 ≤ i ∧ i ≤ max n 1 ∧ vi = .int .i64 i ∧ vg = .bool g ∧ wr = w4.drewN q ∧ (g = true ↔ ∀ j, j < i → 0 < j → X (j - 1) < X j)) (fun _ vi _ => n - (intOf vi).toNat)
  case atStart => exact ⟨1, 0, true, by omega, by omega, rfl, rfl, rfl, ⟨fun _ j h1 h2 => by omega, fun _ => rfl⟩⟩
  case round =>
    obtain ⟨i, q, g, hi1, hi2, rfl, rfl, rfl, hg⟩ := hrel
    have HGI := Hidden.mk hg
    clear hg
    by_cases hin : i < n
    · obtain ⟨gb, off, rfl, hc1, hc2⟩ := HC.out (w4.drewN q) ((Mod.refl [] w4).drewN q) i hin (by omega)
      obtain ⟨W, hW⟩ : ∃ W, w4.drewN q = W := ⟨_, rfl⟩
      rw [hW] at hc1 hc2 ⊢
      have HW := Hidden.mk hW
      clear hW
      cases g
      · go_wp2_with fail
        go_quiet (fail)
        go_wp2_with fail
        go_roundw
        case rel =>
          refine ⟨i + 1, q + nq, false, by omega, by omega, by go_num, rfl, by rw [← HW.out]; exact drewN_add w4 q nq, ?_⟩
          constructor
          · intro h; cases h
          · intro h; exact HGI.out.2 (fun j h1 h2 => h j (by omega) h2)
        case measure => simp [intOf]; omega
      · have HGT := Hidden.mk (HGI.out.1 rfl)
        by_cases hlt : X (i - 1) < X i
        · go_wp2_with fail
          go_quiet (fail)
          go_wp2_with fail
          go_roundw
          case rel =>
            refine ⟨i + 1, q + nq, true, by omega, by omega, by go_num, rfl, by rw [← HW.out]; exact drewN_add w4 q nq, ?_⟩
            simp only [true_iff]
            intro j h1 h2
            rcases Nat.lt_or_ge j i with h3 | h3
            · exact HGT.out j h3 h2
            · have : j = i := by omega
              subst this; omega
          case measure => simp [intOf]; omega
        · have hltd : decide (X (i - 1) < X i) = false := decide_eq_false hlt
          go_wp2_with fail
          go_quiet (fail)
          go_wp2_with fail
          go_roundw
          case rel =>
            refine ⟨i + 1, q + nq, false, by omega, by omega, by go_num, (by first | rfl | (congr 1)), by rw [← HW.out]; exact drewN_add w4 q nq, ?_⟩
            constructor
            · intro h; cases h
            · intro h; have := h i (by omega) (by omega); omega
          case measure => simp [intOf]; omega
    · have hg2 : Hidden (isr L0 = g) := ⟨by
        rw [Bool.eq_iff_iff, HGI.out]
        unfold isr
        rw [decide_eq_true_iff, HN.out]
        constructor
        · intro h j h1 h2
          rw [HX.out, HX.out]
          exact h j (by omega) h2
        · intro h j h1 h2
          rw [← HX.out, ← HX.out]
          exact h j (by omega) h2⟩
      obtain ⟨W, hW⟩ : ∃ W, w4.drewN q = W := ⟨_, rfl⟩
      rw [hW]
      have HW : Hidden (Mod [] w4 W) := ⟨by rw [← hW]; exact (Mod.refl [] w4).drewN q⟩
      have hinz : decide ((i : Int) < (n : Int)) = false := decide_eq_false (by omega)
      clear hW HGI HC HX
      have hA := Hidden.mk (WayI.empty (k := .u64) (e := 62) (Mod.refl [] W))
      have hT0 := Hidden.mk (((FX0.out.news HW.out).news ((Mod.refl [] W).alloc (.cells #[] 62))).holds)
      have o0 := Hidden.mk (icells_one .u64 X0)
      have o1 := Hidden.mk (icells_one .u64 X1)
      have oa := Hidden.mk (icells_one .u64 A)
      have ob := Hidden.mk (icells_one .u64 B)
      go_wp2_with (first
        | (refine wpList_any rfl (.tmp 52) (.tmp 53) 57 rfl 62 (.int .u64 0) 1 8 (by kernel_rfl) info64 rfl (by decide) _ _ _ rfl hA.out.row _ _ _ rfl hT0.out o0.out (by omega) (by omega) ?_; intro b4 c4 wa hr4 hm4 hf4; rw [Nat.zero_add] at hr4 hf4 ⊢; have hB := Hidden.mk (hA.out.next hr4 hm4 hf4 (m := X0) (by simp [icells])); clear hr4 hm4 hf4; have hT1 := Hidden.mk ((FX1.out.news (HW.out.trans hB.out.mod (by simp))).holds))
        | (refine wpList_any rfl (.tmp 54) (.tmp 55) 57 rfl 62 (.int .u64 0) 1 8 (by kernel_rfl) info64 rfl (by decide) _ _ _ rfl hB.out.row _ _ _ rfl hT1.out o1.out (by omega) (by omega) ?_; intro b5 c5 wb hr5 hm5 hf5; have hC := Hidden.mk (hB.out.next hr5 hm5 hf5 (m := X0 ++ X1) (by simp [icells])); clear hr5 hm5 hf5; have hA2 := Hidden.mk (WayI.empty (k := .u64) (e := 62) (Mod.refl [] wb)); have hTa := Hidden.mk ((FA2.out.news (HW.out.trans (hC.out.mod.alloc (.cells #[] 62)) (by simp))).holds))
        | (refine wpList_any rfl (.tmp 57) (.tmp 58) 57 rfl 62 (.int .u64 0) 1 8 (by kernel_rfl) info64 rfl (by decide) _ _ _ rfl hA2.out.row _ _ _ rfl hTa.out oa.out (by omega) (by omega) ?_; intro b6 c6 wc hr6 hm6 hf6; rw [Nat.zero_add] at hr6 hf6 ⊢; have hD := Hidden.mk (hA2.out.next hr6 hm6 hf6 (m := A) (by simp [icells])); clear hr6 hm6 hf6; have hTb := Hidden.mk ((FB2.out.news (HW.out.trans (hC.out.mod.trans hD.out.mod (by simp)) (by simp))).holds))
        | (refine wpList_any rfl (.tmp 59) (.tmp 60) 57 rfl 62 (.int .u64 0) 1 8 (by kernel_rfl) info64 rfl (by decide) _ _ _ rfl hD.out.row _ _ _ rfl hTb.out ob.out (by omega) (by omega) ?_; intro b7 c7 wd hr7 hm7 hf7; have hE := Hidden.mk (hD.out.next hr7 hm7 hf7 (m := X0) (by rw [← HAB.out]; simp [icells])); clear hr7 hm7 hf7))
      have K1 := Hidden.mk (HW.out.trans (hC.out.mod.trans hE.out.mod (by simp)) (by simp))
      have RC : Hidden (ISl .u64 wd (.slice b5 (X0.length + X1.length) c5) (X0 ++ X1)) := ⟨hC.out.isl.2.news hE.out.mod⟩
      have S0 := Hidden.mk (same01 hE.out.isl.2 (FX0.out.news K1.out) (Nat.le_trans LX0b (by decide)) (Nat.le_trans LX0b (by decide)))
      rw [decide_eq_true rfl] at S0
      have LC : Hidden ((X0 ++ X1).length ≤ 200) := ⟨by rw [List.length_append]; omega⟩
      have FX0' := Hidden.mk (FX0.out.news K1.out)
      have FX1' := Hidden.mk (FX1.out.news K1.out)
      have FA' := Hidden.mk (FA2.out.news K1.out)
      have FB' := Hidden.mk (FB2.out.news K1.out)
      have F0' := Hidden.mk (F02.out.news K1.out)
      have HM' := Hidden.mk (HM.out.trans K1.out (by simp))
      clear hA hB hC hD hE hA2 hT0 hT1 hTa hTb K1 HW hd FX0 FX1 FA2 FB2 F02 HM o0 o1 oa ob
      refine S0.out.mono ?_
      rintro e we ⟨rfl, q1, hq⟩
      have hmz : Mod [] wd we := by rw [hq]; exact (Mod.refl [] _).drewN q1
      replace RC := Hidden.mk (RC.out.news hmz)
      replace FX0' := Hidden.mk (FX0'.out.news hmz)
      replace FX1' := Hidden.mk (FX1'.out.news hmz)
      replace FA' := Hidden.mk (FA'.out.news hmz)
      replace FB' := Hidden.mk (FB'.out.news hmz)
      replace F0' := Hidden.mk (F0'.out.news hmz)
      replace HM' := Hidden.mk (HM'.out.trans hmz (by simp))
      clear hmz hq S0
      have hq3 : (g == g) = true := by simp
      rcases hd01 with rfl | rfl
      all_goals
        have C6 := Hidden.mk (merge64 (LSl.new2 (t := 57) (b := we.heap.size) rfl FX0'.out FX1'.out) (by simp [flen]; omega) (by simp))
        rw [HXab.out] at C6
        go_wp2_with fail
        refine C6.out.mono ?_
        rintro e wf ⟨vm, rfl, hW⟩
        have FM := Hidden.mk hW.isl.2
        obtain ⟨pm, cm, rfl, _⟩ := FM.out.slice_
        have hmz : Mod [] we wf := ((Mod.refl [] we).alloc _).trans hW.mod (by simp)
        replace RC := Hidden.mk (RC.out.news hmz)
        replace FX0' := Hidden.mk (FX0'.out.news hmz)
        replace FA' := Hidden.mk (FA'.out.news hmz)
        replace FB' := Hidden.mk (FB'.out.news hmz)
        replace F0' := Hidden.mk (F0'.out.news hmz)
        replace HM' := Hidden.mk (HM'.out.trans hmz (by simp))
        clear hmz hW C6
        have C7 := Hidden.mk (of11 RC.out (Nat.le_trans LC.out (by decide)))
        go_wp2_with fail
        refine C7.out.mono ?_
        rintro e wg ⟨vo, rfl, ho, hmz⟩
        obtain ⟨po, co, rfl, _⟩ := ho.slice_
        have S1 := Hidden.mk (same01 (FM.out.news hmz) ho (Nat.le_trans (asc_length_le LC.out) (by decide)) (Nat.le_trans (asc_length_le LC.out) (by decide)))
        rw [decide_eq_true rfl] at S1
        replace FX0' := Hidden.mk (FX0'.out.news hmz)
        replace FA' := Hidden.mk (FA'.out.news hmz)
        replace FB' := Hidden.mk (FB'.out.news hmz)
        replace F0' := Hidden.mk (F0'.out.news hmz)
        replace HM' := Hidden.mk (HM'.out.trans hmz (by simp))
        clear hmz ho C7 RC FM
        go_wp2_with fail
        refine S1.out.mono ?_
        rintro e wh ⟨rfl, q2, hq⟩
        have hmz : Mod [] wg wh := by rw [hq]; exact (Mod.refl [] _).drewN q2
        replace FX0' := Hidden.mk (FX0'.out.news hmz)
        replace FA' := Hidden.mk (FA'.out.news hmz)
        replace FB' := Hidden.mk (FB'.out.news hmz)
        replace F0' := Hidden.mk (F0'.out.news hmz)
        replace HM' := Hidden.mk (HM'.out.trans hmz (by simp))
        clear hmz hq S1
        have C8 := Hidden.mk (merge64 (LSl.new2 (t := 57) (b := wh.heap.size) rfl FA'.out FB'.out) (by simp [flen]; omega) (by simp))
        rw [HXm.out] at C8
        go_wp2_with fail
        refine C8.out.mono ?_
        rintro e wi ⟨vn, rfl, hW⟩
        have hmz : Mod [] wh wi := ((Mod.refl [] wh).alloc _).trans hW.mod (by simp)
        have S2 := Hidden.mk (same01 hW.isl.2 (FX0'.out.news hmz) (Nat.le_trans LX0b (by decide)) (Nat.le_trans LX0b (by decide)))
        rw [decide_eq_true rfl] at S2
        obtain ⟨pn, cn, rfl, _⟩ := hW.isl.2.slice_
        replace F0' := Hidden.mk (F0'.out.news hmz)
        replace HM' := Hidden.mk (HM'.out.trans hmz (by simp))
        clear hmz hW C8
        go_wp2_with fail
        refine S2.out.mono ?_
        rintro e wj ⟨rfl, q3, hq⟩
        have hmz : Mod [] wi wj := by rw [hq]; exact (Mod.refl [] _).drewN q3
        replace F0' := Hidden.mk (F0'.out.news hmz)
        replace HM' := Hidden.mk (HM'.out.trans hmz (by simp))
        clear hmz hq S2
        have C9 := Hidden.mk (merge64 (LSl.nil_ .u64 wj none 0 (by decide)) (by decide) (by decide))
        rw [show asc ([] : List (List Int)).flatten = [] from asc_self List.Pairwise.nil] at C9
        go_wp2_with fail
        refine C9.out.mono ?_
        rintro e wk ⟨vk, rfl, hW⟩
        obtain ⟨pk, ck, rfl, _⟩ := hW.isl.2.slice_
        replace F0' := Hidden.mk (F0'.out.news hW.mod)
        replace HM' := Hidden.mk (HM'.out.trans hW.mod (by simp))
        clear hW C9
        have C10 := Hidden.mk (is64 F0'.out (Nat.le_trans HLN0.out (by decide)))
        rw [hg2.out] at C10
        go_wp2_with fail
        refine C10.out.mono ?_
        rintro e wl ⟨rfl, q4, hq⟩
        have HF : Hidden (Mod [] w wl) := ⟨by rw [hq]; exact HM'.out.drewN q4⟩
        clear hq C10
        go_wp2_with fail
        go_ret
        exact ⟨rfl, HF.out.below (Nat.le_refl _) (by simp)⟩
end Go.Proofs.Ythcjnijggebcaaa
