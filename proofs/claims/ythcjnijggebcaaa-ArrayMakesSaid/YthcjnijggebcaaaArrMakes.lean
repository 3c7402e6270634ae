/- ArrayMakes: the walk. -/
import Derived.Test.YthcjnijggebcaaaArrB
import Derived.Test.YthcjnijggebcaaaArrD
import Derived.Test.YthcjnijggebcaaaRef06C
import Derived.Test.YthcjnijggebcaaaFew06
import Derived.Test.YthcjnijggebcaaaSame06
import Derived.Test.YthcjnijggebcaaaAw06
namespace Go.Proofs.Ythcjnijggebcaaa
open Go.RowKit
set_option linter.unusedVariables false
set_option linter.unusedSimpArgs false
set_option maxHeartbeats 2000000 in
set_option maxRecDepth 100000 in
theorem arrayMakes_walk {w : World} (a0 : Option Addr) (len0 cap0 : Nat) (z0 : List Int) (w0 : IntRow .u16 w a0 len0 cap0 z0) (y0 : len0 * 2 ≤ 140737488351232) :
    Calls Try.prog 5 #[.slice a0 len0 cap0] w fun e w' => e = .returned (.bool true) ∧ Below w.heap.size w w' := by
  obtain ⟨hsl, hlen⟩ := w0.isl
  have hb0 := w0.bnds
  have HSL := Hidden.mk (And.intro hsl hlen)
  have HB0 := Hidden.mk hb0
  clear hsl hlen hb0 w0
  go_enter Try.func5, Try.ntmps5
  go_wp2_with fail
  refine (awake06 _).mono ?_
  rintro e w1 ⟨rfl, hm1⟩
  have H1 := Hidden.mk (few06_call 300 (by decide) _ _ w1 (HSL.out.1.news hm1))
  have HB : Hidden (∀ x ∈ (z0.take len0).take 300, 0 ≤ x ∧ x < 65536) := ⟨fun x hx => by
    exact wf_u16 (HB0.out x (List.mem_of_mem_take (List.mem_of_mem_take hx)))⟩
  have HLN : Hidden (((z0.take len0).take 300).length ≤ 300) := ⟨by simp; omega⟩
  have e1 : (z0.take len0).length = len0 := HSL.out.2
  have HM1 := Hidden.mk hm1
  clear hm1
  rw [e1] at H1
  obtain ⟨L, hL⟩ : ∃ L, (z0.take len0).take 300 = L := ⟨_, rfl⟩
  rw [hL] at H1 HB HLN
  clear hL e1
  go_wp2_with fail
  refine H1.out.mono ?_
  rintro e w2 ⟨v2, rfl, hW2⟩
  have hM2 := Hidden.mk (HM1.out.trans hW2.mod (by simp))
  obtain ⟨hn2, hi2⟩ := hW2.isl
  have H2 := Hidden.mk (few06_call 300 (by decide) _ _ w2 hi2)
  obtain ⟨a2, c2, rfl, _⟩ := hi2.slice_
  have HI2 := Hidden.mk hi2
  rw [List.take_of_length_le HLN.out] at H2
  clear hW2 hn2 hi2 H1 HSL
  go_wp2_with fail
  refine H2.out.mono ?_
  rintro e w3 ⟨v3, rfl, hW3⟩
  have hM3 := Hidden.mk (hM2.out.trans hW3.mod (by simp))
  have hi3 := hW3.isl.2
  have H3 := Hidden.mk (of16 hi3 (by have := HLN.out; omega))
  obtain ⟨a3, c3, rfl, _⟩ := hi3.slice_
  have HI3 := Hidden.mk (And.intro hi3 (HI2.out.news hW3.mod))
  clear hW3 hi3 H2 HI2
  go_wp2_with fail
  refine H3.out.mono ?_
  rintro e w4 ⟨v4, rfl, hW4⟩
  have hM4 := Hidden.mk (hM3.out.trans hW4.mod (by simp))
  have hi4 := hW4.isl.2
  have H4 := Hidden.mk (of06 (HI3.out.2.news hW4.mod) (by have := HLN.out; omega) HB.out)
  obtain ⟨a4, c4, rfl, _⟩ := hi4.slice_
  have HI4 := Hidden.mk (And.intro hi4 (And.intro (HI3.out.1.news hW4.mod) (HI3.out.2.news hW4.mod)))
  clear hW4 hi4 H3 HI3
  go_wp2_with fail
  refine H4.out.mono ?_
  rintro e w5 ⟨v5, rfl, hs5, hm5, _⟩
  have hM5 := Hidden.mk (hM4.out.trans hm5 (by simp))
  have H5 := Hidden.mk (list06 hs5)
  obtain ⟨b5, rfl, _⟩ := hs5.at_
  have HI5 := Hidden.mk (And.intro (HI4.out.1.news hm5) (And.intro (HI4.out.2.1.news hm5) (HI4.out.2.2.news hm5)))
  clear hs5 hm5 H4 HI4
  go_wp2_with fail
  refine H5.out.mono ?_
  rintro e w6 ⟨v6, rfl, hW6⟩
  rw [lst_asc HB.out (fun i _ => rfl)] at hW6
  have hM6 := Hidden.mk (hM5.out.trans hW6.mod (by simp))
  have hi6 := hW6.isl.2
  obtain ⟨a6, c6, rfl, _⟩ := hi6.slice_
  have HI6 := Hidden.mk (And.intro hi6 (And.intro (HI5.out.1.news hW6.mod) (And.intro (HI5.out.2.1.news hW6.mod) (HI5.out.2.2.news hW6.mod))))
  clear hW6 hi6 H5 HI5
  generalize hn : L.length = n at *
  have HLN2 := HLN.out
  obtain ⟨X, hX⟩ : ∃ X : Nat → Int, ∀ t, X t = L.getD t 0 := ⟨fun t => L.getD t 0, fun _ => rfl⟩
  have HX := Hidden.mk hX
  have HC : Hidden (∀ W, Mod [] w6 W → ∀ p, p < n → 0 < p → ∃ g off, a2 = some ⟨g, off, none⟩ ∧ W.cell? ⟨g, off + p, none⟩ = some (.int .u16 (X p)) ∧ W.cell? ⟨g, off + (p - 1), none⟩ = some (.int .u16 (X (p - 1)))) := ⟨fun W hW p hp hp0 => by
    have hi := HI6.out.2.2.2.news hW
    obtain ⟨g, off, x, rfl, _, hx, hc⟩ := hi.get hp
    obtain ⟨g', off', x', he, _, hx', hc'⟩ := hi.get (i := p - 1) (by omega)
    injection he with he
    injection he with e1 e2
    subst e1 e2
    refine ⟨g, off, rfl, ?_, ?_⟩
    · rw [hc, HX.out, List.getD_eq_getElem?_getD, hx]; rfl
    · rw [hc', HX.out, List.getD_eq_getElem?_getD, hx']; rfl⟩
  have HN := Hidden.mk hn
  clear hX hn
  go_wp2_with fail
  go_loopw [6, 7] (fun vg vi wr => ∃ (i q : Nat) (g : Bool), 1 ≤ i ∧ i ≤ max n 1 ∧ vi = .int .i64 i ∧ vg = .bool g ∧ wr = w6.drewN q ∧ (g = true ↔ ∀ j, j < i → 0 < j → X (j - 1) < X j)) (fun _ vi _ => n - (intOf vi).toNat)
  case atStart => exact ⟨1, 0, true, by omega, by omega, rfl, rfl, rfl, ⟨fun _ j h1 h2 => by omega, fun _ => rfl⟩⟩
  case round =>
    obtain ⟨i, q, g, hi1, hi2, rfl, rfl, rfl, hg⟩ := hrel
    have HGI := Hidden.mk hg
    clear hg
    by_cases hin : i < n
    · obtain ⟨gb, off, rfl, hc1, hc2⟩ := HC.out (w6.drewN q) ((Mod.refl [] w6).drewN q) i hin (by omega)
      obtain ⟨W, hW⟩ : ∃ W, w6.drewN q = W := ⟨_, rfl⟩
      rw [hW] at hc1 hc2 ⊢
      have HW := Hidden.mk hW
      clear hW
      cases g
      · go_wp2_with fail
        go_quiet (fail)
        go_wp2_with fail
        go_roundw
        case rel =>
          refine ⟨i + 1, q + nq, false, by omega, by omega, by go_num, rfl, by rw [← HW.out]; exact drewN_add w6 q nq, ?_⟩
          constructor
          · intro h; cases h
          · intro h; exact HGI.out.2 (fun j h1 h2 => h j (by omega) h2)
        case measure => simp [intOf]; omega
      · have HGT := Hidden.mk (HGI.out.1 rfl)
        by_cases hlt : X (i - 1) < X i
        · go_wp2_with fail
          go_quiet (fail)
          go_wp2_with fail
          go_roundw
          case rel =>
            refine ⟨i + 1, q + nq, true, by omega, by omega, by go_num, rfl, by rw [← HW.out]; exact drewN_add w6 q nq, ?_⟩
            simp only [true_iff]
            intro j h1 h2
            rcases Nat.lt_or_ge j i with h3 | h3
            · exact HGT.out j h3 h2
            · have : j = i := by omega
              subst this; omega
          case measure => simp [intOf]; omega
        · have hltd : decide (X (i - 1) < X i) = false := decide_eq_false hlt
          go_wp2_with fail
          go_quiet (fail)
          go_wp2_with fail
          go_roundw
          case rel =>
            refine ⟨i + 1, q + nq, false, by omega, by omega, by go_num, (by first | rfl | (congr 1)), by rw [← HW.out]; exact drewN_add w6 q nq, ?_⟩
            constructor
            · intro h; cases h
            · intro h; have := h i (by omega) (by omega); omega
          case measure => simp [intOf]; omega
    · have hg2 : Hidden (isr L = g) := ⟨by
        rw [Bool.eq_iff_iff, HGI.out]
        unfold isr
        rw [decide_eq_true_iff, HN.out]
        constructor
        · intro h j h1 h2
          rw [HX.out, HX.out]
          exact h j (by omega) h2
        · intro h j h1 h2
          rw [← HX.out, ← HX.out]
          exact h j (by omega) h2⟩
      have hsm1 := Hidden.mk (same06 (w := w6.drewN q) (a := asc L) (b := asc L) (HI6.out.2.1.drewN q) (HI6.out.1.drewN q) (by have := asc_le L; rw [HN.out] at this; omega) (by have := asc_le L; rw [HN.out] at this; omega))
      rw [decide_eq_true (show asc L = asc L from rfl)] at hsm1
      clear HGI
      go_wp2_with fail
      refine hsm1.out.mono ?_
      rintro e w7 ⟨rfl, q7, rfl⟩
      rw [drewN_add]
      have his1 := Hidden.mk (is16 (w := w6.drewN (q + q7)) (l := asc L) (HI6.out.2.1.drewN _) (by have := asc_le L; rw [HN.out] at this; omega))
      rw [isr_iff.2 (asc_rises L)] at his1
      clear hsm1
      go_wp2_with fail
      refine his1.out.mono ?_
      rintro e w8 ⟨rfl, q8, rfl⟩
      rw [drewN_add]
      have his2 := Hidden.mk (is16 (w := w6.drewN (q + q7 + q8)) (l := L) (HI6.out.2.2.2.drewN _) (by rw [HN.out]; omega))
      rw [hg2.out] at his2
      clear his1
      go_wp2_with fail
      refine his2.out.mono ?_
      rintro e w9 ⟨rfl, q9, rfl⟩
      rw [drewN_add]
      have hsm2 := Hidden.mk (same06 (w := w6.drewN (q + q7 + q8 + q9)) (a := L) (b := L) (HI6.out.2.2.1.drewN _) (HI6.out.2.2.2.drewN _) (by rw [HN.out]; omega) (by rw [HN.out]; omega))
      rw [decide_eq_true (show L = L from rfl)] at hsm2
      clear his2 hg2
      have hgg : (g == g) = true := by simp
      go_wp2_with fail
      refine hsm2.out.mono ?_
      rintro e w10 ⟨rfl, q10, rfl⟩
      go_wp2_with fail
      go_ret
      exact ⟨rfl, ((hM6.out.drewN _).below (Nat.le_refl _) (by simp))⟩
end Go.Proofs.Ythcjnijggebcaaa
