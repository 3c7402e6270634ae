/- BucketBack: the walk. -/
import Derived.Test.YthcjnijggebcaaaRef11B
import Derived.Test.YthcjnijggebcaaaAw15
import Derived.Test.YthcjnijggebcaaaWords
import Derived.Test.YthcjnijggebcaaaSame01
namespace Go.Proofs.Ythcjnijggebcaaa
open Go.RowKit
set_option linter.unusedVariables false
set_option linter.unusedSimpArgs false
theorem back_drop {X : List Int} {k : Int} (hX : X.Pairwise (· < ·)) (hk : k ∉ X) : delL (insL X k) k = X := by
  have hi := insL_rises hX hk
  have hm : k ∈ insL X k := insL_mem.2 (.inl rfl)
  refine rise_ext (delL_rises hi) hX (fun y => ?_)
  rw [delL_mem hi hm, insL_mem]
  constructor
  · rintro ⟨h1 | h1, h2⟩
    · exact absurd h1 h2
    · exact h1
  · intro h; exact ⟨.inr h, fun he => hk (he ▸ h)⟩
theorem halves_one {U : List Int} {k : Int} (hU : U.Pairwise (· < ·)) (hk : k ∈ U) (n : Nat) : (decide (k ∈ U.take n) != decide (k ∈ U.drop n)) = true := by
  have h1 : k ∈ U.take n ∨ k ∈ U.drop n := by rw [← List.mem_append, List.take_append_drop]; exact hk
  have h2 : ¬ (k ∈ U.take n ∧ k ∈ U.drop n) := by
    rintro ⟨ha, hb⟩
    rw [← List.take_append_drop n U] at hU
    have := (List.pairwise_append.1 hU).2.2 k ha k hb
    omega
  by_cases ha : k ∈ U.take n <;> by_cases hb : k ∈ U.drop n <;> simp_all
theorem back_merge {U : List Int} (hU : U.Pairwise (· < ·)) (n : Nat) : asc [U.drop n, U.take n].flatten = U :=
  asc_eq hU (fun x => by simp only [List.flatten_cons, List.flatten_nil, List.append_nil, List.mem_append]; rw [or_comm, ← List.mem_append, List.take_append_drop])
set_option maxHeartbeats 4000000 in
set_option maxRecDepth 100000 in
theorem bucketBack_walk {w : World} (a0 : Option Addr) (len0 cap0 : Nat) (z0 : List Int) (k : Int) (w0 : IntRow .u64 w a0 len0 cap0 z0) (y0 : len0 * 8 ≤ 140737488351232) (w1 : (Lit.int .u64 k).wf = true) :
    Calls Try.prog 11 #[.slice a0 len0 cap0, .int .u64 k] w fun e w' => e = .returned (.bool true) ∧ Below w.heap.size w w' := by
  obtain ⟨hsl, hlen⟩ := w0.isl
  have HLN : Hidden (((z0.take len0).take 120).length ≤ 120) := ⟨by simp; omega⟩
  have G0 : Hidden (∀ W, Mod [] w W → _) := ⟨fun W hW => words_call 120 (by decide) _ _ W (hsl.news hW)⟩
  rw [hlen] at G0
  obtain ⟨L, hL⟩ : ∃ L, (z0.take len0).take 120 = L := ⟨_, rfl⟩
  rw [hL] at G0 HLN
  obtain ⟨X, hX⟩ : ∃ X, asc L = X := ⟨_, rfl⟩
  have RX : Hidden (X.Pairwise (· < ·)) := ⟨by rw [← hX]; exact asc_rises L⟩
  have LX : Hidden (X.length ≤ 120) := ⟨by rw [← hX]; have := asc_le L; have := HLN.out; omega⟩
  obtain ⟨U, hU⟩ : ∃ U, (if k ∈ X then X else insL X k) = U := ⟨_, rfl⟩
  have RU : Hidden (U.Pairwise (· < ·)) := ⟨by
    rw [← hU]; by_cases hk : k ∈ X
    · rw [if_pos hk]; exact RX.out
    · rw [if_neg hk]; exact insL_rises RX.out hk⟩
  have KU : Hidden (k ∈ U) := ⟨by
    rw [← hU]; by_cases hk : k ∈ X
    · rw [if_pos hk]; exact hk
    · rw [if_neg hk]; exact insL_mem.2 (.inl rfl)⟩
  have LU : Hidden (U.length ≤ 200) := ⟨by
    rw [← hU]; have := LX.out; by_cases hk : k ∈ X
    · rw [if_pos hk]; omega
    · rw [if_neg hk]; unfold insL; simp only [List.length_append, List.length_take, List.length_drop, List.length_cons, List.length_nil]; omega⟩
  have DX : Hidden (k ∉ X → delL U k = X) := ⟨fun hk => by rw [← hU, if_neg hk]; exact back_drop RX.out hk⟩
  have HXL := Hidden.mk hX
  have HU := Hidden.mk hU
  clear hL hsl hlen w0 y0 w1 hX hU
  go_enter Try.func11, Try.ntmps11
  go_wp2_with fail
  refine (awake15 _).mono ?_
  rintro e w1 ⟨rfl, hm⟩
  have HM := Hidden.mk hm
  clear hm
  go_wp2_with fail
  refine (G0.out _ HM.out).mono ?_
  rintro e w2 ⟨vf, rfl, hW⟩
  have F := Hidden.mk hW.isl.2
  replace HM := Hidden.mk (HM.out.trans hW.mod (by simp))
  obtain ⟨pf, cf, rfl, _⟩ := F.out.slice_
  clear hW G0
  go_wp2_with fail
  refine (of11 F.out (Nat.le_trans HLN.out (by decide))).mono ?_
  rintro e w3 ⟨vx, rfl, hx, hm⟩
  have FX := Hidden.mk hx
  rw [HXL.out] at FX
  replace HM := Hidden.mk (HM.out.trans hm (by simp))
  obtain ⟨px, cx, rfl, _⟩ := FX.out.slice_
  clear hx hm F HXL
  have AD := Hidden.mk (add64 k FX.out (Nat.le_trans LX.out (by decide)) (rises_le RX.out))
  rw [HU.out] at AD
  go_wp2_with fail
  refine AD.out.mono ?_
  rintro e w4 ⟨vu, rfl, hW⟩
  have FU := Hidden.mk hW.isl.2
  replace FX := Hidden.mk (FX.out.news hW.mod)
  replace HM := Hidden.mk (HM.out.trans hW.mod (by simp))
  obtain ⟨pu, cu, rfl, _⟩ := FU.out.slice_
  clear hW AD HU
  have DE := Hidden.mk (del64 k FU.out (Nat.le_trans LU.out (by decide)) (rises_le RU.out))
  rw [if_pos KU.out, decide_eq_true KU.out] at DE
  go_wp2_with fail
  refine DE.out.mono ?_
  rintro e w5 ⟨vd, rfl, hW⟩
  have FD := Hidden.mk hW.isl.2
  replace FX := Hidden.mk (FX.out.news hW.mod)
  replace FU := Hidden.mk (FU.out.news hW.mod)
  replace HM := Hidden.mk (HM.out.trans hW.mod (by simp))
  clear hW DE
  have LD : Hidden ((delL U k).length ≤ 200) := ⟨by have := LU.out; unfold delL; simp only [List.length_append, List.length_take, List.length_drop]; omega⟩
  generalize delL U k = D at *
  obtain ⟨pd, cd, rfl, _⟩ := FD.out.slice_
  have SP := Hidden.mk (split64 FU.out (Nat.le_trans LU.out (by decide)))
  obtain ⟨n, hn⟩ : ∃ n, (U.length + 1) / 2 = n := ⟨_, rfl⟩
  rw [hn] at SP
  clear hn
  have RA : Hidden ((U.take n).Pairwise (· < ·)) := ⟨RU.out.sublist (List.take_sublist _ _)⟩
  have RB : Hidden ((U.drop n).Pairwise (· < ·)) := ⟨RU.out.sublist (List.drop_sublist _ _)⟩
  have LA : Hidden ((U.take n).length ≤ 200) := ⟨by rw [List.length_take]; have := LU.out; omega⟩
  have LB : Hidden ((U.drop n).length ≤ 200) := ⟨by rw [List.length_drop]; have := LU.out; omega⟩
  have AB := Hidden.mk (halves_one RU.out KU.out n)
  have MG := Hidden.mk (back_merge RU.out n)
  generalize U.take n = A at *
  generalize U.drop n = B at *
  go_wp2_with fail
  refine SP.out.mono ?_
  rintro e w6 ⟨va, vb, rfl, ha, hb, hm⟩
  have FA := Hidden.mk ha
  have FB := Hidden.mk hb
  replace FX := Hidden.mk (FX.out.news hm)
  replace FU := Hidden.mk (FU.out.news hm)
  replace FD := Hidden.mk (FD.out.news hm)
  replace HM := Hidden.mk (HM.out.trans hm (by simp))
  obtain ⟨pa, ca, rfl, _⟩ := FA.out.slice_
  obtain ⟨pb, cb, rfl, _⟩ := FB.out.slice_
  clear ha hb hm SP
  have C1 := Hidden.mk (fun W (hW : Mod [] w6 W) => has64 k (FU.out.news hW) (Nat.le_trans LU.out (by decide)) (rises_le RU.out))
  rw [decide_eq_true KU.out] at C1
  have C2 := Hidden.mk (fun W (hW : Mod [] w6 W) => has64 k (FA.out.news hW) (Nat.le_trans LA.out (by decide)) (rises_le RA.out))
  have C3 := Hidden.mk (fun W (hW : Mod [] w6 W) => has64 k (FB.out.news hW) (Nat.le_trans LB.out (by decide)) (rises_le RB.out))
  have C4 := Hidden.mk (fun W (hW : Mod [] w6 W) => is64 (FA.out.news hW) (Nat.le_trans LA.out (by decide)))
  have C5 := Hidden.mk (fun W (hW : Mod [] w6 W) => is64 (FB.out.news hW) (Nat.le_trans LB.out (by decide)))
  rw [isr_iff.2 RA.out] at C4
  rw [isr_iff.2 RB.out] at C5
  have C6 : Hidden (∀ W, Mod [] w6 W → ∀ b, W.heap.size = b → Calls Try.prog 48 #[.slice (some ⟨b, 0, none⟩) 2 2] (W.alloc (.cells #[.slice pb B.length cb, .slice pa A.length ca] 57)) (RowOnly .u64 62 (W.alloc (.cells #[.slice pb B.length cb, .slice pa A.length ca] 57)) U)) := ⟨fun W hW b hb => by
    have := merge64 (LSl.new2 (t := 57) hb (FB.out.news hW) (FA.out.news hW)) (by have h1 := LA.out; have h2 := LB.out; simp [flen]; omega) (by simp)
    rwa [MG.out] at this⟩
  have AB2 := AB.out
  obtain ⟨p, hp⟩ : ∃ p, decide (k ∈ A) = p := ⟨_, rfl⟩
  obtain ⟨q, hqq⟩ : ∃ q, decide (k ∈ B) = q := ⟨_, rfl⟩
  rw [hp] at C2 AB2
  rw [hqq] at C3 AB2
  clear hp hqq
  have HN : Hidden (∀ W, Mod [] w6 W → Mod [] w W) := ⟨fun W hW => HM.out.trans hW (by simp)⟩
  clear HM AB MG RA RB
  go_wp2_with fail
  refine (C1.out _ (Mod.refl [] w6)).mono ?_
  rintro e w' ⟨rfl, rfl⟩
  by_cases hk : k ∈ X
  · have hkd : decide (k ∈ X) = true := decide_eq_true hk
    rw [hkd]
    have HK := Hidden.mk (Mod.refl [] w6)
    clear hkd hk
    obtain ⟨rfl, rfl⟩ | ⟨rfl, rfl⟩ : (p = true ∧ q = false) ∨ (p = false ∧ q = true) := by revert AB2; cases p <;> cases q <;> simp
    · skip
      go_wp2_with fail
      refine (C2.out _ HK.out).mono ?_
      rintro e w' ⟨rfl, rfl⟩
      go_wp2_with fail
      refine (C3.out _ HK.out).mono ?_
      rintro e w' ⟨rfl, rfl⟩
      go_wp2_with fail
      refine (C4.out _ HK.out).mono ?_
      rintro e w8 ⟨rfl, q8, hq⟩
      replace HK : Hidden (Mod [] w6 w8) := ⟨by rw [hq]; exact HK.out.drewN q8⟩
      clear hq
      go_wp2_with fail
      refine (C5.out _ HK.out).mono ?_
      rintro e w9 ⟨rfl, q9, hq⟩
      replace HK : Hidden (Mod [] w6 w9) := ⟨by rw [hq]; exact HK.out.drewN q9⟩
      clear hq
      go_wp2_with fail
      refine (C6.out _ HK.out _ rfl).mono ?_
      rintro e wM ⟨vm, rfl, hW⟩
      have FM := Hidden.mk hW.isl.2
      obtain ⟨pm, cm, rfl, _⟩ := FM.out.slice_
      have HK2 : Hidden (Mod [] w6 wM) := ⟨(HK.out.alloc _).trans hW.mod (by simp)⟩
      clear hW
      have SM := Hidden.mk (same01 FM.out (FU.out.news HK2.out) (Nat.le_trans LU.out (by decide)) (Nat.le_trans LU.out (by decide)))
      rw [decide_eq_true rfl] at SM
      go_wp2_with fail
      refine SM.out.mono ?_
      rintro e wZ ⟨rfl, qz, hq⟩
      have HF : Hidden (Mod [] w wZ) := ⟨by rw [hq]; exact (HN.out _ HK2.out).drewN qz⟩
      clear hq
      go_wp2_with fail
      go_ret
      exact ⟨rfl, HF.out.below (Nat.le_refl _) (by simp)⟩
    · skip
      go_wp2_with fail
      refine (C2.out _ HK.out).mono ?_
      rintro e w' ⟨rfl, rfl⟩
      go_wp2_with fail
      refine (C3.out _ HK.out).mono ?_
      rintro e w' ⟨rfl, rfl⟩
      go_wp2_with fail
      refine (C4.out _ HK.out).mono ?_
      rintro e w8 ⟨rfl, q8, hq⟩
      replace HK : Hidden (Mod [] w6 w8) := ⟨by rw [hq]; exact HK.out.drewN q8⟩
      clear hq
      go_wp2_with fail
      refine (C5.out _ HK.out).mono ?_
      rintro e w9 ⟨rfl, q9, hq⟩
      replace HK : Hidden (Mod [] w6 w9) := ⟨by rw [hq]; exact HK.out.drewN q9⟩
      clear hq
      go_wp2_with fail
      refine (C6.out _ HK.out _ rfl).mono ?_
      rintro e wM ⟨vm, rfl, hW⟩
      have FM := Hidden.mk hW.isl.2
      obtain ⟨pm, cm, rfl, _⟩ := FM.out.slice_
      have HK2 : Hidden (Mod [] w6 wM) := ⟨(HK.out.alloc _).trans hW.mod (by simp)⟩
      clear hW
      have SM := Hidden.mk (same01 FM.out (FU.out.news HK2.out) (Nat.le_trans LU.out (by decide)) (Nat.le_trans LU.out (by decide)))
      rw [decide_eq_true rfl] at SM
      go_wp2_with fail
      refine SM.out.mono ?_
      rintro e wZ ⟨rfl, qz, hq⟩
      have HF : Hidden (Mod [] w wZ) := ⟨by rw [hq]; exact (HN.out _ HK2.out).drewN qz⟩
      clear hq
      go_wp2_with fail
      go_ret
      exact ⟨rfl, HF.out.below (Nat.le_refl _) (by simp)⟩
  · have hkd : decide (k ∈ X) = false := decide_eq_false hk
    rw [hkd]
    have hdx := DX.out hk
    subst hdx
    have SX := Hidden.mk (same01 FD.out FX.out (Nat.le_trans LD.out (by decide)) (Nat.le_trans LD.out (by decide)))
    rw [decide_eq_true rfl] at SX
    clear hkd hk DX
    go_wp2_with fail
    refine SX.out.mono ?_
    rintro e w7 ⟨rfl, q7, hq⟩
    have HK : Hidden (Mod [] w6 w7) := ⟨by rw [hq]; exact (Mod.refl [] _).drewN q7⟩
    clear hq SX
    obtain ⟨rfl, rfl⟩ | ⟨rfl, rfl⟩ : (p = true ∧ q = false) ∨ (p = false ∧ q = true) := by revert AB2; cases p <;> cases q <;> simp
    · skip
      go_wp2_with fail
      refine (C2.out _ HK.out).mono ?_
      rintro e w' ⟨rfl, rfl⟩
      go_wp2_with fail
      refine (C3.out _ HK.out).mono ?_
      rintro e w' ⟨rfl, rfl⟩
      go_wp2_with fail
      refine (C4.out _ HK.out).mono ?_
      rintro e w8 ⟨rfl, q8, hq⟩
      replace HK : Hidden (Mod [] w6 w8) := ⟨by rw [hq]; exact HK.out.drewN q8⟩
      clear hq
      go_wp2_with fail
      refine (C5.out _ HK.out).mono ?_
      rintro e w9 ⟨rfl, q9, hq⟩
      replace HK : Hidden (Mod [] w6 w9) := ⟨by rw [hq]; exact HK.out.drewN q9⟩
      clear hq
      go_wp2_with fail
      refine (C6.out _ HK.out _ rfl).mono ?_
      rintro e wM ⟨vm, rfl, hW⟩
      have FM := Hidden.mk hW.isl.2
      obtain ⟨pm, cm, rfl, _⟩ := FM.out.slice_
      have HK2 : Hidden (Mod [] w6 wM) := ⟨(HK.out.alloc _).trans hW.mod (by simp)⟩
      clear hW
      have SM := Hidden.mk (same01 FM.out (FU.out.news HK2.out) (Nat.le_trans LU.out (by decide)) (Nat.le_trans LU.out (by decide)))
      rw [decide_eq_true rfl] at SM
      go_wp2_with fail
      refine SM.out.mono ?_
      rintro e wZ ⟨rfl, qz, hq⟩
      have HF : Hidden (Mod [] w wZ) := ⟨by rw [hq]; exact (HN.out _ HK2.out).drewN qz⟩
      clear hq
      go_wp2_with fail
      go_ret
      exact ⟨rfl, HF.out.below (Nat.le_refl _) (by simp)⟩
    · skip
      go_wp2_with fail
      refine (C2.out _ HK.out).mono ?_
      rintro e w' ⟨rfl, rfl⟩
      go_wp2_with fail
      refine (C3.out _ HK.out).mono ?_
      rintro e w' ⟨rfl, rfl⟩
      go_wp2_with fail
      refine (C4.out _ HK.out).mono ?_
      rintro e w8 ⟨rfl, q8, hq⟩
      replace HK : Hidden (Mod [] w6 w8) := ⟨by rw [hq]; exact HK.out.drewN q8⟩
      clear hq
      go_wp2_with fail
      refine (C5.out _ HK.out).mono ?_
      rintro e w9 ⟨rfl, q9, hq⟩
      replace HK : Hidden (Mod [] w6 w9) := ⟨by rw [hq]; exact HK.out.drewN q9⟩
      clear hq
      go_wp2_with fail
      refine (C6.out _ HK.out _ rfl).mono ?_
      rintro e wM ⟨vm, rfl, hW⟩
      have FM := Hidden.mk hW.isl.2
      obtain ⟨pm, cm, rfl, _⟩ := FM.out.slice_
      have HK2 : Hidden (Mod [] w6 wM) := ⟨(HK.out.alloc _).trans hW.mod (by simp)⟩
      clear hW
      have SM := Hidden.mk (same01 FM.out (FU.out.news HK2.out) (Nat.le_trans LU.out (by decide)) (Nat.le_trans LU.out (by decide)))
      rw [decide_eq_true rfl] at SM
      go_wp2_with fail
      refine SM.out.mono ?_
      rintro e wZ ⟨rfl, qz, hq⟩
      have HF : Hidden (Mod [] w wZ) := ⟨by rw [hq]; exact (HN.out _ HK2.out).drewN qz⟩
      clear hq
      go_wp2_with fail
      go_ret
      exact ⟨rfl, HF.out.below (Nat.le_refl _) (by simp)⟩
end Go.Proofs.Ythcjnijggebcaaa
