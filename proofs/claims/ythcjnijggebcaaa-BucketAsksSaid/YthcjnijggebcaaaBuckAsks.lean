/- BucketAsks: the walk. -/
import Derived.Test.YthcjnijggebcaaaRef11B
import Derived.Test.YthcjnijggebcaaaRef11C
import Derived.Test.YthcjnijggebcaaaAw15
import Derived.Test.YthcjnijggebcaaaWords
import Derived.Test.YthcjnijggebcaaaSame01
namespace Go.Proofs.Ythcjnijggebcaaa
open Go.RowKit
set_option linter.unusedVariables false
set_option linter.unusedSimpArgs false
theorem Row.news64 {w w' : World} {e sz n : Nat} {v : Value} {xs : List Value} (h : Row w e sz v n xs) (hm : Mod [] w w') : Row w' e sz v n xs := h.mod hm (fun _ _ => List.not_mem_nil)
theorem Row.bump64 {w : World} {e g cap n : Nat} {l : List Int} (h : Row w e 1 (.slice (some ⟨g, 0, none⟩) n cap) n (icells .u64 l)) (j : Nat) (x : Int) :
    Row (w.setCell ⟨g, j, none⟩ (.int .u64 x)) e 1 (.slice (some ⟨g, 0, none⟩) n cap) n (icells .u64 (l.set j x)) := by
  have := h.stored j (.int .u64 x)
  rwa [show (icells .u64 l).set j (.int .u64 x) = icells .u64 (l.set j x) from by simp [icells, List.map_set]] at this
theorem SomeRow.len_add {X : List Int} {k : Int} (h : X.length ≤ 140) : (if k ∈ X then X else insL X k).length ≤ 1000 := by
  by_cases hk : k ∈ X
  · rw [if_pos hk]; omega
  · rw [if_neg hk]; unfold insL; simp only [List.length_append, List.length_take, List.length_drop, List.length_cons, List.length_nil]; omega
theorem SomeRow.len_del {X : List Int} {k : Int} (h : X.length ≤ 140) : (if k ∈ X then delL X k else X).length ≤ 1000 := by
  by_cases hk : k ∈ X
  · rw [if_pos hk]; unfold delL; simp only [List.length_append, List.length_take, List.length_drop]; omega
  · rw [if_neg hk]; omega
set_option maxHeartbeats 8000000 in
set_option maxRecDepth 100000 in
theorem bucketAsks_walk {w : World} (a0 : Option Addr) (len0 cap0 : Nat) (z0 : List Int) (k : Int) (w0 : IntRow .u64 w a0 len0 cap0 z0) (y0 : len0 * 8 ≤ 140737488351232) (w1 : (Lit.int .u64 k).wf = true) :
    Calls Try.prog 12 #[.slice a0 len0 cap0, .int .u64 k] w fun e w' => e = .returned (.bool true) ∧ Below w.heap.size w w' := by
  obtain ⟨hsl, hlen⟩ := w0.isl
  have HLN : Hidden (((z0.take len0).take 140).length ≤ 140) := ⟨by simp; omega⟩
  have G0 : Hidden (∀ W, Mod [] w W → _) := ⟨fun W hW => words_call 140 (by decide) _ _ W (hsl.news hW)⟩
  rw [hlen] at G0
  obtain ⟨L, hL⟩ : ∃ L, (z0.take len0).take 140 = L := ⟨_, rfl⟩
  rw [hL] at G0 HLN
  obtain ⟨X, hX⟩ : ∃ X, asc L = X := ⟨_, rfl⟩
  have RX : Hidden (X.Pairwise (· < ·)) := ⟨by rw [← hX]; exact asc_rises L⟩
  have LX : Hidden (X.length ≤ 140) := ⟨by rw [← hX]; have := asc_le L; have := HLN.out; omega⟩
  have HXL := Hidden.mk hX
  clear hL hsl hlen w0 y0 w1 hX
  go_enter Try.func12, Try.ntmps12
  go_wp2_with fail
  refine (awake15 _).mono ?_
  rintro e w1 ⟨rfl, hm⟩
  have HM := Hidden.mk hm
  clear hm
  go_wp2_with fail
  refine (G0.out _ HM.out).mono ?_
  rintro e w2 ⟨vf, rfl, hW⟩
  have F := Hidden.mk hW.isl.2
  replace HM := Hidden.mk (HM.out.trans hW.mod (by simp))
  obtain ⟨pf, cf, rfl, _⟩ := F.out.slice_
  clear hW G0
  go_wp2_with fail
  refine (of11 F.out (Nat.le_trans HLN.out (by decide))).mono ?_
  rintro e w3 ⟨vx, rfl, hx, hm⟩
  have FX := Hidden.mk hx
  rw [HXL.out] at FX
  replace F := Hidden.mk (F.out.news hm)
  replace HM := Hidden.mk (HM.out.trans hm (by simp))
  obtain ⟨px, cx, rfl, _⟩ := FX.out.slice_
  clear hx hm
  go_wp2_with fail
  refine (of64 F.out (Nat.le_trans HLN.out (by decide))).mono ?_
  rintro e w4 ⟨vb, rfl, hW⟩
  have FB := Hidden.mk hW.isl.2
  rw [HXL.out] at FB
  replace FX := Hidden.mk (FX.out.news hW.mod)
  replace HM := Hidden.mk (HM.out.trans hW.mod (by simp))
  obtain ⟨pb, cb, rfl, _⟩ := FB.out.slice_
  clear hW F HXL
  have G1 := Hidden.mk (words_call 140 (by decide) _ _ _ FB.out)
  rw [List.take_of_length_le LX.out] at G1
  go_wp2_with fail
  refine G1.out.mono ?_
  rintro e wA ⟨vw, rfl, hW⟩
  have FW := Hidden.mk hW.isl.2
  replace FB := Hidden.mk (FB.out.news hW.mod)
  replace FX := Hidden.mk (FX.out.news hW.mod)
  replace HM := Hidden.mk (HM.out.trans hW.mod (by simp))
  obtain ⟨pw, cw, rfl, _⟩ := FW.out.slice_
  clear hW G1
  have LX5 : Hidden (X.length ≤ 100000) := ⟨Nat.le_trans LX.out (by decide)⟩
  have LX6 : Hidden (X.length ≤ 1000000) := ⟨Nat.le_trans LX.out (by decide)⟩
  have LX9 : Hidden (X.length ≤ 1000000000) := ⟨Nat.le_trans LX.out (by decide)⟩
  have RL := Hidden.mk (rises_le RX.out)
  have FI := Hidden.mk (find11 k FX.out LX9.out RL.out)
  have AD := Hidden.mk (fun W (hW : Mod [] wA W) => add64 k (FB.out.news hW) LX5.out RL.out)
  have DE := Hidden.mk (fun W (hW : Mod [] wA W) => del64 k (FB.out.news hW) LX5.out RL.out)
  have N1 := Hidden.mk (fun W (hW : Mod [] wA W) => next64 k (FB.out.news hW) LX9.out RL.out)
  have N2 := Hidden.mk (fun W (hW : Mod [] wA W) => next11 k (FX.out.news hW) LX9.out RL.out)
  have P1 := Hidden.mk (fun W (hW : Mod [] wA W) => prev64 k (FB.out.news hW) LX9.out RL.out)
  have P2 := Hidden.mk (fun W (hW : Mod [] wA W) => prev11 k (FX.out.news hW) LX9.out RL.out)
  have S1 := Hidden.mk (fun W (hW : Mod [] wA W) => same01 (FB.out.news hW) (FX.out.news hW) LX6.out LX6.out)
  have I1 := Hidden.mk (fun W (hW : Mod [] wA W) => is64 (FB.out.news hW) LX9.out)
  rw [isr_iff.2 RX.out] at I1
  have H1 := Hidden.mk (fun W (hW : Mod [] wA W) => has64 k (FB.out.news hW) LX9.out RL.out)
  have A2 := Hidden.mk (fun W (hW : Mod [] wA W) => add11 k (FX.out.news hW) LX5.out RL.out)
  have D2 := Hidden.mk (fun W (hW : Mod [] wA W) => drop11 k (FX.out.news hW) LX5.out RL.out)
  have S2 := Hidden.mk (fun W (hW : Mod [] wA W) => same01 (FB.out.news hW) (FW.out.news hW) LX6.out LX6.out)
  have LU : Hidden ((if k ∈ X then X else insL X k).length ≤ 1000) := ⟨SomeRow.len_add LX.out⟩
  have LD : Hidden ((if k ∈ X then delL X k else X).length ≤ 1000) := ⟨SomeRow.len_del LX.out⟩
  generalize (if k ∈ X then X else insL X k) = lu at *
  generalize (if k ∈ X then delL X k else X) = ld at *
  generalize selL X (rk X k) = nx at *
  generalize prevL64 X k = pv at *
  generalize rk X k = r at *
  rw [decide_eq_true rfl] at S1 S2
  obtain ⟨dk, hdk⟩ : ∃ d, decide (k ∈ X) = d := ⟨_, rfl⟩
  rw [hdk] at FI AD DE H1
  obtain ⟨nd, hnd⟩ : ∃ d, (!dk) = d := ⟨_, rfl⟩
  rw [hnd] at AD
  clear hdk
  obtain ⟨nx1, nx2⟩ := nx
  obtain ⟨pv1, pv2⟩ := pv
  have HND := Hidden.mk hnd
  clear hnd
  have MA := Hidden.mk (Mod.refl [] wA)
  go_wp2_with fail
  refine FI.out.mono ?_
  rintro e w5 ⟨rfl, q, hq⟩
  replace MA : Hidden (Mod [] wA w5) := ⟨by rw [hq]; exact MA.out.drewN q⟩
  clear hq FI
  go_wp2_with fail
  refine (AD.out _ MA.out).mono ?_
  rintro e w6 ⟨vu, rfl, hW⟩
  have hbA := Hidden.mk (fun b (hb : b ∈ rb vu) => Nat.le_trans MA.out.size (hW.ge b hb))
  have RB := Hidden.mk hW.row
  replace MA := Hidden.mk (MA.out.trans hW.mod (by simp))
  clear hW AD
  go_wp2_with fail
  refine (DE.out _ MA.out).mono ?_
  rintro e w7 ⟨vd, rfl, hW⟩
  have hdA := Hidden.mk (fun b (hb : b ∈ rb vd) => Nat.le_trans MA.out.size (hW.ge b hb))
  have hbd : Hidden (∀ k ∈ rb vd, k ∉ rb vu) := ⟨fun k hk hk2 => by have h1 := hW.ge k hk; have h2 := RB.out.lt hk2; omega⟩
  have RD := Hidden.mk hW.row
  replace RB := Hidden.mk (RB.out.news64 hW.mod)
  replace MA := Hidden.mk (MA.out.trans hW.mod (by simp))
  clear hW DE
  obtain ⟨pu, cu, rfl, _⟩ := RB.out.slice_
  obtain ⟨pd, cd, rfl, _⟩ := RD.out.slice_
  go_wp2_with fail
  refine (N1.out _ MA.out).mono ?_
  rintro e w' ⟨hr, rfl⟩
  unfold IntBool at hr
  subst hr
  clear N1
  go_wp2_with fail
  refine (N2.out _ MA.out).mono ?_
  rintro e w8b ⟨hr, q, hq⟩
  unfold IntBool at hr
  subst hr
  have hmz : Mod [] w7 w8b := by rw [hq]; exact (Mod.refl [] _).drewN q
  replace RB := Hidden.mk (RB.out.news64 hmz)
  replace RD := Hidden.mk (RD.out.news64 hmz)
  replace MA := Hidden.mk (MA.out.trans hmz (by simp))
  clear hq hmz N2
  go_wp2_with fail
  refine (P1.out _ MA.out).mono ?_
  rintro e w' ⟨hr, rfl⟩
  unfold IntBool at hr
  subst hr
  clear P1
  go_wp2_with fail
  refine (P2.out _ MA.out).mono ?_
  rintro e w8d ⟨hr, q, hq⟩
  unfold IntBool at hr
  subst hr
  have hmz : Mod [] w8b w8d := by rw [hq]; exact (Mod.refl [] _).drewN q
  replace RB := Hidden.mk (RB.out.news64 hmz)
  replace RD := Hidden.mk (RD.out.news64 hmz)
  replace MA := Hidden.mk (MA.out.trans hmz (by simp))
  clear hq hmz P2
  have t1 : (nd == nd) = true := by simp
  have t2 : (dk == dk) = true := by simp
  have t3 : (nx1 == nx1) = true := by simp
  have t4 : (nx2 == nx2) = true := by simp
  have t5 : (pv1 == pv1) = true := by simp
  have t6 : (pv2 == pv2) = true := by simp
  have t7 : (!dk) = nd := HND.out
  go_wp2_with fail
  refine (S1.out _ MA.out).mono ?_
  rintro e w9a ⟨rfl, q, hq⟩
  have hmz : Mod [] w8d w9a := by rw [hq]; exact (Mod.refl [] _).drewN q
  replace RB := Hidden.mk (RB.out.news64 hmz)
  replace RD := Hidden.mk (RD.out.news64 hmz)
  replace MA := Hidden.mk (MA.out.trans hmz (by simp))
  clear hq hmz S1
  go_wp2_with fail
  refine (I1.out _ MA.out).mono ?_
  rintro e w9b ⟨rfl, q, hq⟩
  have hmz : Mod [] w9a w9b := by rw [hq]; exact (Mod.refl [] _).drewN q
  replace RB := Hidden.mk (RB.out.news64 hmz)
  replace RD := Hidden.mk (RD.out.news64 hmz)
  replace MA := Hidden.mk (MA.out.trans hmz (by simp))
  clear hq hmz I1
  go_wp2_with fail
  refine (H1.out _ MA.out).mono ?_
  rintro e w' ⟨rfl, rfl⟩
  clear H1
  go_wp2_with fail
  refine (A2.out _ MA.out).mono ?_
  rintro e wx1 ⟨v1, rfl, hx, hmz⟩
  replace RB := Hidden.mk (RB.out.news64 hmz)
  replace RD := Hidden.mk (RD.out.news64 hmz)
  replace MA := Hidden.mk (MA.out.trans hmz (by simp))
  have FQ := Hidden.mk hx
  obtain ⟨p1, c1, rfl, _⟩ := FQ.out.slice_
  clear hx hmz A2
  have SQ := Hidden.mk (same01 RB.out.isl.2 FQ.out (Nat.le_trans LU.out (by decide)) (Nat.le_trans LU.out (by decide)))
  rw [decide_eq_true rfl] at SQ
  go_wp2_with fail
  refine SQ.out.mono ?_
  rintro e wy1 ⟨rfl, q, hq⟩
  have hmz : Mod [] wx1 wy1 := by rw [hq]; exact (Mod.refl [] _).drewN q
  replace RB := Hidden.mk (RB.out.news64 hmz)
  replace RD := Hidden.mk (RD.out.news64 hmz)
  replace MA := Hidden.mk (MA.out.trans hmz (by simp))
  clear hq hmz SQ FQ
  go_wp2_with fail
  refine (D2.out _ MA.out).mono ?_
  rintro e wx2 ⟨v2, rfl, hx, hmz⟩
  replace RB := Hidden.mk (RB.out.news64 hmz)
  replace RD := Hidden.mk (RD.out.news64 hmz)
  replace MA := Hidden.mk (MA.out.trans hmz (by simp))
  have FQ := Hidden.mk hx
  obtain ⟨p2, c2, rfl, _⟩ := FQ.out.slice_
  clear hx hmz D2
  have SQ := Hidden.mk (same01 RD.out.isl.2 FQ.out (Nat.le_trans LD.out (by decide)) (Nat.le_trans LD.out (by decide)))
  rw [decide_eq_true rfl] at SQ
  go_wp2_with fail
  refine SQ.out.mono ?_
  rintro e wy2 ⟨rfl, q, hq⟩
  have hmz : Mod [] wx2 wy2 := by rw [hq]; exact (Mod.refl [] _).drewN q
  replace RB := Hidden.mk (RB.out.news64 hmz)
  replace RD := Hidden.mk (RD.out.news64 hmz)
  replace MA := Hidden.mk (MA.out.trans hmz (by simp))
  clear hq hmz SQ FQ
  have LU2 := LU.out
  have LD2 := LD.out
  go_wp2_with fail
  go_loopw [138] (fun vi wr => ∃ (i : Nat) (m : List Int), i ≤ lu.length ∧ vi = .int .i64 i ∧ m.length = lu.length ∧ Row wr 62 1 (.slice pu lu.length cu) lu.length (icells .u64 m) ∧ Row wr 62 1 (.slice pd ld.length cd) ld.length (icells .u64 ld) ∧ Mod [] wA wr) (fun vi _ => lu.length - (intOf vi).toNat)
  case atStart => exact ⟨0, lu, by omega, rfl, rfl, RB.out, RD.out, MA.out⟩
  case round =>
    obtain ⟨i, m, hi, rfl, hml, hr, hro, hma⟩ := hrel
    by_cases hin : i < lu.length
    · obtain ⟨g, cap, hve, hrb, _, _, hgl, hce, hfz⟩ := hr.at_ (by omega)
      injection hve with hv1 hv2 hv3
      subst hv1 hv3
      have hc := hce i (by omega)
      have hx : m[i]? = some (m.getD i 0) := by rw [List.getD_eq_getElem?_getD, List.getElem?_eq_getElem (by omega)]; rfl
      rw [icells_get hx] at hc
      have hf := hfz i
      have hgA := hbA.out g (by rw [hrb]; simp)
      generalize m.getD i 0 = x at hc
      have HK := Hidden.mk (And.intro hr (And.intro hml (And.intro hma (And.intro hgA (And.intro hro (fun h => hbd.out g h (by rw [hrb]; simp) : g ∉ rb (.slice pd ld.length cd)))))))
      clear hr hml hma hce hfz hx hrb hgA hro
      go_wp2_with fail
      go_roundw
      case rel => exact ⟨i + 1, m.set i _, by omega, by go_num, by rw [List.length_set]; exact HK.out.2.1, HK.out.1.bump64 i _, HK.out.2.2.2.2.1.far HK.out.2.2.2.2.2 _, HK.out.2.2.1.set (.inr HK.out.2.2.2.1) _⟩
      case measure => simp [intOf]; omega
    · replace MA := Hidden.mk hma
      replace RD := Hidden.mk hro
      clear hro
      have hie : i = lu.length := by omega
      subst hie
      clear hr hml hma hi hin
      go_wp2_with fail
      go_loopw [150] (fun vi wr => ∃ (i : Nat) (m : List Int), i ≤ ld.length ∧ vi = .int .i64 i ∧ m.length = ld.length ∧ Row wr 62 1 (.slice pd ld.length cd) ld.length (icells .u64 m) ∧ Mod [] wA wr) (fun vi _ => ld.length - (intOf vi).toNat)
      case atStart => exact ⟨0, ld, by omega, rfl, rfl, RD.out, MA.out⟩
      case round =>
        obtain ⟨i, m, hi, rfl, hml, hr, hma⟩ := hrel
        by_cases hin : i < ld.length
        · obtain ⟨g, cap, hve, hrb, _, _, hgl, hce, hfz⟩ := hr.at_ (by omega)
          injection hve with hv1 hv2 hv3
          subst hv1 hv3
          have hc := hce i (by omega)
          have hx : m[i]? = some (m.getD i 0) := by rw [List.getD_eq_getElem?_getD, List.getElem?_eq_getElem (by omega)]; rfl
          rw [icells_get hx] at hc
          have hf := hfz i
          have hgA := hdA.out g (by rw [hrb]; simp)
          generalize m.getD i 0 = x at hc
          have HK := Hidden.mk (And.intro hr (And.intro hml (And.intro hma hgA)))
          clear hr hml hma hce hfz hx hrb hgA
          go_wp2_with fail
          go_roundw
          case rel => exact ⟨i + 1, m.set i _, by omega, by go_num, by rw [List.length_set]; exact HK.out.2.1, HK.out.1.bump64 i _, HK.out.2.2.1.set (.inr HK.out.2.2.2) _⟩
          case measure => simp [intOf]; omega
        · replace MA := Hidden.mk hma
          skip
          have hie : i = ld.length := by omega
          subst hie
          clear hr hml hma hi hin
          go_wp2_with fail
          refine (S2.out _ MA.out).mono ?_
          rintro e wZ ⟨rfl, q, hq⟩
          have HF : Hidden (Mod [] w wZ) := ⟨by rw [hq]; exact (HM.out.trans MA.out (by simp)).drewN q⟩
          clear hq
          go_wp2_with fail
          go_ret
          exact ⟨rfl, HF.out.below (Nat.le_refl _) (by simp)⟩
end Go.Proofs.Ythcjnijggebcaaa
