/- ArrayAsks: the walk. -/
import Derived.Test.YthcjnijggebcaaaSetL
import Derived.Test.YthcjnijggebcaaaArrD
import Derived.Test.YthcjnijggebcaaaRef06C
import Derived.Test.YthcjnijggebcaaaFew06
import Derived.Test.YthcjnijggebcaaaAw06
import Derived.Test.YthcjnijggebcaaaMw
import Derived.Deep.DeepCutAuto
namespace Go.Proofs.Ythcjnijggebcaaa
open Go.RowKit
set_option linter.unusedVariables false
set_option linter.unusedSimpArgs false
set_option maxHeartbeats 2000000 in
set_option maxRecDepth 100000 in
theorem arrayAsks_walk {w : World} (a0 : Option Addr) (len0 cap0 : Nat) (z0 : List Int) (a1 a2 : Int) (w0 : IntRow .u16 w a0 len0 cap0 z0) (y0 : len0 * 2 ≤ 140737488351232) (w1 : (Lit.int .u16 a1).wf = true) (w2 : (Lit.int .i64 a2).wf = true) :
    Calls Try.prog 8 #[.slice a0 len0 cap0, .int .u16 a1, .int .i64 a2] w fun e w' => e = .returned (.bool true) ∧ Below w.heap.size w w' := by
  obtain ⟨hsl, hlen⟩ := w0.isl
  have hb0 := w0.bnds
  have HSL := Hidden.mk (And.intro hsl hlen)
  obtain ⟨hv0, hv1⟩ := wf_u16 w1
  obtain ⟨v, rfl⟩ := Int.eq_ofNat_of_zero_le hv0
  have HB : Hidden (∀ x ∈ (z0.take len0).take 300, 0 ≤ x ∧ x < 65536) := ⟨fun x hx => wf_u16 (hb0 x (List.mem_of_mem_take (List.mem_of_mem_take hx)))⟩
  have HLN : Hidden (((z0.take len0).take 300).length ≤ 300) := ⟨by simp; omega⟩
  have e1 : (z0.take len0).length = len0 := hlen
  clear hsl hlen hb0 w0 w1 w2
  go_enter Try.func8, Try.ntmps8
  go_wp2_with fail
  refine (awake06 _).mono ?_
  rintro e w1 ⟨rfl, hm1⟩
  have H1 : Hidden (∀ W, Mod [] w W → _) := ⟨fun W hW => few06_call 300 (by decide) _ _ W (HSL.out.1.news hW)⟩
  rw [e1] at H1
  obtain ⟨L, hL⟩ : ∃ L, (z0.take len0).take 300 = L := ⟨_, rfl⟩
  rw [hL] at H1 HB HLN
  have HM1 := Hidden.mk hm1
  clear hL e1 hm1 HSL
  go_wp2_with fail
  refine (H1.out _ HM1.out).mono ?_
  rintro e w2 ⟨v2, rfl, hW2⟩
  have hM2 := Hidden.mk (HM1.out.trans hW2.mod (by simp))
  obtain ⟨hn2, hi2⟩ := hW2.isl
  have H2 := Hidden.mk (of06 hi2 (by have := HLN.out; omega) HB.out)
  obtain ⟨a2', c2, rfl, _⟩ := hi2.slice_
  clear hW2 hn2 hi2
  go_wp2_with fail
  refine H2.out.mono ?_
  rintro e w3 ⟨v3, rfl, hs3, hm3, _⟩
  have hM3 := Hidden.mk (hM2.out.trans hm3 (by simp))
  obtain ⟨sb, rfl, _⟩ := hs3.at_
  have HS3 := Hidden.mk hs3
  clear hs3 hm3 H2
  go_wp2_with fail
  refine (H1.out _ hM3.out).mono ?_
  rintro e w4 ⟨v4, rfl, hW4⟩
  have hM4 := Hidden.mk (hM3.out.trans hW4.mod (by simp))
  obtain ⟨hn4, hi4⟩ := hW4.isl
  have H4 := Hidden.mk (of16 hi4 (by have := HLN.out; omega))
  obtain ⟨a4, c4, rfl, _⟩ := hi4.slice_
  have HS4 := Hidden.mk (HS3.out.news hW4.mod)
  clear hW4 hn4 hi4 H1 HS3
  go_wp2_with fail
  refine H4.out.mono ?_
  rintro e w5 ⟨v5, rfl, hW5⟩
  have hM5 := Hidden.mk (hM4.out.trans hW5.mod (by simp))
  have hi5 := hW5.isl.2
  have HS5 := Hidden.mk (HS4.out.news hW5.mod)
  obtain ⟨f, hf⟩ : ∃ f : Nat → Bool, (fun i : Nat => decide ((i : Int) ∈ L)) = f := ⟨_, rfl⟩
  have hlst : lst f = asc L := lst_asc HB.out (fun i _ => by rw [← hf])
  have hal : (lst f).length ≤ 300 := by rw [hlst]; have := asc_le L; have := HLN.out; omega
  have hab : ∀ x ∈ lst f, 0 ≤ x ∧ x < 65536 := fun x hx => HB.out x (by rw [hlst, asc_mem] at hx; exact hx)
  rw [hf] at HS5
  rw [← hlst] at hi5
  clear hW5 H4 HS4 hlst hf
  obtain ⟨a5, c5, rfl, _⟩ := hi5.slice_
  have HI5 := Hidden.mk hi5
  have HAB := Hidden.mk hab
  have hri : (lst f).Pairwise (· ≤ ·) := rises_le lst_rises
  have HRI := Hidden.mk hri
  clear hi5 hab hri
  generalize hn : (lst f).length = n at *
  have HN := Hidden.mk hn
  clear hn
  have hsel0 : Hidden (∀ k : Nat, k < n → ∀ r, IsSel f k r → r = atL (selL (lst f) k)) := ⟨fun k hk r hr => hr.one (lst_sel (by rw [HN.out]; exact hk))⟩
  go_upto_region 6 with fail
  go_cut [25] from 18 to 24 (fun vv wx => vv = .bool (decide (0 ≤ a2 ∧ a2 < (n : Int))) ∧ wx = w5)
  case first =>
    by_cases hk0 : 0 ≤ a2
    · have hk0d : decide (0 ≤ a2) = true := decide_eq_true hk0
      by_cases hk1 : a2 < (n : Int)
      · have hk1d : decide (a2 < (n : Int)) = true := decide_eq_true hk1
        go_wp2_with fail
        go_meet
        exact ⟨by simp [hk0, hk1], rfl⟩
      · have hk1d : decide (a2 < (n : Int)) = false := decide_eq_false hk1
        go_wp2_with fail
        go_meet
        exact ⟨by simp [hk0, hk1], rfl⟩
    · have hk0d : decide (0 ≤ a2) = false := decide_eq_false hk0
      go_wp2_with fail
      go_meet
      exact ⟨by rw [decide_eq_false (show ¬ (0 ≤ a2 ∧ a2 < (n : Int)) from by omega)], rfl⟩
  case rest =>
  obtain ⟨rfl, rfl⟩ := hcut
  obtain ⟨W, hW⟩ : ∃ W : Int, atL (selL (lst f) a2) = W := ⟨_, rfl⟩
  go_upto_if 25 with fail
  go_cut [9] from 25 to 28 (fun vv wx => vv = .int .i64 W ∧ wx = wc)
  case first =>
    by_cases hk : 0 ≤ a2 ∧ a2 < (n : Int)
    · obtain ⟨k, rfl⟩ := Int.eq_ofNat_of_zero_le hk.1
      have hkn : k < n := by omega
      have hse := Hidden.mk (sel06 HS5.out k (by omega))
      have hd : decide ((0 : Int) ≤ (k : Int) ∧ (k : Int) < (n : Int)) = true := decide_eq_true hk
      rw [hd]
      clear hd hk
      have HW := Hidden.mk hW
      clear hW
      go_wp2_with fail
      refine hse.out.mono ?_
      rintro e w6 ⟨⟨r, rfl, hr⟩, rfl⟩
      have HR := Hidden.mk (hsel0.out k hkn r hr)
      clear hr hsel0
      go_wp2_with fail
      go_meet
      exact ⟨by rw [HR.out, HW.out], rfl⟩
    · have hd : decide (0 ≤ a2 ∧ a2 < (n : Int)) = false := decide_eq_false hk
      rw [hd]
      have HW := Hidden.mk (show W = -1 from by rw [← hW, selL_no (by rw [HN.out]; exact hk)]; rfl)
      clear hd hk hW
      go_wp2_with fail
      go_meet
      exact ⟨by rw [HW.out], rfl⟩
  case rest =>
  obtain ⟨rfl, rfl⟩ := hcut
  have HW := Hidden.mk hW
  clear hW hsel0
  -- what the calls of the last statement say, in every world in which nothing old has turned
  have hvv : v ≤ 65535 := by omega
  have c1 : ∀ x : MW wc, Calls Try.prog 34 #[.slice a5 n c5, .int .u16 v] x.w fun e w'' => e = .returned (.bool (f v)) ∧ ∃ y : MW wc, w'' = y.w := fun x => by
    have := has16 (v : Int) (HI5.out.news x.m) (by rw [HN.out]; omega) HRI.out
    rw [lst_has v (by unfold Most; omega)] at this
    exact x.same this
  have c2 : ∀ x : MW wc, x.w.cell? ⟨sb, v, none⟩ = some (.bool (f v)) := fun x => by
    obtain ⟨b, he, _, _, hc, _⟩ := (HS5.out.news x.m).at_
    injection he with he
    injection he with he
    injection he with he
    subst he
    have := hc v (by omega)
    rwa [Nat.zero_add] at this
  obtain ⟨x1, y1, hr1⟩ : ∃ x1 y1, selL (lst f) (rk (lst f) v) = (x1, y1) := ⟨_, _, rfl⟩
  obtain ⟨x2, y2, hr2⟩ : ∃ x2 y2, prevL16 (lst f) v = (x2, y2) := ⟨_, _, rfl⟩
  obtain ⟨x3, y3, hr3⟩ : ∃ x3 y3, selL (lst f) a2 = (x3, y3) := ⟨_, _, rfl⟩
  obtain ⟨n1, hn1⟩ : ∃ n1, (if y1 then x1 else -1) = n1 := ⟨_, rfl⟩
  obtain ⟨n2, hn2⟩ : ∃ n2, (if y2 then x2 else -1) = n2 := ⟨_, rfl⟩
  have c3 : ∀ x : MW wc, Calls Try.prog 38 #[.slice a5 n c5, .int .u16 v] x.w fun e w'' => e = .returned (.tuple #[.int .u16 x1, .bool y1]) ∧ ∃ y : MW wc, w'' = y.w := fun x => by
    have := next16 (v : Int) (HI5.out.news x.m) (by rw [HN.out]; omega) HRI.out
    rw [hr1] at this
    exact x.same this
  have c4 : ∀ x : MW wc, Calls Try.prog 40 #[.slice a5 n c5, .int .u16 v] x.w fun e w'' => e = .returned (.tuple #[.int .u16 x2, .bool y2]) ∧ ∃ y : MW wc, w'' = y.w := fun x => by
    have := prev16 (v : Int) (HI5.out.news x.m) (by rw [HN.out]; omega) HRI.out
    rw [hr2] at this
    exact x.same this
  have c5' : ∀ x : MW wc, Calls Try.prog 32 #[.slice a5 n c5, .int .i64 a2] x.w fun e w'' => e = .returned (.tuple #[.int .u16 x3, .bool y3]) ∧ ∃ y : MW wc, w'' = y.w := fun x => by
    have := sel16 a2 (HI5.out.news x.m) (by rw [HN.out]; omega)
    rw [hr3] at this
    exact x.same this
  have d1 : ∀ x : MW wc, Calls Try.prog 37 #[.int .u16 x1, .bool y1] x.w fun e w'' => e = .returned (.int .i64 n1) ∧ ∃ y : MW wc, w'' = y.w := fun x => by
    have hb := selL_bnd HAB.out (rk (lst f) v)
    rw [hr1] at hb
    have := at06 x1 y1 x.w hb
    rw [hn1] at this
    exact x.same this
  have d2 : ∀ x : MW wc, Calls Try.prog 37 #[.int .u16 x2, .bool y2] x.w fun e w'' => e = .returned (.int .i64 n2) ∧ ∃ y : MW wc, w'' = y.w := fun x => by
    have hb := prevL_bnd HAB.out v
    rw [hr2] at hb
    have := at06 x2 y2 x.w hb
    rw [hn2] at this
    exact x.same this
  have d3 : ∀ x : MW wc, Calls Try.prog 37 #[.int .u16 x3, .bool y3] x.w fun e w'' => e = .returned (.int .i64 W) ∧ ∃ y : MW wc, w'' = y.w := fun x => by
    have hb := selL_bnd HAB.out a2
    rw [hr3] at hb
    have := at06 x3 y3 x.w hb
    have hw := HW.out
    unfold atL at hw
    rw [hr3] at hw
    simp only at hw
    rw [hw] at this
    exact x.same this
  have e1 : ∀ x : MW wc, Calls Try.prog 39 #[.slice (some ⟨sb, 0, none⟩) 65536 65536, .int .i64 v] x.w fun e w'' => e = .returned (.int .i64 n1) ∧ ∃ y : MW wc, w'' = y.w := fun x => by
    have hN := lst_next (f := f) v (by unfold Most; omega)
    rw [hr1] at hN
    refine (next06 (HS5.out.news x.m) v (by omega)).mono fun e w'' ⟨⟨r, he, hr⟩, hw⟩ => ⟨?_, x, hw.symm⟩
    rw [he, hr.one hN, ← hn1]; rfl
  have e2 : ∀ x : MW wc, Calls Try.prog 41 #[.slice (some ⟨sb, 0, none⟩) 65536 65536, .int .i64 v] x.w fun e w'' => e = .returned (.int .i64 n2) ∧ ∃ y : MW wc, w'' = y.w := fun x => by
    have hN := lst_prev (f := f) v (by unfold Most; omega)
    rw [hr2] at hN
    refine (prev06 (HS5.out.news x.m) v (by omega)).mono fun e w'' ⟨⟨r, he, hr⟩, hw⟩ => ⟨?_, x, hw.symm⟩
    rw [he, hr.one hN, ← hn2]; rfl
  have e3 : ∀ x : MW wc, Calls Try.prog 33 #[.slice a5 n c5, .int .u16 v] x.w fun e w'' => e = .returned (.int .i64 (cntN f v)) ∧ ∃ y : MW wc, w'' = y.w := fun x => by
    have := rank16 (v : Int) (HI5.out.news x.m) (by rw [HN.out]; omega) HRI.out
    rw [lst_rk (by unfold Most; omega)] at this
    exact x.same this
  have e4 : ∀ x : MW wc, Calls Try.prog 42 #[.slice (some ⟨sb, 0, none⟩) 65536 65536, .int .i64 v] x.w fun e w'' => e = .returned (.int .i64 (cntN f v)) ∧ ∃ y : MW wc, w'' = y.w := fun x => x.same (rank06 (HS5.out.news x.m) v (by omega))
  have C1 := Hidden.mk c1
  have C3 := Hidden.mk c3
  have C4 := Hidden.mk c4
  have C5 := Hidden.mk c5'
  have D1 := Hidden.mk d1
  have D2 := Hidden.mk d2
  have D3 := Hidden.mk d3
  have E1 := Hidden.mk e1
  have E2 := Hidden.mk e2
  have E3 := Hidden.mk e3
  have E4 := Hidden.mk e4
  clear c1 c3 c4 c5' d1 d2 d3 e1 e2 e3 e4 hr1 hr2 hr3 hn1 hn2 HW
  generalize cntN f v = nk at *
  generalize f v = fv at *
  have hq1 : (n1 == n1) = true := by simp
  have hq2 : (n2 == n2) = true := by simp
  have hq3 : (W == W) = true := by simp
  have hq4 : (fv == fv) = true := by simp
  have hvw : IntKind.i64.wrap (v : Int) = v := IntWalk.i64_in _ (by omega)
  have hv65 : (v : Int) < 65536 := hv1
  go_wp2_with fail
  refine wp_class (MW.w (w := wc)) (MW.drew0 wc) rfl (by kernel_rfl) (by kernel_rfl) ?_
  repeat (go_big_quiet_step (first | (go_at_call 34; exact C1.out _) | (go_at_call 38; exact C3.out _) | (go_at_call 40; exact C4.out _) | (go_at_call 32; exact C5.out _) | (go_at_call 33; exact E3.out _) | (go_at_call 42; exact E4.out _) | (go_at_call 39; exact E1.out _) | (go_at_call 41; exact E2.out _) | (go_at_call 37; first | with_reducible exact D1.out _ | with_reducible exact D2.out _ | with_reducible exact D3.out _ | fail) | fail))
  refine wpQuiet_nil ?_
  intro _ hw'; obtain ⟨x, hw''⟩ := hw'; subst hw''
  go_wp2_with fail
  go_ret
  exact ⟨rfl, ((hM5.out.trans x.m (by simp)).below (Nat.le_refl _) (by simp))⟩
end Go.Proofs.Ythcjnijggebcaaa
