/- The law RunsAsk: its walk. -/
import Derived.Test.YthcjnijggebcaaaRuns14
import Derived.Test.YthcjnijggebcaaaStRow
import Derived.Test.YthcjnijggebcaaaSel06
import Derived.Test.YthcjnijggebcaaaMw
namespace Go.Proofs.Ythcjnijggebcaaa
open Go.RowKit
set_option linter.unusedVariables false
set_option linter.unusedSimpArgs false
theorem MW.post {w : World} {P : Program} {f : Nat} {args : Array Value} {v : Value} {R : Ending → World → Prop} (x : MW w) (h : Calls P f args x.w R) (k : ∀ e w', R e w' → e = .returned v ∧ Mod [] x.w w') :
    Calls P f args x.w fun e w'' => e = .returned v ∧ ∃ y : MW w, w'' = y.w := x.call (h.mono fun e w' hr => k e w' hr)
set_option maxHeartbeats 4000000 in
set_option maxRecDepth 100000 in
theorem runsAsk_walk (a0 : Option Addr) (len0 cap0 : Nat) (z0 : Nat → Nat → Int) (a1 a2 : Int) (w : World) (w0 : StRow [.u8, .u16, .u16, .u16] w a0 len0 cap0 z0) (w1 : (Lit.int .u16 a1).wf = true) (w2 : (Lit.int .i64 a2).wf = true) :
    Calls Try.prog 14 #[.slice a0 len0 cap0, .int .u16 a1, .int .i64 a2] w fun e w' => e = .returned (.bool true) ∧ Below w.heap.size w w' := by
  have H := Hidden.mk (fun W (hW : Mod [] w W) => w0.news (by decide) hW)
  obtain ⟨hv0, hv1⟩ := wf_u16 w1
  obtain ⟨v, rfl⟩ := Int.eq_ofNat_of_zero_le hv0
  have hvb : v < 65536 := by omega
  have HKB := Hidden.mk (bounds_i64 w2).2
  clear w0 w1 w2 hv0
  go_enter Try.func14, Try.ntmps14
  go_wp2_with fail
  refine (awake08 _).mono ?_
  rintro e w1 ⟨rfl, hm1⟩
  have HK := Hidden.mk (lay08 (H.out _ hm1))
  have HM1 := Hidden.mk hm1
  clear hm1
  go_wp2_with fail
  refine HK.out.mono ?_
  rintro e w2 ⟨vv, vs, f, rfl, ⟨l, hl, hf, hs, -⟩, hm⟩
  have HM2 := Hidden.mk (HM1.out.trans hm (by simp))
  have HL := Hidden.mk hl
  have HF := Hidden.mk hf
  have HS := Hidden.mk hs
  have HSH := Hidden.mk hf.short
  obtain ⟨sa, sc, rfl, hsa1, hsa2⟩ := hl.slice_
  have HSA := Hidden.mk (And.intro hsa1 hsa2)
  obtain ⟨sb, rfl, -⟩ := hs.at_
  clear hl hf hs hm HK HM1 H hsa1 hsa2
  obtain ⟨RS, hRS⟩ : ∃ RS : Int × Bool, RS = if 0 ≤ a2 then rsel a2 l else (0, false) := ⟨_, rfl⟩
  obtain ⟨x3, y3⟩ := RS
  obtain ⟨W, hW⟩ : ∃ W : Int, (if y3 then x3 else -1) = W := ⟨_, rfl⟩
  have HRS := Hidden.mk hRS
  have HW := Hidden.mk hW
  clear hRS hW
  go_upto_if 18 with fail
  go_cut [9] from 18 to 21 (fun vq wx => vq = .int .i64 W ∧ wx = w2)
  case first =>
    clear hv1 hvb
    by_cases hk0 : 0 ≤ a2
    · have hkd : decide (0 ≤ a2) = true := decide_eq_true hk0
      obtain ⟨k, hka⟩ := Int.eq_ofNat_of_zero_le hk0
      have hse : Hidden (Calls Try.prog 36 #[.slice (some ⟨sb, 0, none⟩) 65536 65536, .int .i64 a2] w2 fun e w' => (∃ r, e = .returned (.int .i64 r) ∧ IsSel f k r) ∧ w2 = w') := ⟨by rw [hka]; exact sel06w HS.out k (by have := HKB.out; omega)⟩
      have HR : Hidden (∀ r, IsSel f k r → r = W) := ⟨fun r hr => by
        have h1 := HRS.out
        rw [if_pos hk0] at h1
        have h2 := HF.out.sel (k := k)
        rw [← hka, ← h1] at h2
        rw [hka] at h2
        rw [hr.one h2, ← HW.out]; rfl⟩
      clear hka
      go_wp2_with fail
      refine hse.out.mono ?_
      rintro e w6 ⟨⟨r, rfl, hr⟩, rfl⟩
      have HE := Hidden.mk (HR.out r hr)
      clear hr hse
      go_wp2_with fail
      go_meet
      exact ⟨by rw [HE.out], rfl⟩
    · have hkd : decide (0 ≤ a2) = false := decide_eq_false hk0
      have HE : Hidden (W = -1) := ⟨by
        have h1 := HRS.out
        rw [if_neg hk0] at h1
        injection h1 with h1 h2
        rw [← HW.out, h2]; rfl⟩
      go_wp2_with fail
      go_meet
      exact ⟨by rw [HE.out], rfl⟩
  case rest =>
  obtain ⟨rfl, rfl⟩ := hcut
  have hsh := HSH.out
  have hsa := HSA.out
  have c1 : ∀ x : MW wc, Calls Try.prog 71 #[.slice sa l.length sc, .int .u16 v] x.w fun e w'' => e = .returned (.bool (f v)) ∧ ∃ y : MW wc, w'' = y.w := fun x =>
    x.post (has_runs (v : Int) (by omega) (HL.out.news x.m) HF.out.rn HF.out.b16 (by omega)) (fun e w' ⟨g, he, hg, hm⟩ => ⟨by
      rw [he]
      have : g = f v := by rw [Bool.eq_iff_iff, hg, HF.out.mem v (by unfold Most; omega)]
      rw [this], hm⟩)
  have c2 : ∀ x : MW wc, x.w.cell? ⟨sb, v, none⟩ = some (.bool (f v)) := fun x => by
    obtain ⟨b, he, _, _, hc, _⟩ := (HS.out.news x.m).at_
    injection he with he
    injection he with he
    injection he with he
    subst he
    have := hc v (by omega)
    rwa [Nat.zero_add] at this
  obtain ⟨x1, y1, hr1⟩ : ∃ x1 y1, nextR v l = (x1, y1) := ⟨_, _, rfl⟩
  obtain ⟨x2, y2, hr2⟩ : ∃ x2 y2, prevR v l = (x2, y2) := ⟨_, _, rfl⟩
  have hn1 := nextR_ok HF.out hvb
  have hn2 := prevR_ok HF.out hvb
  rw [hr1] at hn1
  rw [hr2] at hn2
  obtain ⟨n1, hq1⟩ : ∃ n1, (if y1 then x1 else -1) = n1 := ⟨_, rfl⟩
  obtain ⟨n2, hq2⟩ : ∃ n2, (if y2 then x2 else -1) = n2 := ⟨_, rfl⟩
  have c3 : ∀ x : MW wc, Calls Try.prog 72 #[.slice sa l.length sc, .int .u16 v] x.w fun e w'' => e = .returned (.tuple #[.int .u16 x1, .bool y1]) ∧ ∃ y : MW wc, w'' = y.w := fun x =>
    x.post (next_runs v hvb (HL.out.news x.m) HF.out) (fun e w' ⟨a, g, he, _, _, hn, hm⟩ => ⟨by rw [hr1] at hn; injection hn with h1 h2; rw [he, h1, h2], hm⟩)
  have c4 : ∀ x : MW wc, Calls Try.prog 73 #[.slice sa l.length sc, .int .u16 v] x.w fun e w'' => e = .returned (.tuple #[.int .u16 x2, .bool y2]) ∧ ∃ y : MW wc, w'' = y.w := fun x =>
    x.post (prev_runs v hvb (HL.out.news x.m) HF.out) (fun e w' ⟨a, g, he, _, _, hn, hm⟩ => ⟨by rw [hr2] at hn; injection hn with h1 h2; rw [he, h1, h2], hm⟩)
  have c5 : ∀ x : MW wc, Calls Try.prog 75 #[.slice sa l.length sc, .int .i64 a2] x.w fun e w'' => e = .returned (.tuple #[.int .u16 x3, .bool y3]) ∧ ∃ y : MW wc, w'' = y.w := fun x =>
    x.post (sel_runs a2 HKB.out (HL.out.news x.m) HF.out.rn HF.out.b16 (by omega)) (fun e w' ⟨a, g, he, hp, hn, _, hm⟩ => ⟨by
      have h1 := HRS.out
      by_cases h0 : 0 ≤ a2
      · rw [if_pos h0, hp h0] at h1; injection h1 with h1 h2; rw [he, h1, h2]
      · rw [if_neg h0, ← hn (by omega)] at h1; injection h1 with h1 h2; rw [he, h1, h2], hm⟩)
  have hx3 : 0 ≤ x3 ∧ x3 < 65536 := by
    have h1 := HRS.out
    by_cases h0 : 0 ≤ a2
    · rw [if_pos h0] at h1
      have h2 := rsel_bnd HF.out h0
      rw [← h1] at h2; exact h2
    · rw [if_neg h0] at h1; injection h1 with h1 h2; rw [h1]; omega
  have d1 : ∀ x : MW wc, Calls Try.prog 37 #[.int .u16 x1, .bool y1] x.w fun e w'' => e = .returned (.int .i64 n1) ∧ ∃ y : MW wc, w'' = y.w := fun x => by
    have := at06 x1 y1 x.w hn1.2
    rw [hq1] at this
    exact x.same this
  have d2 : ∀ x : MW wc, Calls Try.prog 37 #[.int .u16 x2, .bool y2] x.w fun e w'' => e = .returned (.int .i64 n2) ∧ ∃ y : MW wc, w'' = y.w := fun x => by
    have := at06 x2 y2 x.w hn2.2
    rw [hq2] at this
    exact x.same this
  have d3 : ∀ x : MW wc, Calls Try.prog 37 #[.int .u16 x3, .bool y3] x.w fun e w'' => e = .returned (.int .i64 W) ∧ ∃ y : MW wc, w'' = y.w := fun x => by
    have := at06 x3 y3 x.w hx3
    rw [HW.out] at this
    exact x.same this
  have e1 : ∀ x : MW wc, Calls Try.prog 39 #[.slice (some ⟨sb, 0, none⟩) 65536 65536, .int .i64 v] x.w fun e w'' => e = .returned (.int .i64 n1) ∧ ∃ y : MW wc, w'' = y.w := fun x => by
    refine (next06 (HS.out.news x.m) v (by omega)).mono fun e w'' ⟨⟨r, he, hr⟩, hw⟩ => ⟨?_, x, hw.symm⟩
    rw [he, hr.one hn1.1, ← hq1]; rfl
  have e2 : ∀ x : MW wc, Calls Try.prog 41 #[.slice (some ⟨sb, 0, none⟩) 65536 65536, .int .i64 v] x.w fun e w'' => e = .returned (.int .i64 n2) ∧ ∃ y : MW wc, w'' = y.w := fun x => by
    refine (prev06 (HS.out.news x.m) v (by omega)).mono fun e w'' ⟨⟨r, he, hr⟩, hw⟩ => ⟨?_, x, hw.symm⟩
    rw [he, hr.one hn2.1, ← hq2]; rfl
  have e3 : ∀ x : MW wc, Calls Try.prog 74 #[.slice sa l.length sc, .int .u16 v] x.w fun e w'' => e = .returned (.int .i64 (cntN f v)) ∧ ∃ y : MW wc, w'' = y.w := fun x =>
    x.post (rank_runs (v : Int) (by omega) (HL.out.news x.m) HF.out.b16 (by omega)) (fun e w' ⟨he, hm⟩ => ⟨by rw [he, HF.out.rank (by unfold Most; omega)], hm⟩)
  have e4 : ∀ x : MW wc, Calls Try.prog 42 #[.slice (some ⟨sb, 0, none⟩) 65536 65536, .int .i64 v] x.w fun e w'' => e = .returned (.int .i64 (cntN f v)) ∧ ∃ y : MW wc, w'' = y.w := fun x => x.same (rank06 (HS.out.news x.m) v (by omega))
  have C1 := Hidden.mk c1
  have C3 := Hidden.mk c3
  have C4 := Hidden.mk c4
  have C5 := Hidden.mk c5
  have D1 := Hidden.mk d1
  have D2 := Hidden.mk d2
  have D3 := Hidden.mk d3
  have E1 := Hidden.mk e1
  have E2 := Hidden.mk e2
  have E3 := Hidden.mk e3
  have E4 := Hidden.mk e4
  clear c1 c3 c4 c5 d1 d2 d3 e1 e2 e3 e4 hr1 hr2 hn1 hn2 hq1 hq2 HW HRS hx3
  generalize cntN f v = nk at *
  generalize f v = fv at *
  have hq1 : (n1 == n1) = true := by simp
  have hq2 : (n2 == n2) = true := by simp
  have hq3 : (W == W) = true := by simp
  have hq4 : (fv == fv) = true := by simp
  have hvw : IntKind.i64.wrap (v : Int) = v := IntWalk.i64_in _ (by omega)
  have hv65 : (v : Int) < 65536 := hv1
  go_wp2_with fail
  refine wp_class (MW.w (w := wc)) (MW.drew0 wc) rfl (by kernel_rfl) (by kernel_rfl) ?_
  repeat (go_big_quiet_step (first | (go_at_call 71; exact C1.out _) | (go_at_call 72; exact C3.out _) | (go_at_call 73; exact C4.out _) | (go_at_call 75; exact C5.out _) | (go_at_call 74; exact E3.out _) | (go_at_call 42; exact E4.out _) | (go_at_call 39; exact E1.out _) | (go_at_call 41; exact E2.out _) | (go_at_call 37; first | with_reducible exact D1.out _ | with_reducible exact D2.out _ | with_reducible exact D3.out _ | fail) | fail))
  refine wpQuiet_nil ?_
  intro _ hw'; obtain ⟨x, hw''⟩ := hw'; subst hw''
  go_wp2_with fail
  go_ret
  exact ⟨rfl, ((HM2.out.trans x.m (by simp)).below (Nat.le_refl _) (by simp))⟩
end Go.Proofs.Ythcjnijggebcaaa
