/- stepstonelaw08: do. -/
import Derived.Test.YthcjnijggebcaaaRuns11
namespace Go.Proofs.Ythcjnijggebcaaa
open Go.RowKit
set_option linter.unusedVariables false
set_option linter.unusedSimpArgs false
/-- Runs and the document's set, apart. -/
def LawSt (w : World) (v vs : Value) (f : Nat → Bool) : Prop := ∃ l, RSl w v l ∧ RF l f ∧ BS 4 w vs f ∧ (∀ b ∈ rb v, b ∉ rb vs)
def DoLaw (w : World) (vs : Value) (g : Nat → Bool) (e : Ending) (w' : World) : Prop := ∃ v', e = .returned v' ∧ LawSt w' v' vs g ∧ Mod (rb vs) w w'
theorem LawSt.of_way {w w1 w' : World} {vs v' : Value} {g : Nat → Bool} {l' : List (Int × Int)} (hs : BS 4 w1 vs g) (hm : Mod (rb vs) w w1) (hW : WayR w1 w' v' l') (hR : RF l' g) : LawSt w' v' vs g ∧ Mod (rb vs) w w' := by
  refine ⟨⟨l', hW.rsl, hR, hs.news hW.mod, fun b hb hb2 => ?_⟩, hm.trans hW.mod (by simp)⟩
  have h1 := hW.ge b hb
  obtain ⟨sb, rfl, hrb, hlt, _⟩ := hs.at_
  rw [hrb] at hb2; simp at hb2; omega
set_option maxHeartbeats 2000000 in
theorem do08 {w : World} {v vs : Value} {f : Nat → Bool} (h : LawSt w v vs f) (d p q st : Nat) (hd : d < 256) (hp : p < 65536) (hq : q < 65536) (hst : st < 65536) (h4 : d % 5 = 4 → q < p ∨ q - p < 200 * (2 + st % 9)) :
    Calls Try.prog 85 #[v, vs, .agg #[.int .u8 d, .int .u16 p, .int .u16 q, .int .u16 st]] w (DoLaw w vs (actF d p q st f)) := by
  obtain ⟨l, hl, hf, hs, hdis⟩ := h
  have HM0 := Hidden.mk ((Mod.refl (rb vs) w).alloc (.cells #[.int .u8 d, .int .u16 p, .int .u16 q, .int .u16 st] 99))
  have HD0 := Hidden.mk (do06 (hs.alloc (.cells #[.int .u8 d, .int .u16 p, .int .u16 q, .int .u16 st] 99)) d p q st hd hp hq hst)
  have HL := Hidden.mk (fun W (hW : Mod (rb vs) w W) => hl.mod hW hdis)
  have HF := Hidden.mk hf
  have hsh := hf.short
  obtain ⟨a, cap, rfl, _⟩ := hl.slice_
  obtain ⟨sb, rfl, hrb, hlt, _, _⟩ := hs.at_
  have K0 : Hidden (∀ W, Mod (rb (.slice (some ⟨sb, 0, none⟩) 65536 65536)) (w.alloc (.cells #[.int .u8 d, .int .u16 p, .int .u16 q, .int .u16 st] 99)) W → W.cell? ⟨w.heap.size, 0, none⟩ = some (.int .u8 d) ∧ W.cell? ⟨w.heap.size, 1, none⟩ = some (.int .u16 p) ∧ W.cell? ⟨w.heap.size, 2, none⟩ = some (.int .u16 q) ∧ W.cell? ⟨w.heap.size, 3, none⟩ = some (.int .u16 st) ∧ w.heap.size < W.heap.size) := ⟨fun W hW => by
    have hB := (Blk.new w 99 #[.int .u8 d, .int .u16 p, .int .u16 q, .int .u16 st]).mod hW (fun hk => by rw [hrb] at hk; simp at hk; omega)
    exact ⟨by rw [hB.cell]; rfl, by rw [hB.cell]; rfl, by rw [hB.cell]; rfl, by rw [hB.cell]; rfl, hB.lt⟩⟩
  have H4 := Hidden.mk h4
  clear hl hf hs hdis hrb h4
  have hrem : d % 5 < 5 := Nat.mod_lt _ (by decide)
  by_cases e0 : d % 5 = 0
  · have ez : (d : Int) % 5 = 0 := by omega
    have HA := Hidden.mk (show actF d p q st f = addF f [(p : Int)] from by unfold actF; rw [if_pos e0, ← List.nil_append [(p : Int)], addF_snoc, addF_nil])
    clear e0 hrem
    go_enter Try.func85, Try.ntmps85
    go_wp2_with fail
    refine HD0.out.mono ?_
    rintro e w2 ⟨n, rfl, hs, hm⟩
    obtain ⟨kd, kp, kq, ks, kl⟩ := K0.out _ hm
    have HS2 := Hidden.mk (And.intro hs (HM0.out.trans hm (fun x hx => .inl hx)))
    have HC := Hidden.mk (fun x (hx : w2.heap.size = x) => addm_runs (w := w2.alloc (.cells #[.int .u16 p] 24)) (((HL.out _ HS2.out.2).news ((Mod.refl [] w2).alloc _))) HF.out (ISl.one (k := .u16) (x := p) (Blk.new' (w := w2) hx 24 #[.int .u16 p])) (by simp; omega) (by simp))
    clear hs hm HD0
    go_wp2_with fail
    refine (HC.out _ rfl).mono ?_
    rintro e w3 ⟨v3, l3, rfl, hW3, hR3⟩
    have H3 := Hidden.mk (LawSt.of_way (hs := (HS2.out.1.alloc (.cells #[.int .u16 p] 24))) (HS2.out.2.alloc _) hW3 (by rw [HA.out]; exact hR3))
    clear hW3 hR3 HC
    go_wp2_with fail
    go_ret
    exact ⟨_, rfl, H3.out⟩
  · by_cases e1 : d % 5 = 1
    · have ez : (d : Int) % 5 = 1 := by omega
      have HA := Hidden.mk (show actF d p q st f = dropF f [(p : Int)] from by unfold actF; rw [if_neg e0, if_pos e1, ← List.nil_append [(p : Int)], dropF_snoc, dropF_nil])
      clear e0 e1 hrem
      go_enter Try.func85, Try.ntmps85
      go_wp2_with fail
      refine HD0.out.mono ?_
      rintro e w2 ⟨n, rfl, hs, hm⟩
      obtain ⟨kd, kp, kq, ks, kl⟩ := K0.out _ hm
      have HS2 := Hidden.mk (And.intro hs (HM0.out.trans hm (fun x hx => .inl hx)))
      have HC := Hidden.mk (fun x (hx : w2.heap.size = x) => dropm_runs (w := w2.alloc (.cells #[.int .u16 p] 24)) (((HL.out _ HS2.out.2).news ((Mod.refl [] w2).alloc _))) HF.out (ISl.one (k := .u16) (x := p) (Blk.new' (w := w2) hx 24 #[.int .u16 p])) (by simp; omega) (by simp))
      clear hs hm HD0
      go_wp2_with fail
      refine (HC.out _ rfl).mono ?_
      rintro e w3 ⟨v3, l3, rfl, hW3, hR3⟩
      have H3 := Hidden.mk (LawSt.of_way (hs := (HS2.out.1.alloc (.cells #[.int .u16 p] 24))) (HS2.out.2.alloc _) hW3 (by rw [HA.out]; exact hR3))
      clear hW3 hR3 HC
      go_wp2_with fail
      go_ret
      exact ⟨_, rfl, H3.out⟩
    · by_cases e2 : d % 5 = 2
      · have ez : (d : Int) % 5 = 2 := by omega
        have HA := Hidden.mk (show actF d p q st f = (fun i => if p ≤ i ∧ i ≤ q then true else f i) from by unfold actF; rw [if_neg e0, if_neg e1, if_pos e2])
        clear e0 e1 e2 hrem
        go_enter Try.func85, Try.ntmps85
        go_wp2_with fail
        refine HD0.out.mono ?_
        rintro e w2 ⟨n, rfl, hs, hm⟩
        obtain ⟨kd, kp, kq, ks, kl⟩ := K0.out _ hm
        have HS2 := Hidden.mk (And.intro hs (HM0.out.trans hm (fun x hx => .inl hx)))
        have HC := Hidden.mk (fill_runs (w := w2) p q (by omega) (by omega) (HL.out _ HS2.out.2) HF.out.b16 (by omega))
        clear hs hm HD0
        go_wp2_with fail
        refine HC.out.mono ?_
        rintro e w3 ⟨v3, rfl, hW3⟩
        have H3 := Hidden.mk (LawSt.of_way (hs := HS2.out.1) HS2.out.2 hW3 (by rw [HA.out]; exact HF.out.fill hp hq))
        clear hW3 HC
        go_wp2_with fail
        go_ret
        exact ⟨_, rfl, H3.out⟩
      · by_cases e3 : d % 5 = 3
        · have ez : (d : Int) % 5 = 3 := by omega
          have HA := Hidden.mk (show actF d p q st f = (fun i => if p ≤ i ∧ i ≤ q then false else f i) from by unfold actF; rw [if_neg e0, if_neg e1, if_neg e2, if_pos e3])
          clear e0 e1 e2 e3 hrem
          go_enter Try.func85, Try.ntmps85
          go_wp2_with fail
          refine HD0.out.mono ?_
          rintro e w2 ⟨n, rfl, hs, hm⟩
          obtain ⟨kd, kp, kq, ks, kl⟩ := K0.out _ hm
          have HS2 := Hidden.mk (And.intro hs (HM0.out.trans hm (fun x hx => .inl hx)))
          have HC := Hidden.mk (wipe_runs (w := w2) p q (by omega) (by omega) (HL.out _ HS2.out.2) HF.out.b16 (by omega))
          clear hs hm HD0
          go_wp2_with fail
          refine HC.out.mono ?_
          rintro e w3 ⟨v3, rfl, hW3⟩
          have H3 := Hidden.mk (LawSt.of_way (hs := HS2.out.1) HS2.out.2 hW3 (by rw [HA.out]; exact HF.out.wipe hp hq))
          clear hW3 HC
          go_wp2_with fail
          go_ret
          exact ⟨_, rfl, H3.out⟩
        · have ez : (d : Int) % 5 = 4 := by omega
          have HA := Hidden.mk (show actF d p q st f = addF f (stepsL p q (2 + st % 9)) from by unfold actF; rw [if_neg e0, if_neg e1, if_neg e2, if_neg e3])
          have hcap : stepsC p q (2 + st % 9) ≤ 200 := by
            rcases Nat.lt_or_ge 200 (stepsC p q (2 + st % 9)) with h | h
            · have h1 := (stepsC_lt (p := p) (q := q) (n := 200) (show 0 < 2 + st % 9 by omega)).1 h
              have h2 := H4.out (by omega)
              omega
            · exact h
          clear e0 e1 e2 e3 hrem
          have HB := Hidden.mk (stepsL_bnd (p := p) (q := q) (s := 2 + st % 9) (by omega) hq)
          have hlen : (stepsL p q (2 + st % 9)).length ≤ 200 := by unfold stepsL; rw [stepsN_len]; exact hcap
          have HST := Hidden.mk (fun W => steps06 (w := W) d p q st hp hq hst)
          clear hcap
          generalize stepsL p q (2 + st % 9) = L at *
          have hmin : min (L.length : Int) 200 = L.length := by omega
          go_enter Try.func85, Try.ntmps85
          go_wp2_with fail
          refine HD0.out.mono ?_
          rintro e w2 ⟨n0, rfl, hs, hm⟩
          obtain ⟨kd, kp, kq, ks, kl⟩ := K0.out _ hm
          have HS2 := Hidden.mk (And.intro hs hm)
          clear hs hm HD0
          have tok1 : True := trivial
          go_wp2_with fail
          go_region_with (first | (go_at_call 100; have _t := tok1; refine (HST.out _).mono ?_; rintro e w3 ⟨v3, rfl, hW3⟩; clear tok1; have hi3 := hW3.isl.2; obtain ⟨a3, c3, rfl, hc3, hc4⟩ := hi3.slice_; have H3 := Hidden.mk (And.intro hi3 ((Mod.refl [] w2).drew.trans hW3.mod (by simp))); obtain ⟨kd3, kp3, kq3, ks3, kl3⟩ := K0.out _ (HS2.out.2.trans H3.out.2 (by simp)); clear hW3 hi3) | (go_at_call 100; refine (HST.out _).mono ?_; rintro e w4 ⟨v4, rfl, hW4⟩; have hi4 := hW4.isl.2; obtain ⟨a4, c4, rfl, _⟩ := hi4.slice_; have H4 := Hidden.mk (H3.out.2.trans hW4.mod (by simp)); have HI4 := Hidden.mk (H3.out.1.news hW4.mod); clear hW4 hi4) | (go_at_call 25; refine (addm_runs (HL.out _ (HM0.out.trans (HS2.out.2.trans H4.out (by simp)) (fun x hx => .inl hx))) HF.out HI4.out HB.out (Nat.le_trans hlen (by decide))).mono ?_; rintro e w5 ⟨v5, l5, rfl, hW5, hR5⟩; have H5 := Hidden.mk (LawSt.of_way (hs := HS2.out.1.news H4.out) (HM0.out.trans (HS2.out.2.trans H4.out (by simp)) (fun x hx => .inl hx)) hW5 (by rw [HA.out]; exact hR5)); clear hW5 hR5))
          all_goals
            go_wp2_with fail
            go_ret
            exact ⟨_, rfl, H5.out⟩
end Go.Proofs.Ythcjnijggebcaaa
