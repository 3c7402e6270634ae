/- runs.Wipe. -/
import Derived.Test.YthcjnijggebcaaaRuns7
namespace Go.Proofs.Ythcjnijggebcaaa
open Go.RowKit
set_option linter.unusedVariables false
set_option linter.unusedSimpArgs false
set_option maxHeartbeats 2000000 in
set_option maxRecDepth 100000 in
theorem wipe_runs {w : World} {v : Value} {l : List (Int × Int)} (f t : Int) (hf : 0 ≤ f ∧ f < 65536) (ht : 0 ≤ t ∧ t < 65536) (h : RSl w v l) (hr : R16 l) (hl : l.length ≤ 200000) :
    Calls Try.prog 23 #[v, .int .u16 f, .int .u16 t] w (RunsOnly w (rwipe f t l)) := by
  by_cases htf : t < f
  · have HK := Hidden.mk (clone_runs h (by omega))
    have HX := Hidden.mk (show rwipe f t l = l from by unfold rwipe; rw [if_pos htf])
    obtain ⟨a, cap, rfl, _⟩ := h.slice_
    clear h hr
    go_enter Try.func23, Try.ntmps23
    go_wp2_with fail
    refine HK.out.mono ?_
    rintro e w1 ⟨v1, rfl, hW⟩
    have HW := Hidden.mk hW
    clear hW HK
    go_wp2_with fail
    go_ret
    exact ⟨_, rfl, by rw [HX.out]; exact HW.out⟩
  · have htd : decide (t < f) = false := decide_eq_false htf
    obtain ⟨a, cap, rfl, _⟩ := h.slice_
    have H := Hidden.mk h
    have HR := Hidden.mk hr
    have HX := Hidden.mk (show rwipe f t l = l.flatMap (wone f t) from by unfold rwipe; rw [if_neg htf])
    obtain ⟨hf0, hf1⟩ := hf
    obtain ⟨ht0, ht1⟩ := ht
    clear h hr htf
    go_enter Try.func23, Try.ntmps23
    go_wp2_with fail
    go_loopw [7, 17] (fun vo vi wr => ∃ i : Nat, i ≤ l.length ∧ vi = .int .i64 i ∧ WayR w wr vo ((l.take i).flatMap (wone f t))) (fun _ vi _ => l.length - (intOf vi).toNat)
    case atStart => exact ⟨0, by omega, rfl, WayR.nil_ (Mod.refl [] _)⟩
    case round =>
      obtain ⟨i, hi, rfl, hW⟩ := hrel
      by_cases hin : i < l.length
      · obtain ⟨vb, vc, rfl, _⟩ := hW.slice_
        obtain ⟨b, off, p, q, rfl, hbl, hx, hc1, hc2⟩ := (H.out.news hW.mod).get hin
        have hb := HR.out (p, q) (List.mem_of_getElem? hx)
        obtain ⟨hp0, hp1, hq0, hq1⟩ : 0 ≤ p ∧ p < 65536 ∧ 0 ≤ q ∧ q < 65536 := hb
        have hlen : ((l.take i).flatMap (wone f t)).length ≤ 400000 := by have := rwipe_len f t (l.take i); rw [List.length_take] at this; omega
        have E := Hidden.mk (show (l.take (i + 1)).flatMap (wone f t) = (l.take i).flatMap (wone f t) ++ wone f t (p, q) from by rw [List.take_add_one, hx]; simp)
        generalize (l.take i).flatMap (wone f t) = o at *
        have HW1 := Hidden.mk (hW.alloc (.cells #[.int .u16 p, .int .u16 q] 34))
        have HLT := Hidden.mk (fun k hk => hW.row.lt (k := k) hk)
        clear hW hx
        have KN : Hidden (∀ S W, Mod S (wr.alloc (.cells #[.int .u16 p, .int .u16 q] 34)) W → (∀ k ∈ S, k ∈ rb (.slice vb o.length vc)) → W.cell? ⟨wr.heap.size, 0, none⟩ = some (.int .u16 p) ∧ W.cell? ⟨wr.heap.size, 1, none⟩ = some (.int .u16 q) ∧ wr.heap.size < W.heap.size) := ⟨fun S W hW hS => by
          have hB := (Blk.new wr 34 #[.int .u16 p, .int .u16 q]).mod hW (fun hk => Nat.lt_irrefl _ (HLT.out _ (hS _ hk)))
          exact ⟨by rw [hB.cell]; rfl, by rw [hB.cell]; rfl, hB.lt⟩⟩
        by_cases hpf : p < f
        · have hfd : decide (p < f) = true := decide_eq_true hpf
          have hfm : IntKind.u16.wrap (f - 1) = f - 1 := by rw [IntKind.wrap_u16]; omega
          have HA1 := Hidden.mk (HW1.out.alloc (.cells #[.int .u16 p, .int .u16 (min q (f - 1))] 34))
          have hh1 := Hidden.mk (holds_run (wr.alloc (.cells #[.int .u16 p, .int .u16 q] 34)) p (min q (f - 1)) (b := wr.heap.size + 1) (by simp))
          by_cases htq : t < q
          · have htd2 : decide (t < q) = true := decide_eq_true htq
            have htm : IntKind.u16.wrap (t + 1) = t + 1 := by rw [IntKind.wrap_u16]; omega
            have HE := Hidden.mk (show wone f t (p, q) = [(p, min q (f - 1))] ++ [(max p (t + 1), q)] from by simp [wone, hpf, htq])
            clear hpf htq HW1
            go_wp2_with (first | (refine wpList_any rfl (.tmp 25) (.tmp 34) 23 rfl 34 (.agg #[.int .u16 0, .int .u16 0]) 2 4 (by kernel_rfl) run_info rfl (by decide) _ _ _ rfl HA1.out.row _ _ _ rfl hh1.out (rcells_one _) (by omega) (by omega) ?_; intro b4 c4 w4 hr4 hm4 hf4; have hW4 := Hidden.mk (HA1.out.next (m := o ++ [(p, min q (f - 1))]) hr4 hm4 hf4 (by rw [rcells_app]) (by simp)); obtain ⟨kn0, kn1, kn2⟩ := KN.out _ w4 (((Mod.refl _ _).alloc _).trans hm4 (fun x hx => .inl hx)) (fun k hk => hk); clear hr4 hm4 hf4 HA1 hh1; have HA2 := Hidden.mk (hW4.out.alloc (.cells #[.int .u16 (max p (t + 1)), .int .u16 q] 34)); have hh2 := Hidden.mk (holds_run w4 (max p (t + 1)) q rfl)) | (refine wpList_any rfl (.tmp 40) (.tmp 49) 23 rfl 34 (.agg #[.int .u16 0, .int .u16 0]) 2 4 (by kernel_rfl) run_info rfl (by decide) _ _ _ rfl HA2.out.row _ _ _ rfl hh2.out (rcells_one _) (by simp; omega) (by simp; omega) ?_; intro b5 c5 w5 hr5 hm5 hf5; have hW5 := Hidden.mk (HA2.out.next (m := o ++ [(p, min q (f - 1))] ++ [(max p (t + 1), q)]) hr5 hm5 hf5 (by rw [rcells_app (o ++ [(p, min q (f - 1))])]) (by simp)); clear hr5 hm5 hf5 HA2 hh2))
            go_roundw
            case rel => exact ⟨i + 1, by omega, by go_num, by rw [E.out, HE.out, ← List.append_assoc]; have := hW5.out; rwa [show (o ++ [(p, min q (f - 1))]).length = o.length + 1 from by simp] at this⟩
            case measure => simp [intOf]; omega
          · have htd2 : decide (t < q) = false := decide_eq_false htq
            have HE := Hidden.mk (show wone f t (p, q) = [(p, min q (f - 1))] from by simp [wone, hpf, htq])
            clear hpf htq HW1
            go_wp2_with (refine wpList_any rfl (.tmp 25) (.tmp 34) 23 rfl 34 (.agg #[.int .u16 0, .int .u16 0]) 2 4 (by kernel_rfl) run_info rfl (by decide) _ _ _ rfl HA1.out.row _ _ _ rfl hh1.out (rcells_one _) (by omega) (by omega) ?_; intro b4 c4 w4 hr4 hm4 hf4; have hW4 := Hidden.mk (HA1.out.next (m := o ++ [(p, min q (f - 1))]) hr4 hm4 hf4 (by rw [rcells_app]) (by simp)); obtain ⟨kn0, kn1, kn2⟩ := KN.out _ w4 (((Mod.refl _ _).alloc _).trans hm4 (fun x hx => .inl hx)) (fun k hk => hk); clear hr4 hm4 hf4 HA1 hh1)
            go_roundw
            case rel => exact ⟨i + 1, by omega, by go_num, by rw [E.out, HE.out]; exact hW4.out⟩
            case measure => simp [intOf]; omega
        · have hfd : decide (p < f) = false := decide_eq_false hpf
          by_cases htq : t < q
          · have htd2 : decide (t < q) = true := decide_eq_true htq
            have htm : IntKind.u16.wrap (t + 1) = t + 1 := by rw [IntKind.wrap_u16]; omega
            have HE := Hidden.mk (show wone f t (p, q) = [(max p (t + 1), q)] from by simp [wone, hpf, htq])
            have HA2 := Hidden.mk (HW1.out.alloc (.cells #[.int .u16 (max p (t + 1)), .int .u16 q] 34))
            have hh2 := Hidden.mk (holds_run (wr.alloc (.cells #[.int .u16 p, .int .u16 q] 34)) (max p (t + 1)) q (b := wr.heap.size + 1) (by simp))
            clear hpf htq HW1
            go_wp2_with (refine wpList_any rfl (.tmp 40) (.tmp 49) 23 rfl 34 (.agg #[.int .u16 0, .int .u16 0]) 2 4 (by kernel_rfl) run_info rfl (by decide) _ _ _ rfl HA2.out.row _ _ _ rfl hh2.out (rcells_one _) (by omega) (by omega) ?_; intro b5 c5 w5 hr5 hm5 hf5; have hW5 := Hidden.mk (HA2.out.next (m := o ++ [(max p (t + 1), q)]) hr5 hm5 hf5 (by rw [rcells_app]) (by simp)); clear hr5 hm5 hf5 HA2 hh2)
            go_roundw
            case rel => exact ⟨i + 1, by omega, by go_num, by rw [E.out, HE.out]; exact hW5.out⟩
            case measure => simp [intOf]; omega
          · have htd2 : decide (t < q) = false := decide_eq_false htq
            have HE := Hidden.mk (show wone f t (p, q) = [] from by simp [wone, hpf, htq])
            clear hpf htq
            go_wp2_with fail
            go_roundw
            case rel => exact ⟨i + 1, by omega, by go_num, by rw [E.out, HE.out, List.append_nil]; exact HW1.out⟩
            case measure => simp [intOf]; omega
      · have e : i = l.length := by omega
        subst e
        rw [List.take_length] at hW
        have HW := Hidden.mk hW
        clear hW
        go_wp2_with fail
        go_ret
        exact ⟨_, rfl, by rw [HX.out]; exact HW.out⟩
end Go.Proofs.Ythcjnijggebcaaa
