/- The walk of PoolPlays. -/
import Derived.Test.YtnbanbfnabhjjaaPoolPlay
import Derived.Test.YtnbanbfnabhjjaaSame04
import Derived.Test.YtnbanbfnabhjjaaPoolFullW
import Derived.Test.YtnbanbfnabhjjaaArgs2
namespace Go.Proofs.Ytnbanbfnabhjjaa
open Go.RowKit
set_option linter.unusedVariables false
set_option linter.unusedSimpArgs false
section
variable {w0 w w' : World} {pb mb xb limit : Nat} {s : PS Int}
theorem Alike.mod0 (h : Alike w0 w pb mb xb limit s) (hm : Mod [] w w') : Alike w0 w' pb mb xb limit s := by
  obtain ⟨m, F, Fx, V, h1, h2, h3, h4, h5, h6, h7⟩ := h
  exact ⟨m, F, Fx, V, h1.mod0 hm, h2, h3, h4, h5.trans (hm.below h5.size (by simp)), h6, h7⟩
theorem Alike.below (h : Alike w0 w pb mb xb limit s) : Below w0.heap.size w0 w := by
  obtain ⟨m, F, Fx, V, h1, h2, h3, h4, h5, h6, h7⟩ := h; exact h5
theorem Alike.live (h : Alike w0 w pb mb xb limit s) : s.live ≤ limit ∧ s.limit = limit := by
  obtain ⟨m, F, Fx, V, h1, h2, h3, h4, h5, h6, h7⟩ := h
  have := h1.pool.wf.live_le; omega
theorem Alike.len (h : Alike w0 w pb mb xb limit s) : Calls Try.prog 19 #[.pointer (some ⟨pb, 0, none⟩)] w fun e w' => e = .returned (.int .i64 s.live) ∧ w = w' := by
  obtain ⟨m, F, Fx, V, h1, h2, h3, h4, h5, h6, h7⟩ := h; exact pa_len h1.pool
theorem Alike.room (h : Alike w0 w pb mb xb limit s) (n : Int) : Calls Try.prog 20 #[.pointer (some ⟨pb, 0, none⟩), .int .i64 n] w fun e w' => e = .returned (.bool (decide (n ≤ (limit : Int) - s.live))) ∧ Mod [] w w' := by
  obtain ⟨m, F, Fx, V, h1, h2, h3, h4, h5, h6, h7⟩ := h; rw [← h7]; exact pa_room n h1.pool
theorem Alike.rlen (h : Alike w0 w pb mb xb limit s) : Calls Try.prog 32 #[.pointer (some ⟨xb, 0, none⟩)] w fun e w' => e = .returned (.int .i64 s.live) ∧ w = w' := by
  obtain ⟨m, F, Fx, V, h1, h2, h3, h4, h5, h6, h7⟩ := h
  obtain ⟨vv, lv, fv, hFe, hR⟩ := h1.ref
  exact ref04_len hR
theorem Alike.lim (h : Alike w0 w pb mb xb limit s) : Calls Try.prog 29 #[.pointer (some ⟨pb, 0, none⟩)] w fun e w' => e = .returned (.int .i64 limit) ∧ w = w' := by
  obtain ⟨m, F, Fx, V, h1, h2, h3, h4, h5, h6, h7⟩ := h
  obtain ⟨cv, fv, hFe, hP⟩ := h1.pool
  rw [← h7]
  exact poolU_limit pb mb cv fv s w hP
theorem Alike.same (h : Alike w0 w pb mb xb limit s) {most : Int} (h1 : 1 ≤ most) (h2 : most ≤ 1000) :
    Calls Try.prog 35 #[.pointer (some ⟨pb, 0, none⟩), .pointer (some ⟨xb, 0, none⟩), .int .i64 most] w fun e w' => e = .returned (.bool true) ∧ Mod [] w w' := by
  obtain ⟨m, F, Fx, V, k1, _⟩ := h
  exact (same_any k1.pool k1.ref h1 h2).mono fun e w' h => ⟨h.1, Mod.of_below h.2⟩
/-- What the last line reads. -/
theorem Alike.ends (h : Alike w0 w pb mb xb limit s) : ∃ r : Int, ∃ vv : Value, (∀ x : MW w, x.w.cell? ⟨pb, 0, none⟩ = some (.pointer (some ⟨mb, 0, none⟩))) ∧ (∀ x : MW w, x.w.cell? ⟨xb, 4, none⟩ = some (.int .i64 r)) ∧ (∀ x : MW w, x.w.cell? ⟨xb, 0, none⟩ = some vv) ∧
    (∀ x : MW w, Calls Try.prog 33 #[.pointer (some ⟨mb, 0, none⟩)] x.w fun e w'' => e = .returned (.int .i64 r) ∧ ∃ y : MW w, w'' = y.w) ∧
    (∀ x : MW w, Calls Try.prog 34 #[.pointer (some ⟨mb, 0, none⟩)] x.w fun e w'' => e = .returned (.int .i64 r) ∧ ∃ y : MW w, w'' = y.w) := by
  obtain ⟨m, F, Fx, V, h1, h2, h3, h4, h5, h6, h7⟩ := h
  obtain ⟨cv, fv, hFe, hP⟩ := h1.pool
  obtain ⟨vv, lv, fv', hFe', hR⟩ := h1.ref
  have hmet := h1.met
  refine ⟨m.reads, vv, fun x => x.cell (hP.blk.cell 0), fun x => x.cell (hR.blk.cell 4), fun x => x.cell (hR.blk.cell 0), fun x => x.call (meter_Reads mb m x.w (hmet.mod x.m (by simp))), fun x => x.call ?_⟩
  rw [← h6]
  exact meter_Taken mb m x.w (hmet.mod x.m (by simp))
end
set_option maxRecDepth 100000 in
set_option maxHeartbeats 4000000 in
theorem poolPlays_walk (a0 : Int) (a1 : Option Addr) (len1 cap1 : Nat) (z1 : Nat → Nat → Int) (a2 : Int) (w0 : (Lit.int .i64 a0).wf = true) (w : World) (w1 : StRow [.u8, .i64, .u64] w a1 len1 cap1 z1) (w2 : (Lit.int .u8 a2).wf = true) :
    Calls Try.prog 5 #[.int .i64 a0, .slice a1 len1 cap1, .int .u8 a2] w fun e w' => e = .returned (.bool true) ∧ Below w.heap.size w w' := by
  have b2 := bounds_u8 w2
  have hle1 := w1.le
  clear w0 w2
  go_enter Try.func5, Try.ntmps5
  go_wp2_with fail
  refine (awake4 w w (Below.refl _ _)).mono ?_; rintro e wa ⟨rfl, hB⟩
  go_wp2_with fail
  refine (clamp_any a0 12 wa).mono ?_; rintro e wb ⟨rfl, rfl⟩
  obtain ⟨L, hL, hL2⟩ : ∃ L : Nat, max (min a0 12) 0 = (L : Int) ∧ L ≤ 12 := ⟨(max (min a0 12) 0).toNat, by omega, by omega⟩
  rw [hL]
  clear hL
  go_wp2_with fail
  refine (meter_new wa).mono ?_; rintro e wb ⟨rfl, hwb⟩
  have hM : MeterAt wb wa.heap.size Mt.zero := by rw [← hwb]; exact MeterAt.new wa
  have hBb : Mod [] wa wb := by rw [← hwb]; exact (Mod.refl [] wa).alloc _
  have hsz : wb.heap.size = wa.heap.size + 1 := by rw [← hwb]; simp
  clear hwb
  go_wp2_with fail
  refine (poolU_new wa.heap.size L wb (by omega)).mono ?_
  rintro e wc ⟨rfl, hP, hMc⟩
  have hM2 := hM.mod hMc (by simp)
  have hszc : wb.heap.size + 1 ≤ wc.heap.size := by have := hP.blk.lt; omega
  have hx : RefAt (wc.alloc (.cells #[.slice none 0 0, .slice none 0 0, .slice none 0 0, .int .i64 L, .int .i64 0] 49)) wc.heap.size [wc.heap.size] [] (PS.empty L) 0 :=
    ⟨_, _, _, rfl, ⟨Blk.new wc _ _, Row.nil_ _ _ _, Row.nil_ _ _ _, Row.nil_ _ _ _, PS.empty_wf L (by omega), rfl, by simp [PS.empty]⟩⟩
  have hA : Alike w (wc.alloc (.cells #[.slice none 0 0, .slice none 0 0, .slice none 0 0, .int .i64 L, .int .i64 0] 49)) wb.heap.size wa.heap.size wc.heap.size L (PS.empty L) := by
    have hm := (Mod.refl [] wc).alloc (.cells #[.slice none 0 0, .slice none 0 0, .slice none 0 0, .int .i64 L, .int .i64 0] 49)
    have hBs := hB.size
    refine ⟨Mt.zero, _, _, _, ⟨PoolAt.mod ⟨_, _, rfl, hP⟩ hm (by simp), hM2.mod hm (by simp), hx, ?_, ?_, ?_⟩, hB.size, ?_, ?_, ?_, rfl, rfl⟩
    · simp [rb, Value.ownBlock]; omega
    · simp; omega
    · simp [rb, Value.ownBlock]; omega
    · simp [rb, Value.ownBlock]; omega
    · simp; omega
    · exact hB.trans ((hBb.trans (hMc.trans hm (by simp)) (by simp)).below hB.size (by simp))
  have hszd : wc.heap.size + 1 = (wc.alloc (.cells #[.slice none 0 0, .slice none 0 0, .slice none 0 0, .int .i64 L, .int .i64 0] 49)).heap.size := by simp
  have HA := Hidden.mk hA
  have HZ := Hidden.mk (And.intro hsz (And.intro hszc hszd))
  clear hM hBb hsz hP hMc hM2 hszc hx hA hB hszd
  go_wp2_with fail
  generalize wb.heap.size = pb at *
  generalize wa.heap.size = mb at *
  generalize wc.heap.size = xb at *
  go_loopw [35] (fun iv wr => ∃ (i : Nat) (s : PS Int), i ≤ len1 ∧ iv = .int .i64 i ∧ Alike w wr pb mb xb L s) (fun iv _ => len1 - (intOf iv).toNat)
  case atStart => exact ⟨0, _, by omega, rfl, HA.out⟩
  case round =>
    clear HA HZ
    obtain ⟨i, s, hi, rfl, hA⟩ := hrel
    have HA := Hidden.mk hA
    have hB := hA.below
    clear hA
    by_cases hlt : i < len1
    · obtain ⟨ab, aoff, rfl, hab, hcs⟩ := w1.at_ (by omega) (by simp)
      obtain ⟨hc0, hw0⟩ := hcs i hlt 0 .u8 rfl
      obtain ⟨hc1, hw1⟩ := hcs i hlt 1 .i64 rfl
      obtain ⟨hc2, hw2⟩ := hcs i hlt 2 .u64 rfl
      have c0 : wr.cell? ⟨ab, aoff + i * 3, none⟩ = some (.int .u8 (z1 i 0)) := (hB.cell (p := ⟨ab, aoff + i * 3, none⟩) hab).trans hc0
      have c1 : wr.cell? ⟨ab, aoff + i * 3 + 1, none⟩ = some (.int .i64 (z1 i 1)) := (hB.cell (p := ⟨ab, aoff + i * 3 + 1, none⟩) hab).trans hc1
      have c2 : wr.cell? ⟨ab, aoff + i * 3 + 2, none⟩ = some (.int .u64 (z1 i 2)) := (hB.cell (p := ⟨ab, aoff + i * 3 + 2, none⟩) hab).trans hc2
      have d0 := bounds_u8 hw0
      generalize z1 i 0 = dd at *
      generalize z1 i 1 = ii at *
      generalize z1 i 2 = vv at *
      clear hcs hc0 hc1 hc2 hw0 hw1 hw2 hB w1
      have hA1 := HA.out.mod0 ((Mod.refl [] wr).alloc (.cells #[.int .u8 dd, .int .i64 ii, .int .u64 vv] 51))
      by_cases h80 : 80 ≤ i
      · have hd80 : decide ((80 : Int) ≤ (i : Int)) = true := by simp; omega
        clear HA
        have HA := Hidden.mk hA1
        clear hA1
        go_wp2_with fail
        clear c0 c1 c2 hd80 h80
        obtain ⟨WR, hWR⟩ : ∃ W, wr.alloc (.cells #[.int .u8 dd, .int .i64 ii, .int .u64 vv] 51) = W := ⟨_, rfl⟩
        simp only [hWR]
        replace HA := Hidden.mk (hWR ▸ HA.out : Alike w WR pb mb xb L s)
        clear hWR
        have hst := HA.out.ends
        obtain ⟨r, vv, e1, e2, e3, e4, e5⟩ := hst
        have e6 : ∀ x : MW WR, Calls Try.prog 35 #[.pointer (some ⟨pb, 0, none⟩), .pointer (some ⟨xb, 0, none⟩), .int .i64 1000] x.w fun e w'' => e = .returned (.bool true) ∧ ∃ y : MW WR, w'' = y.w := fun x => x.call ((HA.out.mod0 x.m).same (by omega) (by omega))
        have e7 : ∀ x : MW WR, Calls Try.prog 35 #[.pointer (some ⟨pb, 0, none⟩), .pointer (some ⟨xb, 0, none⟩), .int .i64 (1 + a2 % 5)] x.w fun e w'' => e = .returned (.bool true) ∧ ∃ y : MW WR, w'' = y.w := fun x => x.call ((HA.out.mod0 x.m).same (by omega) (by omega))
        have e8 : ∀ x : MW WR, Calls Try.prog 29 #[.pointer (some ⟨pb, 0, none⟩)] x.w fun e w'' => e = .returned (.int .i64 L) ∧ ∃ y : MW WR, w'' = y.w := fun x => x.same (HA.out.mod0 x.m).lim
        have H4 := Hidden.mk e4
        have H5 := Hidden.mk e5
        have H6 := Hidden.mk e6
        have H7 := Hidden.mk e7
        have H8 := Hidden.mk e8
        clear e4 e5 e6 e7 e8
        go_wp2_with fail
        refine wp_class (MW.w (w := WR)) (MW.drew0 WR) rfl (by kernel_rfl) (by kernel_rfl) ?_
        repeat (go_big_quiet_step (first | (go_at_call 33; exact H4.out _) | (go_at_call 34; exact H5.out _) | (go_at_call 35; with_reducible exact H6.out _) | (go_at_call 35; with_reducible exact H7.out _) | (go_at_call 29; exact H8.out _)))
        refine wpQuiet_nil ?_
        intro _ hw'; obtain ⟨x, hw''⟩ := hw'; subst hw''
        go_wp2_with fail
        go_ret
        exact ⟨rfl, (HA.out.mod0 x.m).below⟩
      · have hd80 : decide ((80 : Int) ≤ (i : Int)) = false := by simp; omega
        have hact := act_any dd ii vv hA1 (by omega)
        have hact2 : Hidden (∀ W t, Alike w W pb mb xb L t → t.live ≤ L) := ⟨fun W t h => h.live.1⟩
        clear hA1 HA
        go_wp2_with fail
        refine hact.mono ?_; clear hact; rintro e w3 ⟨rfl, t, hA3⟩
        have hlv := hact2.out _ _ hA3
        have hlen := hA3.len
        have hrlen := hA3.rlen
        have hroom := hA3.room 1
        have HA3 := Hidden.mk hA3
        clear hA3 hact2
        have hgt : decide ((L : Int) < (t.live : Int)) = false := by simp; omega
        have hgt2 : decide (L < t.live) = false := by simp; omega
        have hroom2 : decide ((1 : Int) ≤ (L : Int) - (t.live : Int)) = decide ((t.live : Int) < (L : Int)) := by rw [decide_eq_decide]; omega
        rw [hroom2] at hroom
        clear hroom2
        go_wp2_with fail
        refine hlen.mono ?_; rintro e w4 ⟨rfl, rfl⟩
        go_wp2_with fail
        refine hrlen.mono ?_; rintro e w4 ⟨rfl, rfl⟩
        go_wp2_with fail
        refine hlen.mono ?_; clear hlen; rintro e w4 ⟨rfl, rfl⟩
        go_wp2_with fail
        refine hroom.mono ?_; clear hroom; rintro e w4 ⟨rfl, hm4⟩
        have hA4 := HA3.out.mod0 hm4
        have hrlen4 := hA4.rlen
        have HA4 := Hidden.mk hA4
        clear hA4 hm4 hrlen
        go_wp2_with fail
        refine hrlen4.mono ?_; clear hrlen4; rintro e w5 ⟨rfl, rfl⟩
        go_wp2_with fail
        go_roundw
        case rel => exact ⟨i + 1, t, by omega, by go_num, HA4.out⟩
        case measure => simp [intOf]; omega
    · obtain rfl : i = len1 := by omega
      obtain ⟨WR, rfl⟩ : ∃ W, W = wr := ⟨_, rfl⟩
      clear hlt hi hB hle1
      have hst := HA.out.ends
      obtain ⟨r, vv, e1, e2, e3, e4, e5⟩ := hst
      have e6 : ∀ x : MW WR, Calls Try.prog 35 #[.pointer (some ⟨pb, 0, none⟩), .pointer (some ⟨xb, 0, none⟩), .int .i64 1000] x.w fun e w'' => e = .returned (.bool true) ∧ ∃ y : MW WR, w'' = y.w := fun x => x.call ((HA.out.mod0 x.m).same (by omega) (by omega))
      have e7 : ∀ x : MW WR, Calls Try.prog 35 #[.pointer (some ⟨pb, 0, none⟩), .pointer (some ⟨xb, 0, none⟩), .int .i64 (1 + a2 % 5)] x.w fun e w'' => e = .returned (.bool true) ∧ ∃ y : MW WR, w'' = y.w := fun x => x.call ((HA.out.mod0 x.m).same (by omega) (by omega))
      have e8 : ∀ x : MW WR, Calls Try.prog 29 #[.pointer (some ⟨pb, 0, none⟩)] x.w fun e w'' => e = .returned (.int .i64 L) ∧ ∃ y : MW WR, w'' = y.w := fun x => x.same (HA.out.mod0 x.m).lim
      have H4 := Hidden.mk e4
      have H5 := Hidden.mk e5
      have H6 := Hidden.mk e6
      have H7 := Hidden.mk e7
      have H8 := Hidden.mk e8
      clear e4 e5 e6 e7 e8
      go_wp2_with fail
      refine wp_class (MW.w (w := WR)) (MW.drew0 WR) rfl (by kernel_rfl) (by kernel_rfl) ?_
      repeat (go_big_quiet_step (first | (go_at_call 33; exact H4.out _) | (go_at_call 34; exact H5.out _) | (go_at_call 35; with_reducible exact H6.out _) | (go_at_call 35; with_reducible exact H7.out _) | (go_at_call 29; exact H8.out _)))
      refine wpQuiet_nil ?_
      intro _ hw'; obtain ⟨x, hw''⟩ := hw'; subst hw''
      go_wp2_with fail
      go_ret
      exact ⟨rfl, (HA.out.mod0 x.m).below⟩
end Go.Proofs.Ytnbanbfnabhjjaa
