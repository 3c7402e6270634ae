/- XfastPlays: the walk. -/
import Derived.Test.YtfioekkegihkoaaXfPl
import Derived.Test.YtfioekkegihkoaaXfEmp
import Derived.Test.YtfioekkegihkoaaMw
import Derived.Test.YtfioekkegihkoaaPickP
namespace Go.Proofs.Ytfioekkegihkoaa
open Go.RowKit
set_option linter.unusedVariables false
set_option linter.unusedSimpArgs false
/-- The law's state between two acts. -/
structure PlX (w0 w : World) (xb M : Nat) (v : Value) (Y : List Int) (P : List Nat) (c : Nat) : Prop where
  x : XM w0 w xb M Y c P
  c : c ≤ 1000
  l : ∀ W, XK w0 P w W → ISl .u64 W v Y
  p : 0 < Y.length → ∀ b ∈ rb v, b ∈ P
theorem PlX.news {w0 w W : World} {xb M c : Nat} {v : Value} {Y : List Int} {P : List Nat} (h : PlX w0 w xb M v Y P c) (hm : Mod [] w W) : PlX w0 W xb M v Y P c :=
  ⟨h.x.news hm, h.c, fun W' hW => h.l W' ((XK.news hm).trans hW), h.p⟩
theorem PlX.isl {w0 w : World} {xb M c : Nat} {v : Value} {Y : List Int} {P : List Nat} (h : PlX w0 w xb M v Y P c) : ISl .u64 w v Y := h.l _ (XK.refl _ _ _)
theorem PlX.guard {w0 w W : World} {xb M c q : Nat} {v : Value} {Y : List Int} {P : List Nat} (h : PlX w0 w xb M v Y P c) (hm : Mod [] w W) (h1 : w.heap.size ≤ q) (h2 : q < W.heap.size) : PlX w0 W xb M v Y (q :: P) c :=
  ⟨h.x.guard hm h1 h2, h.c, fun W' hW => h.l W' ((XK.news hm).trans (hW.less (fun r hr => by simp [hr]))), fun hy b hb => by simp [h.p hy b hb]⟩
/-- Beside a new list. -/
theorem PlX.next {w0 w w' : World} {xb M c : Nat} {v v2 : Value} {Y Y1 : List Int} {P : List Nat} (h : PlX w0 w xb M v Y P c) (hm : Mod [] w w') (hi : ISl .u64 w' v2 Y1) (hg : v2 = v ∨ ∀ b ∈ rb v2, w.heap.size ≤ b) :
    ∃ P', PlX w0 w' xb M v Y P' c ∧ (∀ q ∈ P, q ∈ P') ∧ (∀ W, XK w0 P' w' W → ISl .u64 W v2 Y1) ∧ (0 < Y1.length → ∀ b ∈ rb v2, b ∈ P') := by
  rcases Nat.eq_zero_or_pos Y1.length with h0 | h0
  · obtain rfl := List.eq_nil_of_length_eq_zero h0
    obtain ⟨a, cap, rfl, h1, h2, h3, h4⟩ := hi
    exact ⟨P, h.news hm, fun q hq => hq, fun W _ => ⟨a, cap, rfl, h1, h2, h3, .inl rfl⟩, fun h => absurd h (by simp)⟩
  · rcases hg with rfl | hg
    · have hY : 0 < Y.length := by
        obtain ⟨a, cap, rfl, -⟩ := h.isl.slice_
        have := hi.len; omega
      exact ⟨P, h.news hm, fun q hq => hq, fun W hW => hW.isl hi (h.p hY), fun _ => h.p hY⟩
    · have hi' := hi
      obtain ⟨b, off, cap, rfl, h1, h2, h3, h4⟩ := hi.at_ h0
      have hb : b ∈ rb (.slice (some ⟨b, off, none⟩) Y1.length cap) := by simp [rb, Value.ownBlock]
      have hrb : ∀ q ∈ rb (.slice (some ⟨b, off, none⟩) Y1.length cap), q = b := fun q hq => by simpa [rb, Value.ownBlock] using hq
      exact ⟨b :: P, h.guard hm (hg b hb) h3, fun q hq => by simp [hq], fun W hW => hW.isl hi' (fun q hq => by rw [hrb q hq]; simp), fun _ q hq => by rw [hrb q hq]; simp⟩
theorem actL_len (Y : List Int) (d k : Int) : (actL Y d k).1.length ≤ Y.length + 1 := by
  unfold actL
  have h1 : (insL Y k).length ≤ Y.length + 1 := by unfold insL; simp; omega
  have h2 : (delL Y k).length ≤ Y.length + 1 := by unfold delL; simp; omega
  repeat' split
  all_goals (first | exact h1 | exact h2 | (simp; done) | (simp))
set_option maxHeartbeats 16000000 in
set_option maxRecDepth 100000 in
theorem xfastPlays_walk {w : World} (seed limit : Int) (a2 : Option Addr) (len2 cap2 : Nat) (z2 : Nat → Nat → Int) (stop : Int) (w0 : (Lit.int .u64 seed).wf = true) (w1 : (Lit.int .u16 limit).wf = true) (w2 : StRow [.u8, .u64] w a2 len2 cap2 z2) (w3 : (Lit.int .u8 stop).wf = true) :
    Calls Try.prog 9 #[.int .u64 seed, .int .u16 limit, .slice a2 len2 cap2, .int .u8 stop] w fun e w' => e = .returned (.bool true) ∧ Below w.heap.size w w' := by
  have hl0 := bounds_u16 w1
  have hs0 := bounds_u8 w3
  obtain ⟨hle, hcap⟩ := w2.le
  obtain ⟨M, hM⟩ : ∃ M : Nat, limit % 5000 = M := ⟨(limit % 5000).toNat, by omega⟩
  have hM1 : M ≤ 4999 := by omega
  have HO : Hidden (∀ W i, Mod [] w W → i < len2 → ∃ b off d k, a2 = some ⟨b, off, none⟩ ∧ W.cell? ⟨b, off + i * 2, none⟩ = some (.int .u8 d) ∧ W.cell? ⟨b, off + i * 2 + 1, none⟩ = some (.int .u64 k) ∧ (0 ≤ d ∧ d ≤ 255) ∧ (0 ≤ k ∧ k < 18446744073709551616)) := ⟨fun W i hm hi => by
    obtain ⟨b, off, rfl, hb, hc⟩ := (w2.news (by decide) hm).at_ (by omega) (by decide)
    have h1 := hc i hi 0 .u8 rfl
    have h2 := hc i hi 1 .u64 rfl
    exact ⟨b, off, _, _, rfl, by simpa using h1.1, by rw [Nat.add_assoc]; simpa using h2.1, bounds_u8 h1.2, wf64 h2.2⟩⟩
  obtain ⟨K, hK⟩ : ∃ K : Nat, 1 + stop % 5 = (K : Int) := ⟨(1 + stop % 5).toNat, by omega⟩
  have hK1 : 1 ≤ K ∧ K ≤ 5 := by omega
  clear w0 w1 w2 w3
  go_enter Try.func9, Try.ntmps9
  go_wp2_with fail
  refine (awake14 _).mono ?_
  rintro e wa ⟨rfl, hm⟩
  have HN : Hidden (Calls Try.prog 11 #[.int .u64 seed, .int .i64 M] wa fun e w' => ∃ xb, e = .returned (.tuple #[.pointer (some ⟨xb, 0, none⟩), .int .i64 0]) ∧ XM w w' xb M [] 0 [] ∧ Mod [] wa w') := ⟨xm_new seed M w wa (by omega) hm⟩
  clear hm
  go_wp2_with fail
  refine HN.out.mono ?_
  rintro e wb ⟨xb, rfl, hx, -⟩
  have HX : Hidden (PlX w wb xb M (.slice none 0 0) [] [] 0) := ⟨hx, by omega, fun W _ => ISl.nil_ _ _, fun h => absurd h (by simp)⟩
  clear hx HN hl0
  go_wp2_with fail
  clear hM
  have HKK := Hidden.mk (And.intro hK (And.intro hK1 hs0))
  clear hK hK1 hs0
  go_loopw [12, 39] (fun lv iv wr => ∃ (Y : List Int) (P : List Nat) (c i : Nat), i ≤ len2 ∧ i ≤ 60 ∧ Y.length ≤ i ∧ iv = .int .i64 i ∧ PlX w wr xb M lv Y P c) (fun _ iv _ => len2 - (intOf iv).toNat)
  case atStart => exact ⟨[], [], 0, 0, by omega, by omega, by simp, rfl, HX.out⟩
  case round =>
    clear HX
    obtain ⟨Y, P, c, i, hi, hi60, hYi, rfl, hX⟩ := hrel
    obtain ⟨pl, cl, rfl, hpl⟩ := hX.isl.slice_
    clear hpl
    by_cases hin : i < len2
    · have din : decide ((i : Int) < (len2 : Int)) = true := decide_eq_true (by omega)
      obtain ⟨b, off, d, k, rfl, hc0, hc1, hd, hk⟩ := HO.out wr i hX.x.facts.2.2.2.2 hin
      by_cases h60 : 60 ≤ i
      · have d60 : decide ((60 : Int) ≤ (i : Int)) = true := decide_eq_true (by omega)
        obtain ⟨WB, hWB⟩ : ∃ WB, wr.alloc (.cells #[.int .u8 d, .int .u64 k] 70) = WB := ⟨_, rfl⟩
        have HX := Hidden.mk (hX.news ((Mod.refl [] wr).alloc (.cells #[.int .u8 d, .int .u64 k] 70)))
        rw [hWB] at HX
        clear hX HO hd hk
        have hKw : IntKind.i64.wrap (1 + stop % 5) = (K : Int) := by rw [HKK.out.1]; exact IntWalk.i64_in _ (by have := HKK.out.2.1; omega)
        have hKe := HKK.out.1
        obtain ⟨hs0, hs1⟩ := HKK.out.2.2
        obtain ⟨N, hN⟩ : ∃ N, min Y.length K = N := ⟨_, rfl⟩
        have hmin : min (Y.length : Int) (K : Int) = (N : Int) := by omega
        go_wp2_with fail
        have HT2 : Hidden (Y.take N = Y.take K) := ⟨by rw [← hN]; rcases Nat.le_total Y.length K with h | h; rw [Nat.min_eq_left h, List.take_length, List.take_of_length_le h]; rw [Nat.min_eq_right h]⟩
        have hNle : N ≤ Y.length := by rw [← hN]; exact Nat.min_le_left _ _
        have HS := Hidden.mk (fun W (hW : Mod [] WB W) => same14 (HX.out.x.news hW) (by omega) (HX.out.news hW).isl (by omega))
        rw [decide_eq_true rfl] at HS
        have HAL := Hidden.mk (fun W (hW : Mod [] WB W) => all14 (HX.out.x.news hW) (by omega) K HKK.out.2.1.1 (by have := HKK.out.2.1.2; omega))
        have hcl : Y.length ≤ cl := by have h1 := HX.out.isl; obtain ⟨a', c', e1, e2, -⟩ := h1.slice_; injection e1 with e3 e4 e5; omega
        have HTK := Hidden.mk (fun W (hW : Mod [] WB W) => (HX.out.news hW).isl.take hNle)
        have HNL : Hidden ((Y.take N).length = N) := ⟨by rw [List.length_take]; omega⟩
        have HKN : Hidden ((List.take K Y).length = N) := ⟨by rw [← HT2.out]; exact HNL.out⟩
        have HKL : Hidden ((List.take K Y).length ≤ 1000000) := ⟨by rw [List.length_take]; exact Nat.le_trans (Nat.min_le_right _ _) (by omega)⟩
        have n0 : (0 : Int) ≤ (N : Int) := by omega
        have n1 : N ≤ cl := by omega
        have HMF := Hidden.mk HX.out.x.facts.2.2.2.2
        clear hN hNle hcl
        refine wp_region_pick (C := fun W => Mod [] WB W) [(0, true), (1, true), (2, false), (3, true), (4, true), (5, true), (7, true), (8, true), (9, true), (10, true), (11, true), (12, true), (6, false), (13, false), (14, true), (15, true), (16, true), (18, true), (17, false), (19, true), (20, true), (21, true)] (by kernel_rfl) (by kernel_rfl) (Mod.refl [] WB).drew ?_
        refine pick_move _ rfl (.inl rfl) (by kernel_rfl) ?_
        go_simp
        refine pick_move _ rfl (.inl rfl) (by kernel_rfl) ?_
        go_simp
        refine pick_call (f := 33) (args := #[.pointer (some ⟨xb, 0, none⟩), .slice pl Y.length cl]) rfl (by kernel_rfl) (by first | kernel_rfl | simp [go_sem]) ?_
        refine (HS.out _ (Mod.refl [] WB).drew).mono ?_
        rintro e y1 ⟨rfl, ym1⟩
        have Z1 : Hidden (Mod [] WB y1) := ⟨(Mod.refl [] WB).drew.trans ym1 (by simp)⟩
        clear ym1
        refine ⟨_, rfl, Z1.out, ?_⟩
        go_simp
        refine pick_move _ rfl (.inl rfl) (by kernel_rfl) ?_
        go_simp
        refine pick_move _ rfl (.inl rfl) (by kernel_rfl) ?_
        go_simp
        refine pick_move _ rfl (.inl rfl) (by kernel_rfl) ?_
        go_simp
        refine pick_move _ rfl (.inl rfl) (by kernel_rfl) ?_
        go_simp
        refine pick_move _ rfl (.inl rfl) (by kernel_rfl) ?_
        go_simp
        refine pick_still (.int .i64 (Y.length : Nat)) rfl (by kernel_rfl) (fun W => by simp [go_sem, hmin, n0, n1]) ?_
        go_simp
        refine pick_move _ rfl (.inl rfl) (by kernel_rfl) ?_
        go_simp
        refine pick_still (.int .i64 (N : Nat)) rfl (by kernel_rfl) (fun W => run_min (.tmp 115) (.tmp 116) (Y.length : Nat) (K : Nat) (N : Nat) hmin W rfl (by first | rfl | go_simp) (by first | rfl | go_simp)) ?_
        go_simp
        refine pick_still (.slice pl N cl) rfl (by kernel_rfl) (fun W => run_slice_hi (.tmp 113) (.tmp 117) pl Y.length cl N W rfl (by first | rfl | go_simp) (by first | rfl | go_simp) n1) ?_
        go_simp
        refine pick_call (f := 46) (args := #[.pointer (some ⟨xb, 0, none⟩), .int .i64 K]) rfl (by kernel_rfl) (by first | kernel_rfl | simp [go_sem]) ?_
        refine (HAL.out _ Z1.out).mono ?_
        rintro e y2 ⟨yv, rfl, yh, ym2, -⟩
        have Z2 : Hidden (Mod [] WB y2) := ⟨Z1.out.trans ym2 (by simp)⟩
        obtain ⟨ya, yc, rfl, -⟩ := yh.slice_
        rw [HKN.out] at yh ⊢
        have ZH := Hidden.mk yh
        clear ym2 yh
        refine ⟨_, rfl, Z2.out, ?_⟩
        go_simp
        refine pick_call (f := 40) (args := #[.slice ya N yc, .slice pl N cl]) rfl (by kernel_rfl) (by first | kernel_rfl | simp [go_sem]) ?_
        refine (same01 ZH.out (HTK.out _ Z2.out) HKL.out (by rw [HNL.out]; omega)).mono ?_
        rintro e y3 ⟨rfl, yq, rfl⟩
        rw [decide_eq_true HT2.out.symm]
        refine ⟨_, rfl, Z2.out.drewN yq, ?_⟩
        go_simp
        refine pick_still (.bool true) rfl (by kernel_rfl) (fun W => by simp [go_sem, hmin, n0, n1]) ?_
        go_simp
        refine pick_move _ rfl (.inl rfl) (by kernel_rfl) ?_
        go_simp
        refine pick_move _ rfl (.inl rfl) (by kernel_rfl) ?_
        go_simp
        refine pick_move _ rfl (.inl rfl) (by kernel_rfl) ?_
        go_simp
        refine pick_call (f := 45) (args := #[.pointer (some ⟨xb, 0, none⟩)]) rfl (by kernel_rfl) (by first | kernel_rfl | simp [go_sem]) ?_
        refine (xm_limit (HX.out.x.news (Z2.out.drewN yq))).mono ?_
        rintro e y4 ⟨rfl, rfl⟩
        refine ⟨_, rfl, Z2.out.drewN yq, ?_⟩
        go_simp
        refine pick_still (.bool true) rfl (by kernel_rfl) (fun W => by simp [go_sem, hmin, n0, n1]) ?_
        go_simp
        refine pick_still (.bool true) rfl (by kernel_rfl) (fun W => by simp [go_sem, hmin, n0, n1]) ?_
        go_simp
        refine pick_move _ rfl (.inr rfl) (by kernel_rfl) ?_
        go_simp
        refine pick_nil ?_
        go_wp2_with fail
        go_ret
        exact ⟨rfl, (HMF.out.trans (Z2.out.drewN yq) (by simp)).below (Nat.le_refl _) (by simp)⟩
      · have d60 : decide ((60 : Int) ≤ (i : Int)) = false := decide_eq_false (by omega)
        have hwi : IntKind.i64.wrap ((i : Int) + 1) = i + 1 := IntWalk.i64_in _ (by omega)
        obtain ⟨w1, hw1⟩ : ∃ w1, wr.alloc (.cells #[.int .u8 d, .int .u64 k] 70) = w1 := ⟨_, rfl⟩
        obtain ⟨q1, hq1⟩ : ∃ q1, wr.heap.size = q1 := ⟨_, rfl⟩
        have hb1 : Blk w1 q1 70 #[.int .u8 d, .int .u64 k] := by rw [← hw1, ← hq1]; exact Blk.new _ _ _
        have hX1 := hX.guard (q := q1) (by rw [← hw1]; exact (Mod.refl [] wr).alloc _) (by omega) hb1.lt
        have hfac := hX.x.facts
        have HDO0 := do11 d k hX1.isl (by omega) hfac.1 hd
        have HFIT := Hidden.mk (fun h => act_fit (M := M) (k := k) hfac.1 hfac.2.1 hd.1 h)
        have HNOF := Hidden.mk (fun h => act_nofit (Y := Y) (M := M) (k := k) hd.1 h)
        have HDK := Hidden.mk (And.intro hd hk)
        obtain ⟨⟨Y1, E1, K1, T1⟩, hR⟩ : ∃ r, actL Y d k = r := ⟨_, rfl⟩
        rw [hR] at HDO0 HFIT HNOF
        have HDO : Hidden (Calls Try.prog 47 #[.slice pl Y.length cl, .agg #[.int .u8 d, .int .u64 k]] w1 fun e w' => ∃ v', e = .returned (.tuple #[v', .agg #[.int .i64 E1, .int .u64 K1, .bool T1]]) ∧ ISl .u64 w' v' Y1 ∧ Mod [] w1 w' ∧ (v' = .slice pl Y.length cl ∨ ∀ b ∈ rb v', w1.heap.size ≤ b)) := ⟨HDO0⟩
        clear HDO0
        have HYL : Hidden (Y1.length ≤ i + 1) := ⟨by have := actL_len Y d k; rw [hR] at this; simp only at this; omega⟩
        have a0 : w1.cell? ⟨q1, 0, none⟩ = some (.int .u8 d) := hb1.cell 0
        have a1 : w1.cell? ⟨q1, 1, none⟩ = some (.int .u64 k) := hb1.cell 1
        have H1 := Hidden.mk (And.intro hX1 hb1)
        obtain ⟨hd0, hd1⟩ := hd
        clear hX hX1 hb1 hfac hk hR
        go_wp2_with fail
        refine HDO.out.mono ?_
        rintro e w2 ⟨v2, rfl, hi2, hm2, hg2⟩
        obtain ⟨P2, hX2, hPP2, hi2P, hv2P⟩ := H1.out.1.next hm2 hi2 hg2
        have hb2 := H1.out.2.mod hm2 (by simp)
        have hq1P : q1 ∈ P2 := hPP2 _ (by simp)
        obtain ⟨p2, c2, rfl, hs2⟩ := hi2.slice_
        clear hs2 hi2 hm2 hg2 HDO a0 a1 hw1 hq1 H1 hPP2
        obtain ⟨w3, hw3⟩ : ∃ w3, w2.alloc (.cells #[.int .i64 E1, .int .u64 K1, .bool T1] 72) = w3 := ⟨_, rfl⟩
        obtain ⟨q2, hq2⟩ : ∃ q2, w2.heap.size = q2 := ⟨_, rfl⟩
        have hm3 : Mod [] w2 w3 := by rw [← hw3]; exact (Mod.refl [] w2).alloc _
        have hwb3 : Blk w3 q2 72 #[.int .i64 E1, .int .u64 K1, .bool T1] := by rw [← hw3, ← hq2]; exact Blk.new _ _ _
        have hb3 := hb2.mod hm3 (by simp)
        have hX3 := hX2.guard (q := q2) hm3 (by omega) hwb3.lt
        have HD14 := Hidden.mk (do14 d k hX3.x HDK.out.2 HDK.out.1)
        have a0 : w3.cell? ⟨q1, 0, none⟩ = some (.int .u8 d) := hb3.cell 0
        have a1 : w3.cell? ⟨q1, 1, none⟩ = some (.int .u64 k) := hb3.cell 1
        have hne12 : q1 ≠ q2 := by have := hb2.lt; omega
        have HI2 : Hidden ((∀ W, XK w (q2 :: P2) w3 W → ISl .u64 W (.slice p2 Y1.length c2) Y1) ∧ (0 < Y1.length → ∀ b ∈ rb (.slice p2 Y1.length c2), b ∈ q2 :: P2)) := ⟨fun W hW => hi2P W ((XK.news hm3).trans (hW.less (fun r hr => by simp [hr]))), fun h b hb => List.mem_cons_of_mem _ (hv2P h b hb)⟩
        have H3 := Hidden.mk (And.intro hX3 (And.intro hwb3 (And.intro hb3 hq1P)))
        have H2L := Hidden.mk (And.intro (fun W (hW : XK w P2 w3 W) => hX2.l W ((XK.news hm3).trans hW)) (And.intro hX2.p (fun q (hq : q ∈ P2) => (by have := hX2.x.plt q hq; omega : q ≠ q2))))
        have hq2w : w.heap.size ≤ q2 := by have := hX2.x.facts.2.2.2.2.size; omega
        clear hX2 hX3 hb2 hb3 hwb3 hm3 hi2P hv2P hq1P
        go_wp2_with fail
        refine HD14.out.mono ?_
        rintro e w4 ⟨rfl, hx4, hk4⟩
        have hwb4 := H3.out.2.1.xk hk4 (by simp)
        have hb4 := H3.out.2.2.1.xk hk4 (by simp [H3.out.2.2.2])
        have hc4 := cap_steps d c H3.out.1.c HDK.out.1.1
        have hul := hx4.facts.2.2.1
        clear hw3 hq2 HD14 a0 a1
        by_cases hnf : noFit Y M d k = true
        · obtain ⟨e1, e2, e3, e4⟩ := HNOF.out hnf
          rw [e1] at hx4 hul ⊢
          dsimp only at hx4 hul ⊢
          injection e2 with e5 e6
          injection e6 with e6 e7
          injection e7 with e7 e8
          subst e6; subst e7; subst e8
          have HY2 : Hidden (ISl .u64 w4 (.slice p2 Y1.length c2) Y1) := ⟨HI2.out.1 _ hk4⟩
          have HUB : Hidden (∀ x ∈ Y1, 0 ≤ x ∧ x < 18446744073709551616) := ⟨by rw [e5]; intro x hx; rcases insL_mem.1 hx with rfl | hx; exact HDK.out.2; exact H3.out.1.x.facts.2.1 x hx⟩
          have HUS : Hidden (M < useK Y1) := ⟨by rw [e5]; omega⟩
          have hd2 : decide (d % 9 < 2) = true := decide_eq_true e3
          obtain ⟨w5, hw5⟩ : ∃ w5, w4.alloc (.cells #[.int .i64 5, .int .u64 0, .bool false] 72) = w5 := ⟨_, rfl⟩
          obtain ⟨q3, hq3⟩ : ∃ q3, w4.heap.size = q3 := ⟨_, rfl⟩
          have hm5 : Mod [] w4 w5 := by rw [← hw5]; exact (Mod.refl [] w4).alloc _
          have hgb5 : Blk w5 q3 72 #[.int .i64 5, .int .u64 0, .bool false] := by rw [← hw5, ← hq3]; exact Blk.new _ _ _
          have hwb5 := hwb4.mod hm5 (by simp)
          have hb5 := hb4.mod hm5 (by simp)
          have hne23 : q2 ≠ q3 := by have := hwb4.lt; omega
          have HPW : Hidden (∀ W, Mod [q2] w5 W → PlX w W xb M (.slice pl Y.length cl) Y P2 (cap14 d c)) := ⟨fun W hW => by
            have h45 : Mod [q2] w4 W := (hm5.mono (T := [q2]) (by simp)).trans hW (fun q hq => .inl hq)
            refine ⟨(hx4.touch h45 (fun q hq => by simp at hq; subst hq; exact ⟨by simp, hq2w⟩)).less (fun q hq => by simp [hq]), hc4.2, fun W' hW' => ?_, H2L.out.2.1⟩
            exact H2L.out.1 W' ((hk4.less (fun q hq => by simp [hq])).trans ((XK.sets h45 (fun q hq => by simp at hq; subst hq; exact ⟨hq2w, fun hP => H2L.out.2.2 _ hP rfl⟩)).trans hW'))⟩
          have HB5 := Hidden.mk (And.intro hgb5 (And.intro hwb5 (And.intro hb5 hc4.1)))
          have a0 : w4.cell? ⟨q1, 0, none⟩ = some (.int .u8 d) := hb4.cell 0
          have g0 : w4.cell? ⟨q2, 0, none⟩ = some (.int .i64 0) := hwb4.cell 0
          have g1 : w4.cell? ⟨q2, 1, none⟩ = some (.int .u64 0) := hwb4.cell 1
          have g2 : w4.cell? ⟨q2, 2, none⟩ = some (.bool false) := hwb4.cell 2
          have gf := hwb4.frozen 0
          have bl1 : q1 < q3 := by have := hb4.lt; omega
          have bl2 : q2 < q3 := by have := hwb4.lt; omega
          have a5 : w5.cell? ⟨q1, 0, none⟩ = some (.int .u8 d) := hb5.cell 0
          have g5 : w5.cell? ⟨q2, 0, none⟩ = some (.int .i64 0) := hwb5.cell 0
          have gf5 := hwb5.frozen 0
          have gl5 := hwb5.lt
          have HXF := Hidden.mk (xfast11 (HY2.out.news hm5) (by have := HYL.out; omega) HUB.out)
          obtain ⟨U0, hU0⟩ : ∃ U0, useK Y1 = U0 := ⟨_, rfl⟩
          rw [hU0] at HXF HUS
          have hgt0 : decide ((M : Int) < (U0 : Int)) = true := decide_eq_true (by have := HUS.out; omega)
          have hgt0' : decide (M < U0) = true := decide_eq_true (by have := HUS.out; omega)
          have HYI := Hidden.mk hYi
          have HHI := Hidden.mk (And.intro hin (And.intro h60 hi))
          clear hx4 hk4 hwb4 hb4 hc4 hul hm5 hgb5 hwb5 hb5 e1 e3 e4 e5 hnf HFIT HNOF HI2 H3 HY2 HUB hU0 H2L hq2w
          subst hw5
          go_wp2_with fail
          refine HXF.out.mono ?_
          rintro e w6 ⟨rfl, qd, rfl⟩
          go_wp2_with fail
          have hset : Mod [q2] (w4.alloc (.cells #[.int .i64 5, .int .u64 0, .bool false] 72)) (((w4.alloc (.cells #[.int .i64 5, .int .u64 0, .bool false] 72)).drewN qd).setCell ⟨q2, 0, none⟩ (.int .i64 5)) := ((Mod.refl [q2] (w4.alloc (.cells #[.int .i64 5, .int .u64 0, .bool false] 72))).drewN qd).set (.inl (by simp)) _
          have HXW := Hidden.mk (HPW.out _ hset)
          obtain ⟨WR, hWR⟩ : ∃ WR, ((w4.alloc (.cells #[.int .i64 5, .int .u64 0, .bool false] 72)).drewN qd).setCell ⟨q2, 0, none⟩ (.int .i64 5) = WR := ⟨_, rfl⟩
          have HBW : Hidden (Blk WR q3 72 #[.int .i64 5, .int .u64 0, .bool false] ∧ Blk WR q2 72 #[.int .i64 5, .int .u64 0, .bool false] ∧ Blk WR q1 70 #[.int .u8 d, .int .u64 k]) := ⟨by rw [← hWR]; exact HB5.out.1.mod hset (by simp; omega), by rw [← hWR]; simpa using (HB5.out.2.1.drewN qd).set 0 (.int .i64 5), by rw [← hWR]; exact HB5.out.2.2.1.mod hset (by simpa using hne12)⟩
          rw [hWR] at HXW hset
          clear hset
          obtain ⟨mb, ct, hct, htk⟩ := xm_taken HXW.out.x
          have HTK := Hidden.mk htk
          obtain ⟨U, hU⟩ : ∃ U, useK Y = U := ⟨_, rfl⟩
          have hgt : decide ((M : Int) < (U : Int)) = false := decide_eq_false (by have := HXW.out.x.facts.2.2.1; omega)
          have hgt' : decide (M < U) = false := decide_eq_false (by have := HXW.out.x.facts.2.2.1; omega)
          obtain ⟨sn, hsn⟩ : ∃ sn, stepsN d = sn := ⟨_, rfl⟩
          have hst : decide (sn < (ct : Int)) = false := decide_eq_false (by have := HB5.out.2.2.2; rw [hsn] at this; omega)
          have E1' : Hidden (∀ x : MW WR, Calls Try.prog 36 #[.pointer (some ⟨xb, 0, none⟩)] x.w fun e w'' => e = .returned (.int .i64 U) ∧ ∃ y : MW WR, w'' = y.w) := ⟨fun x => x.call ((xm_used (HXW.out.x.news x.m)).mono (fun e w' h => ⟨by rw [h.1, hU], h.2.2⟩))⟩
          have E2 : Hidden (∀ x : MW WR, Calls Try.prog 49 #[.slice pl Y.length cl] x.w fun e w'' => e = .returned (.int .i64 U) ∧ ∃ y : MW WR, w'' = y.w) := ⟨fun x => x.drawn ((xfast11 (HXW.out.news x.m).isl (by have := HYI.out; have := HHI.out; omega) HXW.out.x.facts.2.1).mono (fun e w' h => ⟨by rw [h.1, hU], h.2⟩))⟩
          have E3 : Hidden (∀ x : MW WR, Calls Try.prog 50 #[.pointer (some ⟨mb, 0, none⟩)] x.w fun e w'' => e = .returned (.int .i64 ct) ∧ ∃ y : MW WR, w'' = y.w) := ⟨fun x => x.call (HTK.out x.w x.m).2⟩
          have E4 : Hidden (∀ x : MW WR, Calls Try.prog 51 #[.int .u8 d] x.w fun e w'' => e = .returned (.int .i64 sn) ∧ ∃ y : MW WR, w'' = y.w) := ⟨fun x => by have := x.same (steps14 d x.w HDK.out.1); rw [hsn] at this; exact this⟩
          have cx : ∀ x : MW WR, x.w.cell? ⟨xb, 0, none⟩ = some (.pointer (some ⟨mb, 0, none⟩)) := fun x => (HTK.out x.w x.m).1
          have ca : ∀ x : MW WR, x.w.cell? ⟨q1, 0, none⟩ = some (.int .u8 d) := fun x => x.cell (HBW.out.2.2.cell 0)
          have cg0 : ∀ x : MW WR, x.w.cell? ⟨q3, 0, none⟩ = some (.int .i64 5) := fun x => x.cell (HBW.out.1.cell 0)
          have cg1 : ∀ x : MW WR, x.w.cell? ⟨q3, 1, none⟩ = some (.int .u64 0) := fun x => x.cell (HBW.out.1.cell 1)
          have cg2 : ∀ x : MW WR, x.w.cell? ⟨q3, 2, none⟩ = some (.bool false) := fun x => x.cell (HBW.out.1.cell 2)
          have cw0 : ∀ x : MW WR, x.w.cell? ⟨q2, 0, none⟩ = some (.int .i64 5) := fun x => x.cell (HBW.out.2.1.cell 0)
          have cw1 : ∀ x : MW WR, x.w.cell? ⟨q2, 1, none⟩ = some (.int .u64 0) := fun x => x.cell (HBW.out.2.1.cell 1)
          have cw2 : ∀ x : MW WR, x.w.cell? ⟨q2, 2, none⟩ = some (.bool false) := fun x => x.cell (HBW.out.2.1.cell 2)
          have hke : ∀ w, (Op.equalIn 10000 72 (.agg #[.int .i64 5, .int .u64 0, .bool false]) (.agg #[.int .i64 5, .int .u64 0, .bool false])).run Try.prog w = .ok true w := fun w => ans_eq (5, 0, false) w
          have hkg := fun op A B x y w => ans_guard op A B x y w
          clear htk hct hU hsn a0 g0 g1 g2 gf a5 g5 gf5 gl5 hq3 bl1 bl2 hgt0 hgt0' hne23
          refine wp_class (MW.w (w := WR)) (MW.drew0 WR) (by rw [← hWR]; rfl) (by kernel_rfl) (by kernel_rfl) ?_
          repeat (go_big_quiet_step (first | (go_at_call 36; exact E1'.out _) | (go_at_call 49; exact E2.out _) | (go_at_call 50; exact E3.out _) | (go_at_call 51; exact E4.out _)))
          refine wpQuiet_nil ?_
          intro _ hw'; obtain ⟨x, hw''⟩ := hw'; subst hw''
          go_wp2_with fail
          go_roundw
          case rel => exact ⟨Y, _, _, i + 1, by omega, by omega, by have := HYI.out; omega, by go_num, HXW.out.news x.m⟩
          case measure => simp [intOf]; omega
        · have e1 := HFIT.out (by simpa using hnf)
          rw [e1] at hx4 hul ⊢
          dsimp only at hx4 hul ⊢
          have HX4 : Hidden (PlX w w4 xb M (.slice p2 Y1.length c2) Y1 (q2 :: P2) (cap14 d c)) := ⟨hx4, hc4.2, fun W hW => HI2.out.1 W (hk4.trans hW), HI2.out.2⟩
          obtain ⟨w5, hw5⟩ : ∃ w5, w4.alloc (.cells #[.int .i64 E1, .int .u64 K1, .bool T1] 72) = w5 := ⟨_, rfl⟩
          obtain ⟨q3, hq3⟩ : ∃ q3, w4.heap.size = q3 := ⟨_, rfl⟩
          have hm5 : Mod [] w4 w5 := by rw [← hw5]; exact (Mod.refl [] w4).alloc _
          have hgb5 : Blk w5 q3 72 #[.int .i64 E1, .int .u64 K1, .bool T1] := by rw [← hw5, ← hq3]; exact Blk.new _ _ _
          have hwb5 := hwb4.mod hm5 (by simp)
          have hb5 := hb4.mod hm5 (by simp)
          have HX5 := Hidden.mk (HX4.out.news hm5)
          have HB5 := Hidden.mk (And.intro hgb5 (And.intro hwb5 (And.intro hb5 hc4.1)))
          have a0 : w5.cell? ⟨q1, 0, none⟩ = some (.int .u8 d) := hb5.cell 0
          have g0 : w5.cell? ⟨q2, 0, none⟩ = some (.int .i64 E1) := hwb5.cell 0
          have g1 : w5.cell? ⟨q2, 1, none⟩ = some (.int .u64 K1) := hwb5.cell 1
          have g2 : w5.cell? ⟨q2, 2, none⟩ = some (.bool T1) := hwb5.cell 2
          have HUL := Hidden.mk hul
          clear hx4 hk4 hwb4 hb4 hc4 hul HX4 hm5 hgb5 hwb5 hb5 e1 hnf HFIT HNOF HI2 H3
          rcases (show ¬ d % 9 < 2 ∨ (d % 9 < 2 ∧ ¬ E1 = 0) ∨ (d % 9 < 2 ∧ E1 = 0) by omega) with hs | hs | hs
          · have hd2 : decide (d % 9 < 2) = false := decide_eq_false hs
            clear hs
            go_wp2_with fail
            have HXW := Hidden.mk (HX5.out.news (Mod.refl [] w5))
            obtain ⟨WR, hWR⟩ : ∃ WR, w5 = WR := ⟨_, rfl⟩
            rw [hWR] at HXW
            have HBW : Hidden (Blk WR q3 72 #[.int .i64 E1, .int .u64 K1, .bool T1] ∧ Blk WR q2 72 #[.int .i64 E1, .int .u64 K1, .bool T1] ∧ Blk WR q1 70 #[.int .u8 d, .int .u64 k]) := ⟨by rw [← hWR]; exact HB5.out.1.mod (Mod.refl [] w5) (by simp), by rw [← hWR]; exact HB5.out.2.1.mod (Mod.refl [] w5) (by simp), by rw [← hWR]; exact HB5.out.2.2.1.mod (Mod.refl [] w5) (by simp)⟩
            obtain ⟨mb, ct, hct, htk⟩ := xm_taken HXW.out.x
            have HTK := Hidden.mk htk
            obtain ⟨U, hU⟩ : ∃ U, useK Y1 = U := ⟨_, rfl⟩
            have hgt : decide ((M : Int) < (U : Int)) = false := decide_eq_false (by have := HXW.out.x.facts.2.2.1; omega)
            have hgt' : decide (M < U) = false := decide_eq_false (by have := HXW.out.x.facts.2.2.1; omega)
            obtain ⟨sn, hsn⟩ : ∃ sn, stepsN d = sn := ⟨_, rfl⟩
            have hst : decide (sn < (ct : Int)) = false := decide_eq_false (by have := HB5.out.2.2.2; rw [hsn] at this; omega)
            have E1' : Hidden (∀ x : MW WR, Calls Try.prog 36 #[.pointer (some ⟨xb, 0, none⟩)] x.w fun e w'' => e = .returned (.int .i64 U) ∧ ∃ y : MW WR, w'' = y.w) := ⟨fun x => x.call ((xm_used (HXW.out.x.news x.m)).mono (fun e w' h => ⟨by rw [h.1, hU], h.2.2⟩))⟩
            have E2 : Hidden (∀ x : MW WR, Calls Try.prog 49 #[.slice p2 Y1.length c2] x.w fun e w'' => e = .returned (.int .i64 U) ∧ ∃ y : MW WR, w'' = y.w) := ⟨fun x => x.drawn ((xfast11 (HXW.out.news x.m).isl (by have := HYL.out; omega) HXW.out.x.facts.2.1).mono (fun e w' h => ⟨by rw [h.1, hU], h.2⟩))⟩
            have E3 : Hidden (∀ x : MW WR, Calls Try.prog 50 #[.pointer (some ⟨mb, 0, none⟩)] x.w fun e w'' => e = .returned (.int .i64 ct) ∧ ∃ y : MW WR, w'' = y.w) := ⟨fun x => x.call (HTK.out x.w x.m).2⟩
            have E4 : Hidden (∀ x : MW WR, Calls Try.prog 51 #[.int .u8 d] x.w fun e w'' => e = .returned (.int .i64 sn) ∧ ∃ y : MW WR, w'' = y.w) := ⟨fun x => by have := x.same (steps14 d x.w HDK.out.1); rw [hsn] at this; exact this⟩
            have cx : ∀ x : MW WR, x.w.cell? ⟨xb, 0, none⟩ = some (.pointer (some ⟨mb, 0, none⟩)) := fun x => (HTK.out x.w x.m).1
            have ca : ∀ x : MW WR, x.w.cell? ⟨q1, 0, none⟩ = some (.int .u8 d) := fun x => x.cell (HBW.out.2.2.cell 0)
            have cg0 : ∀ x : MW WR, x.w.cell? ⟨q3, 0, none⟩ = some (.int .i64 E1) := fun x => x.cell (HBW.out.1.cell 0)
            have cg1 : ∀ x : MW WR, x.w.cell? ⟨q3, 1, none⟩ = some (.int .u64 K1) := fun x => x.cell (HBW.out.1.cell 1)
            have cg2 : ∀ x : MW WR, x.w.cell? ⟨q3, 2, none⟩ = some (.bool T1) := fun x => x.cell (HBW.out.1.cell 2)
            have cw0 : ∀ x : MW WR, x.w.cell? ⟨q2, 0, none⟩ = some (.int .i64 E1) := fun x => x.cell (HBW.out.2.1.cell 0)
            have cw1 : ∀ x : MW WR, x.w.cell? ⟨q2, 1, none⟩ = some (.int .u64 K1) := fun x => x.cell (HBW.out.2.1.cell 1)
            have cw2 : ∀ x : MW WR, x.w.cell? ⟨q2, 2, none⟩ = some (.bool T1) := fun x => x.cell (HBW.out.2.1.cell 2)
            have hke : ∀ w, (Op.equalIn 10000 72 (.agg #[.int .i64 E1, .int .u64 K1, .bool T1]) (.agg #[.int .i64 E1, .int .u64 K1, .bool T1])).run Try.prog w = .ok true w := fun w => ans_eq (E1, K1, T1) w
            have hkg := fun op A B x y w => ans_guard op A B x y w
            clear htk hct hU hsn a0 g0 g1 g2 hw5 hq3
            refine wp_class (MW.w (w := WR)) (MW.drew0 WR) (by rw [← hWR]; rfl) (by kernel_rfl) (by kernel_rfl) ?_
            repeat (go_big_quiet_step (first | (go_at_call 36; exact E1'.out _) | (go_at_call 49; exact E2.out _) | (go_at_call 50; exact E3.out _) | (go_at_call 51; exact E4.out _)))
            refine wpQuiet_nil ?_
            intro _ hw'; obtain ⟨x, hw''⟩ := hw'; subst hw''
            go_wp2_with fail
            go_roundw
            case rel => exact ⟨Y1, _, _, i + 1, by omega, by omega, by have := HYL.out; omega, by go_num, HXW.out.news x.m⟩
            case measure => simp [intOf]; omega
          · have hd2 : decide (d % 9 < 2) = true := decide_eq_true hs.1
            have he0 : (E1 == 0) = false := beq_eq_false_iff_ne.2 hs.2
            clear hs
            go_wp2_with fail
            have HXW := Hidden.mk (HX5.out.news (Mod.refl [] w5))
            obtain ⟨WR, hWR⟩ : ∃ WR, w5 = WR := ⟨_, rfl⟩
            rw [hWR] at HXW
            have HBW : Hidden (Blk WR q3 72 #[.int .i64 E1, .int .u64 K1, .bool T1] ∧ Blk WR q2 72 #[.int .i64 E1, .int .u64 K1, .bool T1] ∧ Blk WR q1 70 #[.int .u8 d, .int .u64 k]) := ⟨by rw [← hWR]; exact HB5.out.1.mod (Mod.refl [] w5) (by simp), by rw [← hWR]; exact HB5.out.2.1.mod (Mod.refl [] w5) (by simp), by rw [← hWR]; exact HB5.out.2.2.1.mod (Mod.refl [] w5) (by simp)⟩
            obtain ⟨mb, ct, hct, htk⟩ := xm_taken HXW.out.x
            have HTK := Hidden.mk htk
            obtain ⟨U, hU⟩ : ∃ U, useK Y1 = U := ⟨_, rfl⟩
            have hgt : decide ((M : Int) < (U : Int)) = false := decide_eq_false (by have := HXW.out.x.facts.2.2.1; omega)
            have hgt' : decide (M < U) = false := decide_eq_false (by have := HXW.out.x.facts.2.2.1; omega)
            obtain ⟨sn, hsn⟩ : ∃ sn, stepsN d = sn := ⟨_, rfl⟩
            have hst : decide (sn < (ct : Int)) = false := decide_eq_false (by have := HB5.out.2.2.2; rw [hsn] at this; omega)
            have E1' : Hidden (∀ x : MW WR, Calls Try.prog 36 #[.pointer (some ⟨xb, 0, none⟩)] x.w fun e w'' => e = .returned (.int .i64 U) ∧ ∃ y : MW WR, w'' = y.w) := ⟨fun x => x.call ((xm_used (HXW.out.x.news x.m)).mono (fun e w' h => ⟨by rw [h.1, hU], h.2.2⟩))⟩
            have E2 : Hidden (∀ x : MW WR, Calls Try.prog 49 #[.slice p2 Y1.length c2] x.w fun e w'' => e = .returned (.int .i64 U) ∧ ∃ y : MW WR, w'' = y.w) := ⟨fun x => x.drawn ((xfast11 (HXW.out.news x.m).isl (by have := HYL.out; omega) HXW.out.x.facts.2.1).mono (fun e w' h => ⟨by rw [h.1, hU], h.2⟩))⟩
            have E3 : Hidden (∀ x : MW WR, Calls Try.prog 50 #[.pointer (some ⟨mb, 0, none⟩)] x.w fun e w'' => e = .returned (.int .i64 ct) ∧ ∃ y : MW WR, w'' = y.w) := ⟨fun x => x.call (HTK.out x.w x.m).2⟩
            have E4 : Hidden (∀ x : MW WR, Calls Try.prog 51 #[.int .u8 d] x.w fun e w'' => e = .returned (.int .i64 sn) ∧ ∃ y : MW WR, w'' = y.w) := ⟨fun x => by have := x.same (steps14 d x.w HDK.out.1); rw [hsn] at this; exact this⟩
            have cx : ∀ x : MW WR, x.w.cell? ⟨xb, 0, none⟩ = some (.pointer (some ⟨mb, 0, none⟩)) := fun x => (HTK.out x.w x.m).1
            have ca : ∀ x : MW WR, x.w.cell? ⟨q1, 0, none⟩ = some (.int .u8 d) := fun x => x.cell (HBW.out.2.2.cell 0)
            have cg0 : ∀ x : MW WR, x.w.cell? ⟨q3, 0, none⟩ = some (.int .i64 E1) := fun x => x.cell (HBW.out.1.cell 0)
            have cg1 : ∀ x : MW WR, x.w.cell? ⟨q3, 1, none⟩ = some (.int .u64 K1) := fun x => x.cell (HBW.out.1.cell 1)
            have cg2 : ∀ x : MW WR, x.w.cell? ⟨q3, 2, none⟩ = some (.bool T1) := fun x => x.cell (HBW.out.1.cell 2)
            have cw0 : ∀ x : MW WR, x.w.cell? ⟨q2, 0, none⟩ = some (.int .i64 E1) := fun x => x.cell (HBW.out.2.1.cell 0)
            have cw1 : ∀ x : MW WR, x.w.cell? ⟨q2, 1, none⟩ = some (.int .u64 K1) := fun x => x.cell (HBW.out.2.1.cell 1)
            have cw2 : ∀ x : MW WR, x.w.cell? ⟨q2, 2, none⟩ = some (.bool T1) := fun x => x.cell (HBW.out.2.1.cell 2)
            have hke : ∀ w, (Op.equalIn 10000 72 (.agg #[.int .i64 E1, .int .u64 K1, .bool T1]) (.agg #[.int .i64 E1, .int .u64 K1, .bool T1])).run Try.prog w = .ok true w := fun w => ans_eq (E1, K1, T1) w
            have hkg := fun op A B x y w => ans_guard op A B x y w
            clear htk hct hU hsn a0 g0 g1 g2 hw5 hq3
            refine wp_class (MW.w (w := WR)) (MW.drew0 WR) (by rw [← hWR]; rfl) (by kernel_rfl) (by kernel_rfl) ?_
            repeat (go_big_quiet_step (first | (go_at_call 36; exact E1'.out _) | (go_at_call 49; exact E2.out _) | (go_at_call 50; exact E3.out _) | (go_at_call 51; exact E4.out _)))
            refine wpQuiet_nil ?_
            intro _ hw'; obtain ⟨x, hw''⟩ := hw'; subst hw''
            go_wp2_with fail
            go_roundw
            case rel => exact ⟨Y1, _, _, i + 1, by omega, by omega, by have := HYL.out; omega, by go_num, HXW.out.news x.m⟩
            case measure => simp [intOf]; omega
          · have hd2 : decide (d % 9 < 2) = true := decide_eq_true hs.1
            have he0 : (E1 == 0) = true := by rw [hs.2]; rfl
            have HXF := Hidden.mk (xfast11 HX5.out.isl (by have := HYL.out; omega) HX5.out.x.facts.2.1)
            obtain ⟨U, hU⟩ : ∃ U, useK Y1 = U := ⟨_, rfl⟩
            rw [hU] at HXF HUL
            have hgt : decide ((M : Int) < (U : Int)) = false := decide_eq_false (by have := HUL.out; omega)
            have hgt' : decide (M < U) = false := decide_eq_false (by have := HUL.out; omega)
            have HUU := Hidden.mk hU
            clear hs hU
            go_wp2_with fail
            refine HXF.out.mono ?_
            rintro e w6 ⟨rfl, qd, rfl⟩
            go_wp2_with fail
            have HXW := Hidden.mk (HX5.out.news ((Mod.refl [] w5).drewN qd))
            obtain ⟨WR, hWR⟩ : ∃ WR, w5.drewN qd = WR := ⟨_, rfl⟩
            rw [hWR] at HXW
            have HBW : Hidden (Blk WR q3 72 #[.int .i64 E1, .int .u64 K1, .bool T1] ∧ Blk WR q2 72 #[.int .i64 E1, .int .u64 K1, .bool T1] ∧ Blk WR q1 70 #[.int .u8 d, .int .u64 k]) := ⟨by rw [← hWR]; exact HB5.out.1.mod ((Mod.refl [] w5).drewN qd) (by simp), by rw [← hWR]; exact HB5.out.2.1.mod ((Mod.refl [] w5).drewN qd) (by simp), by rw [← hWR]; exact HB5.out.2.2.1.mod ((Mod.refl [] w5).drewN qd) (by simp)⟩
            obtain ⟨mb, ct, hct, htk⟩ := xm_taken HXW.out.x
            have HTK := Hidden.mk htk
            have hU := HUU.out
            obtain ⟨sn, hsn⟩ : ∃ sn, stepsN d = sn := ⟨_, rfl⟩
            have hst : decide (sn < (ct : Int)) = false := decide_eq_false (by have := HB5.out.2.2.2; rw [hsn] at this; omega)
            have E1' : Hidden (∀ x : MW WR, Calls Try.prog 36 #[.pointer (some ⟨xb, 0, none⟩)] x.w fun e w'' => e = .returned (.int .i64 U) ∧ ∃ y : MW WR, w'' = y.w) := ⟨fun x => x.call ((xm_used (HXW.out.x.news x.m)).mono (fun e w' h => ⟨by rw [h.1, hU], h.2.2⟩))⟩
            have E2 : Hidden (∀ x : MW WR, Calls Try.prog 49 #[.slice p2 Y1.length c2] x.w fun e w'' => e = .returned (.int .i64 U) ∧ ∃ y : MW WR, w'' = y.w) := ⟨fun x => x.drawn ((xfast11 (HXW.out.news x.m).isl (by have := HYL.out; omega) HXW.out.x.facts.2.1).mono (fun e w' h => ⟨by rw [h.1, hU], h.2⟩))⟩
            have E3 : Hidden (∀ x : MW WR, Calls Try.prog 50 #[.pointer (some ⟨mb, 0, none⟩)] x.w fun e w'' => e = .returned (.int .i64 ct) ∧ ∃ y : MW WR, w'' = y.w) := ⟨fun x => x.call (HTK.out x.w x.m).2⟩
            have E4 : Hidden (∀ x : MW WR, Calls Try.prog 51 #[.int .u8 d] x.w fun e w'' => e = .returned (.int .i64 sn) ∧ ∃ y : MW WR, w'' = y.w) := ⟨fun x => by have := x.same (steps14 d x.w HDK.out.1); rw [hsn] at this; exact this⟩
            have cx : ∀ x : MW WR, x.w.cell? ⟨xb, 0, none⟩ = some (.pointer (some ⟨mb, 0, none⟩)) := fun x => (HTK.out x.w x.m).1
            have ca : ∀ x : MW WR, x.w.cell? ⟨q1, 0, none⟩ = some (.int .u8 d) := fun x => x.cell (HBW.out.2.2.cell 0)
            have cg0 : ∀ x : MW WR, x.w.cell? ⟨q3, 0, none⟩ = some (.int .i64 E1) := fun x => x.cell (HBW.out.1.cell 0)
            have cg1 : ∀ x : MW WR, x.w.cell? ⟨q3, 1, none⟩ = some (.int .u64 K1) := fun x => x.cell (HBW.out.1.cell 1)
            have cg2 : ∀ x : MW WR, x.w.cell? ⟨q3, 2, none⟩ = some (.bool T1) := fun x => x.cell (HBW.out.1.cell 2)
            have cw0 : ∀ x : MW WR, x.w.cell? ⟨q2, 0, none⟩ = some (.int .i64 E1) := fun x => x.cell (HBW.out.2.1.cell 0)
            have cw1 : ∀ x : MW WR, x.w.cell? ⟨q2, 1, none⟩ = some (.int .u64 K1) := fun x => x.cell (HBW.out.2.1.cell 1)
            have cw2 : ∀ x : MW WR, x.w.cell? ⟨q2, 2, none⟩ = some (.bool T1) := fun x => x.cell (HBW.out.2.1.cell 2)
            have hke : ∀ w, (Op.equalIn 10000 72 (.agg #[.int .i64 E1, .int .u64 K1, .bool T1]) (.agg #[.int .i64 E1, .int .u64 K1, .bool T1])).run Try.prog w = .ok true w := fun w => ans_eq (E1, K1, T1) w
            have hkg := fun op A B x y w => ans_guard op A B x y w
            clear htk hct hU hsn a0 g0 g1 g2 hw5 hq3
            refine wp_class (MW.w (w := WR)) (MW.drew0 WR) (by rw [← hWR]; rfl) (by kernel_rfl) (by kernel_rfl) ?_
            repeat (go_big_quiet_step (first | (go_at_call 36; exact E1'.out _) | (go_at_call 49; exact E2.out _) | (go_at_call 50; exact E3.out _) | (go_at_call 51; exact E4.out _)))
            refine wpQuiet_nil ?_
            intro _ hw'; obtain ⟨x, hw''⟩ := hw'; subst hw''
            go_wp2_with fail
            go_roundw
            case rel => exact ⟨Y1, _, _, i + 1, by omega, by omega, by have := HYL.out; omega, by go_num, HXW.out.news x.m⟩
            case measure => simp [intOf]; omega
    · obtain rfl : i = len2 := by omega
      have din : decide ((i : Int) < (i : Int)) = false := decide_eq_false (by omega)
      obtain ⟨WB, rfl⟩ : ∃ W, W = wr := ⟨_, rfl⟩
      have HX := Hidden.mk hX
      clear hX HO
      have hKw : IntKind.i64.wrap (1 + stop % 5) = (K : Int) := by rw [HKK.out.1]; exact IntWalk.i64_in _ (by have := HKK.out.2.1; omega)
      have hKe := HKK.out.1
      obtain ⟨hs0, hs1⟩ := HKK.out.2.2
      obtain ⟨N, hN⟩ : ∃ N, min Y.length K = N := ⟨_, rfl⟩
      have hmin : min (Y.length : Int) (K : Int) = (N : Int) := by omega
      go_wp2_with fail
      have HT2 : Hidden (Y.take N = Y.take K) := ⟨by rw [← hN]; rcases Nat.le_total Y.length K with h | h; rw [Nat.min_eq_left h, List.take_length, List.take_of_length_le h]; rw [Nat.min_eq_right h]⟩
      have hNle : N ≤ Y.length := by rw [← hN]; exact Nat.min_le_left _ _
      have HS := Hidden.mk (fun W (hW : Mod [] WB W) => same14 (HX.out.x.news hW) (by omega) (HX.out.news hW).isl (by omega))
      rw [decide_eq_true rfl] at HS
      have HAL := Hidden.mk (fun W (hW : Mod [] WB W) => all14 (HX.out.x.news hW) (by omega) K HKK.out.2.1.1 (by have := HKK.out.2.1.2; omega))
      have hcl : Y.length ≤ cl := by have h1 := HX.out.isl; obtain ⟨a', c', e1, e2, -⟩ := h1.slice_; injection e1 with e3 e4 e5; omega
      have HTK := Hidden.mk (fun W (hW : Mod [] WB W) => (HX.out.news hW).isl.take hNle)
      have HNL : Hidden ((Y.take N).length = N) := ⟨by rw [List.length_take]; omega⟩
      have HKN : Hidden ((List.take K Y).length = N) := ⟨by rw [← HT2.out]; exact HNL.out⟩
      have HKL : Hidden ((List.take K Y).length ≤ 1000000) := ⟨by rw [List.length_take]; exact Nat.le_trans (Nat.min_le_right _ _) (by omega)⟩
      have n0 : (0 : Int) ≤ (N : Int) := by omega
      have n1 : N ≤ cl := by omega
      have HMF := Hidden.mk HX.out.x.facts.2.2.2.2
      clear hN hNle hcl
      refine wp_region_pick (C := fun W => Mod [] WB W) [(0, true), (1, true), (2, false), (3, true), (4, true), (5, true), (7, true), (8, true), (9, true), (10, true), (11, true), (12, true), (6, false), (13, false), (14, true), (15, true), (16, true), (18, true), (17, false), (19, true), (20, true), (21, true)] (by kernel_rfl) (by kernel_rfl) (Mod.refl [] WB).drew ?_
      refine pick_move _ rfl (.inl rfl) (by kernel_rfl) ?_
      go_simp
      refine pick_move _ rfl (.inl rfl) (by kernel_rfl) ?_
      go_simp
      refine pick_call (f := 33) (args := #[.pointer (some ⟨xb, 0, none⟩), .slice pl Y.length cl]) rfl (by kernel_rfl) (by first | kernel_rfl | simp [go_sem]) ?_
      refine (HS.out _ (Mod.refl [] WB).drew).mono ?_
      rintro e y1 ⟨rfl, ym1⟩
      have Z1 : Hidden (Mod [] WB y1) := ⟨(Mod.refl [] WB).drew.trans ym1 (by simp)⟩
      clear ym1
      refine ⟨_, rfl, Z1.out, ?_⟩
      go_simp
      refine pick_move _ rfl (.inl rfl) (by kernel_rfl) ?_
      go_simp
      refine pick_move _ rfl (.inl rfl) (by kernel_rfl) ?_
      go_simp
      refine pick_move _ rfl (.inl rfl) (by kernel_rfl) ?_
      go_simp
      refine pick_move _ rfl (.inl rfl) (by kernel_rfl) ?_
      go_simp
      refine pick_move _ rfl (.inl rfl) (by kernel_rfl) ?_
      go_simp
      refine pick_still (.int .i64 (Y.length : Nat)) rfl (by kernel_rfl) (fun W => by simp [go_sem, hmin, n0, n1]) ?_
      go_simp
      refine pick_move _ rfl (.inl rfl) (by kernel_rfl) ?_
      go_simp
      refine pick_still (.int .i64 (N : Nat)) rfl (by kernel_rfl) (fun W => run_min (.tmp 115) (.tmp 116) (Y.length : Nat) (K : Nat) (N : Nat) hmin W rfl (by first | rfl | go_simp) (by first | rfl | go_simp)) ?_
      go_simp
      refine pick_still (.slice pl N cl) rfl (by kernel_rfl) (fun W => run_slice_hi (.tmp 113) (.tmp 117) pl Y.length cl N W rfl (by first | rfl | go_simp) (by first | rfl | go_simp) n1) ?_
      go_simp
      refine pick_call (f := 46) (args := #[.pointer (some ⟨xb, 0, none⟩), .int .i64 K]) rfl (by kernel_rfl) (by first | kernel_rfl | simp [go_sem]) ?_
      refine (HAL.out _ Z1.out).mono ?_
      rintro e y2 ⟨yv, rfl, yh, ym2, -⟩
      have Z2 : Hidden (Mod [] WB y2) := ⟨Z1.out.trans ym2 (by simp)⟩
      obtain ⟨ya, yc, rfl, -⟩ := yh.slice_
      rw [HKN.out] at yh ⊢
      have ZH := Hidden.mk yh
      clear ym2 yh
      refine ⟨_, rfl, Z2.out, ?_⟩
      go_simp
      refine pick_call (f := 40) (args := #[.slice ya N yc, .slice pl N cl]) rfl (by kernel_rfl) (by first | kernel_rfl | simp [go_sem]) ?_
      refine (same01 ZH.out (HTK.out _ Z2.out) HKL.out (by rw [HNL.out]; omega)).mono ?_
      rintro e y3 ⟨rfl, yq, rfl⟩
      rw [decide_eq_true HT2.out.symm]
      refine ⟨_, rfl, Z2.out.drewN yq, ?_⟩
      go_simp
      refine pick_still (.bool true) rfl (by kernel_rfl) (fun W => by simp [go_sem, hmin, n0, n1]) ?_
      go_simp
      refine pick_move _ rfl (.inl rfl) (by kernel_rfl) ?_
      go_simp
      refine pick_move _ rfl (.inl rfl) (by kernel_rfl) ?_
      go_simp
      refine pick_move _ rfl (.inl rfl) (by kernel_rfl) ?_
      go_simp
      refine pick_call (f := 45) (args := #[.pointer (some ⟨xb, 0, none⟩)]) rfl (by kernel_rfl) (by first | kernel_rfl | simp [go_sem]) ?_
      refine (xm_limit (HX.out.x.news (Z2.out.drewN yq))).mono ?_
      rintro e y4 ⟨rfl, rfl⟩
      refine ⟨_, rfl, Z2.out.drewN yq, ?_⟩
      go_simp
      refine pick_still (.bool true) rfl (by kernel_rfl) (fun W => by simp [go_sem, hmin, n0, n1]) ?_
      go_simp
      refine pick_still (.bool true) rfl (by kernel_rfl) (fun W => by simp [go_sem, hmin, n0, n1]) ?_
      go_simp
      refine pick_move _ rfl (.inr rfl) (by kernel_rfl) ?_
      go_simp
      refine pick_nil ?_
      go_wp2_with fail
      go_ret
      exact ⟨rfl, (HMF.out.trans (Z2.out.drewN yq) (by simp)).below (Nat.le_refl _) (by simp)⟩
end Go.Proofs.Ytfioekkegihkoaa
