/- The walk of HashPlays. -/
import Derived.Test.YtnbanbfnabhjjaaHashHeld
namespace Go.Proofs.Ytnbanbfnabhjjaa
open Go.RowKit
set_option linter.unusedVariables false
set_option linter.unusedSimpArgs false
set_option maxRecDepth 100000 in
set_option maxHeartbeats 80000000 in
theorem hashPlays_walk (a0 : Int) (a1 : Option Addr) (len1 cap1 : Nat) (z1 : Nat → Nat → Int) (a2 : Int) (w0 : (Lit.int .u64 a0).wf = true) (w : World) (w1 : StRow [.u8, .u8, .u64, .u64] w a1 len1 cap1 z1) (w2 : (Lit.int .u8 a2).wf = true) :
    Calls Try.prog 15 #[.int .u64 a0, .slice a1 len1 cap1, .int .u8 a2] w fun e w' => e = .returned (.bool true) ∧ Below w.heap.size w w' := by
  have b2 := bounds_u8 w2
  have hle1 := w1.le
  clear w0 w2
  go_enter Try.func15, Try.ntmps15
  go_wp2_with fail
  refine (awake5 w w (Below.refl _ _)).mono ?_; rintro e wa ⟨rfl, hB⟩
  go_wp2_with fail
  refine (meter_new wa).mono ?_; rintro e wb ⟨rfl, hwb⟩
  have hM : MeterAt wb wa.heap.size Mt.zero := by rw [← hwb]; exact MeterAt.new wa
  have hBb : Mod [] wa wb := by rw [← hwb]; exact (Mod.refl [] wa).alloc _
  have hsz : wb.heap.size = wa.heap.size + 1 := by rw [← hwb]; simp
  clear hwb
  go_wp2_with fail
  refine (hash_new wa.heap.size a0 wb).mono ?_
  rintro e wc ⟨tb, F, rfl, hT, hMc, hF⟩
  have hBs := hB.size
  have hP : PlayH w wc tb wa.heap.size 3 F 0 [] Mt.zero (.slice none 0 0) :=
    ⟨⟨hT, hM.mod hMc (by simp), fun hk => by have := hF _ hk; omega, Row.nil_ _ _ _, by simp [rb, Value.ownBlock], by simp [RiseE]⟩, (hB.trans (hBb.below hBs (by simp))).trans (hMc.below (by omega) (by simp)), hBs, fun k hk => by have := hF k hk; omega, by simp [rb, Value.ownBlock]⟩
  have HP := Hidden.mk hP
  clear hM hBb hsz hT hMc hF hB hBs hP
  generalize wa.heap.size = mb at *
  go_wp2_with fail
  go_loopw [9, 10, 24] (fun v gv iv wr => ∃ (i n : Nat) (bo : Option Addr) (co b : Nat) (F : List Nat) (pr : Int) (l : EL) (m : Mt), i ≤ len1 ∧ i ≤ 120 ∧ n ≤ i ∧ l.length ≤ i ∧ iv = .int .i64 i ∧ gv = .int .i64 n ∧ v = .slice bo l.length co ∧ m.calls = n ∧ PlayH w wr tb mb b F pr l m v) (fun _ _ iv _ => len1 - (intOf iv).toNat)
  case atStart => exact ⟨0, 0, none, 0, 3, F, 0, [], _, by omega, by omega, by omega, by simp, rfl, rfl, rfl, rfl, HP.out⟩
  case round =>
    clear HP
    obtain ⟨i, n, bo, co, b, F, pr, l, m, hi, hi2, hn, hll, rfl, rfl, rfl, hmc, hP⟩ := hrel
    by_cases hgo : i < len1 ∧ i < 120
    · obtain ⟨hlt, h120⟩ := hgo
      obtain ⟨ab, aoff, rfl, hab, hcs⟩ := w1.at_ (by omega) (by simp)
      obtain ⟨hc0, hw0⟩ := hcs i hlt 0 .u8 rfl
      obtain ⟨hc1, hw1⟩ := hcs i hlt 1 .u8 rfl
      obtain ⟨hc2, hw2⟩ := hcs i hlt 2 .u64 rfl
      obtain ⟨hc3, hw3⟩ := hcs i hlt 3 .u64 rfl
      have hB := hP.below
      have c0 : wr.cell? ⟨ab, aoff + i * 4, none⟩ = some (.int .u8 (z1 i 0)) := (hB.cell (p := ⟨ab, aoff + i * 4, none⟩) hab).trans hc0
      have c1 : wr.cell? ⟨ab, aoff + i * 4 + 1, none⟩ = some (.int .u8 (z1 i 1)) := (hB.cell (p := ⟨ab, aoff + i * 4 + 1, none⟩) hab).trans hc1
      have c2 : wr.cell? ⟨ab, aoff + i * 4 + 2, none⟩ = some (.int .u64 (z1 i 2)) := (hB.cell (p := ⟨ab, aoff + i * 4 + 2, none⟩) hab).trans hc2
      have c3 : wr.cell? ⟨ab, aoff + i * 4 + 3, none⟩ = some (.int .u64 (z1 i 3)) := (hB.cell (p := ⟨ab, aoff + i * 4 + 3, none⟩) hab).trans hc3
      have d0 := bounds_u8 hw0
      have d1 := bounds_u8 hw1
      have d2 := bounds_u64 hw2
      generalize z1 i 0 = dd at *
      generalize z1 i 1 = lv at *
      generalize z1 i 2 = px at *
      generalize z1 i 3 = vv at *
      clear hcs hc0 hc1 hc2 hc3 hw0 hw1 hw2 hw3 hB w1
      have hkey : KeyOK (lv, px) := ⟨d1.1, by omega, ⟨by omega⟩⟩
      have hP1 := hP.mod0 ((Mod.refl [] wr).alloc (.cells #[.int .u8 dd, .int .u8 lv, .int .u64 px, .int .u64 vv] 104))
      have hbk := Blk.new wr 104 #[.int .u8 dd, .int .u8 lv, .int .u64 px, .int .u64 vv]
      have hnb : wr.heap.size ∉ mb :: F := fun hk => by
        rcases List.mem_cons.1 hk with h1 | h1
        · have := hP.p.met.lt; omega
        · have := hP.p.tab.lt _ h1; omega
      have hdo := hP1.did (do_any dd lv px vv hP1.p (by omega) d0 hkey)
      have hl2 := actE_len l dd (lv, px) vv
      generalize actE l dd (lv, px) vv = l2 at *
      have hnext : Hidden ((if dd % 4 = 3 then m.call else m).calls = if dd % 4 = 3 then (n : Int) + 1 else n) := ⟨by
        split
        · show wrap64 (m.calls + 1) = _; rw [hmc]; unfold wrap64; omega
        · exact hmc⟩
      generalize (if dd % 4 = 3 then m.call else m) = m2 at *
      have HB := Hidden.mk (And.intro hbk hnb)
      have hd120 : decide ((120 : Int) ≤ (i : Int)) = false := by simp; omega
      clear hP hP1 hmc hbk hnb hkey
      go_wp2_with fail
      refine hdo.mono ?_; clear hdo
      rintro e w3 ⟨bo2, co2, b2', F2, pr2, rfl, hP, hmod⟩
      have a0' : w3.cell? ⟨wr.heap.size, 0, none⟩ = some (.int .u8 dd) := (HB.out.1.mod hmod HB.out.2).cell 0
      have hsize := hP.size
      have hlen := hP.len
      obtain ⟨r1, r2, r3, r4, _⟩ := hP.room
      obtain ⟨S, hS⟩ : ∃ S, 2 ^ b2' = S := ⟨_, rfl⟩
      have hand : bits .and .i64 (S : Int) ((S : Int) - 1) = 0 := by rw [and_mask (S : Int) b2' S (by omega) hS.symm]; simp
      rw [hS] at hsize r1 r2 r3
      have HP2 := Hidden.mk hP
      have hd1 : decide ((S : Int) < 8) = false := by simp; omega
      have hd2 : decide ((S : Int) < 2 * (l2.length : Int)) = false := by simp; omega
      have hd3 : decide (S < 8) = false := by simp; omega
      have hd4 : decide (S < 2 * l2.length) = false := by simp; omega
      clear hP hmod r1 r4 hS
      rcases (show dd % 4 = 3 ∨ dd % 4 ≠ 3 by omega) with hq | hq
      · have hqe : (dd % 4 == 3) = true := by simp [hq]
        have HQ := Hidden.mk hq
        clear hq
        go_wp2_with fail
        refine hsize.mono ?_; clear hsize; rintro e w4 ⟨rfl, rfl⟩
        go_wp2_with fail
        refine hlen.mono ?_; clear hlen; rintro e w4 ⟨rfl, rfl⟩
        go_wp2_with fail
        go_roundw
        case rel => exact ⟨i + 1, n + 1, bo2, co2, _, _, _, l2, m2, by omega, by omega, by omega, by omega, by go_num, by go_num, rfl, by rw [hnext.out, if_pos HQ.out]; simp, HP2.out⟩
        case measure => simp [intOf]; omega
      · have hqe : (dd % 4 == 3) = false := by simp [hq]
        have HQ := Hidden.mk hq
        clear hq
        go_wp2_with fail
        refine hsize.mono ?_; clear hsize; rintro e w4 ⟨rfl, rfl⟩
        go_wp2_with fail
        refine hlen.mono ?_; clear hlen; rintro e w4 ⟨rfl, rfl⟩
        go_wp2_with fail
        go_roundw
        case rel => exact ⟨i + 1, n, bo2, co2, _, _, _, l2, m2, by omega, by omega, by omega, by omega, by go_num, rfl, rfl, by rw [hnext.out, if_neg HQ.out], HP2.out⟩
        case measure => simp [intOf]; omega
    · rcases Nat.lt_or_ge i len1 with hlt | hge
      · have h120 : i = 120 := by omega
        subst h120
        obtain ⟨ab, aoff, rfl, hab, hcs⟩ := w1.at_ (by omega) (by simp)
        obtain ⟨hc0, hw0⟩ := hcs 120 hlt 0 .u8 rfl
        obtain ⟨hc1, hw1⟩ := hcs 120 hlt 1 .u8 rfl
        obtain ⟨hc2, hw2⟩ := hcs 120 hlt 2 .u64 rfl
        obtain ⟨hc3, hw3⟩ := hcs 120 hlt 3 .u64 rfl
        have hB := hP.below
        have c0 : wr.cell? ⟨ab, aoff + 120 * 4, none⟩ = some (.int .u8 (z1 120 0)) := (hB.cell (p := ⟨ab, aoff + 120 * 4, none⟩) hab).trans hc0
        have c1 : wr.cell? ⟨ab, aoff + 120 * 4 + 1, none⟩ = some (.int .u8 (z1 120 1)) := (hB.cell (p := ⟨ab, aoff + 120 * 4 + 1, none⟩) hab).trans hc1
        have c2 : wr.cell? ⟨ab, aoff + 120 * 4 + 2, none⟩ = some (.int .u64 (z1 120 2)) := (hB.cell (p := ⟨ab, aoff + 120 * 4 + 2, none⟩) hab).trans hc2
        have c3 : wr.cell? ⟨ab, aoff + 120 * 4 + 3, none⟩ = some (.int .u64 (z1 120 3)) := (hB.cell (p := ⟨ab, aoff + 120 * 4 + 3, none⟩) hab).trans hc3
        generalize z1 120 0 = dd at *
        generalize z1 120 1 = lv at *
        generalize z1 120 2 = px at *
        generalize z1 120 3 = vv at *
        have hP := hP.mod0 ((Mod.refl [] wr).alloc (.cells #[.int .u8 dd, .int .u8 lv, .int .u64 px, .int .u64 vv] 104))
        obtain ⟨WR, hWR⟩ : ∃ W, wr.alloc (.cells #[.int .u8 dd, .int .u8 lv, .int .u64 px, .int .u64 vv] 104) = W := ⟨_, rfl⟩
        rw [hWR] at hP
        have HW := Hidden.mk hWR
        have hd120 : decide (((120 : Nat) : Int) < (len1 : Int)) = true := by simp; omega
        have hd121 : decide ((120 : Int) < (len1 : Int)) = true := by simp; omega
        clear hcs hc0 hc1 hc2 hc3 hw0 hw1 hw2 hw3 hB w1 hgo hWR
        have HP := Hidden.mk hP
        clear hP
        obtain ⟨kk, hkk⟩ : ∃ kk : Nat, 1 + a2 % 5 = (kk : Int) := ⟨(1 + a2 % 5).toNat, by omega⟩
        have hk1 : 1 ≤ kk := by omega
        have hk5 : kk ≤ 5 := by omega
        have hall1 := (HP.out.mod0 (Mod.refl [] WR).drew).all (by omega) 1000 (by omega) (by omega)
        rw [List.take_of_length_le (show l.length ≤ 1000 by omega), show ((1000 : Nat) : Int) = 1000 from rfl] at hall1
        have hall2 := fun W (hW : Mod [] WR W) => (HP.out.mod0 hW).all (by omega) kk hk1 (by omega)
        have hcalls := fun W (hW : Mod [] WR W) => (HP.out.mod0 hW).calls
        rw [hmc] at hcalls
        have hnn : (n : Int) ≤ 120 := by omega
        obtain ⟨q, hqq⟩ : ∃ q : Nat, min l.length kk = q := ⟨_, rfl⟩
        have hql : q ≤ l.length := by omega
        have htk : l.take kk = l.take q := by rw [← hqq, List.take_eq_take_iff]; omega
        obtain ⟨hcut, hcl⟩ := erow_cut HP.out.p.row q hql
        have HC := Hidden.mk (And.intro hcl hcut)
        have hq : q ≤ co := by obtain ⟨_, _, hv, h1, h2⟩ := HP.out.p.row.slice_; injection hv with _ _ e; omega
        have hmin : min (l.length : Int) (kk : Int) = (q : Int) := by omega
        simp only [htk, hcl] at hall2
        clear hmc hqq htk hcut hcl hi hi2 hn hle1
        go_wp2_with fail
        clear hkk b2
        rw [HW.out]
        clear HW hd120 hd121 hlt
        go_region_with (first | (go_at_call 72; (with_reducible refine hall1.mono ?_); rintro e w5 ⟨bo5, co5, rfl, hr5, hm5⟩; have hM5 : Mod [] WR w5 := ((Mod.refl [] WR).drew).trans hm5 (by simp); have hsame1 := same05 l _ _ w5 hr5 (HP.out.p.row.mod hM5 (by simp)); have HM5 := Hidden.mk hM5; clear hall1 hr5 hm5 hM5) | (go_at_call 74; (with_reducible refine hsame1.mono ?_); rintro e w6 ⟨rfl, hm6⟩; have hM6 : Mod [] WR w6 := HM5.out.trans hm6 (by simp); have hall2 := hall2 w6 hM6; have HM6 := Hidden.mk hM6; clear hsame1 hm6 hM6) | (go_at_call 72; (with_reducible refine hall2.mono ?_); rintro e w7 ⟨bo7, co7, rfl, hr7, hm7⟩; have hM7 : Mod [] WR w7 := HM6.out.trans hm7 (by simp); have hsame2 := same05 (l.take q) _ _ w7 hr7 (HC.out.2.mod hM7 (by simp)); have HM7 := Hidden.mk hM7; clear hall2 hr7 hm7 hM7) | (go_at_call 74; (with_reducible refine hsame2.mono ?_); rintro e w8 ⟨rfl, hm8⟩; have hM8 : Mod [] WR w8 := HM7.out.trans hm8 (by simp); have hcalls1 := hcalls w8 hM8; have HM8 := Hidden.mk hM8; clear hsame2 hm8 hM8) | (go_at_call 77; (with_reducible refine hcalls1.mono ?_); rintro e w9 ⟨rfl, hm9⟩; have hM9 : Mod [] WR w9 := HM8.out.trans hm9 (by simp); have hcalls2 := hcalls w9 hM9; have ct9 := (HP.out.mod0 hM9).c0; have HM9 := Hidden.mk hM9; clear hcalls1 hm9 hM9) | (go_at_call 77; (with_reducible refine hcalls2.mono ?_); rintro e w10 ⟨rfl, hm10⟩; have hM10 : Mod [] WR w10 := HM9.out.trans hm10 (by simp); have HM10 := Hidden.mk hM10; clear hcalls2 hm10 hM10))
        all_goals
          go_wp2_with fail
          go_ret
          exact ⟨rfl, (HP.out.mod0 HM10.out).below⟩
      · obtain rfl : i = len1 := by omega
        clear w1 hgo hge
        obtain ⟨WR, rfl⟩ : ∃ W, W = wr := ⟨_, rfl⟩
        have HP := Hidden.mk hP
        clear hP
        obtain ⟨kk, hkk⟩ : ∃ kk : Nat, 1 + a2 % 5 = (kk : Int) := ⟨(1 + a2 % 5).toNat, by omega⟩
        have hk1 : 1 ≤ kk := by omega
        have hk5 : kk ≤ 5 := by omega
        have hall1 := (HP.out.mod0 (Mod.refl [] WR).drew).all (by omega) 1000 (by omega) (by omega)
        rw [List.take_of_length_le (show l.length ≤ 1000 by omega), show ((1000 : Nat) : Int) = 1000 from rfl] at hall1
        have hall2 := fun W (hW : Mod [] WR W) => (HP.out.mod0 hW).all (by omega) kk hk1 (by omega)
        have hcalls := fun W (hW : Mod [] WR W) => (HP.out.mod0 hW).calls
        rw [hmc] at hcalls
        have hnn : (n : Int) ≤ 120 := by omega
        obtain ⟨q, hqq⟩ : ∃ q : Nat, min l.length kk = q := ⟨_, rfl⟩
        have hql : q ≤ l.length := by omega
        have htk : l.take kk = l.take q := by rw [← hqq, List.take_eq_take_iff]; omega
        obtain ⟨hcut, hcl⟩ := erow_cut HP.out.p.row q hql
        have HC := Hidden.mk (And.intro hcl hcut)
        have hq : q ≤ co := by obtain ⟨_, _, hv, h1, h2⟩ := HP.out.p.row.slice_; injection hv with _ _ e; omega
        have hmin : min (l.length : Int) (kk : Int) = (q : Int) := by omega
        simp only [htk, hcl] at hall2
        clear hmc hqq htk hcut hcl hi hi2 hn hle1
        go_wp2_with fail
        clear hkk b2
        go_region_with (first | (go_at_call 72; (with_reducible refine hall1.mono ?_); rintro e w5 ⟨bo5, co5, rfl, hr5, hm5⟩; have hM5 : Mod [] WR w5 := ((Mod.refl [] WR).drew).trans hm5 (by simp); have hsame1 := same05 l _ _ w5 hr5 (HP.out.p.row.mod hM5 (by simp)); have HM5 := Hidden.mk hM5; clear hall1 hr5 hm5 hM5) | (go_at_call 74; (with_reducible refine hsame1.mono ?_); rintro e w6 ⟨rfl, hm6⟩; have hM6 : Mod [] WR w6 := HM5.out.trans hm6 (by simp); have hall2 := hall2 w6 hM6; have HM6 := Hidden.mk hM6; clear hsame1 hm6 hM6) | (go_at_call 72; (with_reducible refine hall2.mono ?_); rintro e w7 ⟨bo7, co7, rfl, hr7, hm7⟩; have hM7 : Mod [] WR w7 := HM6.out.trans hm7 (by simp); have hsame2 := same05 (l.take q) _ _ w7 hr7 (HC.out.2.mod hM7 (by simp)); have HM7 := Hidden.mk hM7; clear hall2 hr7 hm7 hM7) | (go_at_call 74; (with_reducible refine hsame2.mono ?_); rintro e w8 ⟨rfl, hm8⟩; have hM8 : Mod [] WR w8 := HM7.out.trans hm8 (by simp); have hcalls1 := hcalls w8 hM8; have HM8 := Hidden.mk hM8; clear hsame2 hm8 hM8) | (go_at_call 77; (with_reducible refine hcalls1.mono ?_); rintro e w9 ⟨rfl, hm9⟩; have hM9 : Mod [] WR w9 := HM8.out.trans hm9 (by simp); have hcalls2 := hcalls w9 hM9; have ct9 := (HP.out.mod0 hM9).c0; have HM9 := Hidden.mk hM9; clear hcalls1 hm9 hM9) | (go_at_call 77; (with_reducible refine hcalls2.mono ?_); rintro e w10 ⟨rfl, hm10⟩; have hM10 : Mod [] WR w10 := HM9.out.trans hm10 (by simp); have HM10 := Hidden.mk hM10; clear hcalls2 hm10 hM10))
        all_goals
          go_wp2_with fail
          go_ret
          exact ⟨rfl, (HP.out.mod0 HM10.out).below⟩
end Go.Proofs.Ytnbanbfnabhjjaa
