/- The walk of HashSeeds. -/
import Derived.Test.YtnbanbfnabhjjaaHashHeld
namespace Go.Proofs.Ytnbanbfnabhjjaa
open Go.RowKit
set_option linter.unusedVariables false
set_option linter.unusedSimpArgs false
set_option maxRecDepth 100000 in
set_option maxHeartbeats 8000000 in
theorem hashSeeds_walk (a0 a1 : Int) (a2 : Option Addr) (len2 cap2 : Nat) (z2 : Nat → Nat → Int) (w0 : (Lit.int .u64 a0).wf = true) (w1 : (Lit.int .u64 a1).wf = true) (w : World) (w2 : StRow [.u8, .u8, .u64, .u64] w a2 len2 cap2 z2) :
    Calls Try.prog 13 #[.int .u64 a0, .int .u64 a1, .slice a2 len2 cap2] w fun e w' => e = .returned (.bool true) ∧ Below w.heap.size w w' := by
  have hle2 := w2.le
  clear w0 w1
  go_enter Try.func13, Try.ntmps13
  go_wp2_with fail
  refine (awake5 w w (Below.refl _ _)).mono ?_; rintro e wa ⟨rfl, hB⟩
  go_wp2_with fail
  refine (hash_new_nil a0 wa).mono ?_
  rintro e wb ⟨tb, F, rfl, hT, hM, hd, hMb, hF⟩
  have hBs := hB.size
  have hP : PlayH w wb tb wa.heap.size 3 F 0 [] Mt.zero (.slice none 0 0) :=
    ⟨⟨hT, hM, hd, Row.nil_ _ _ _, by simp [rb, Value.ownBlock], by simp [RiseE]⟩, hB.trans (hMb.below hBs (by simp)), hBs, fun k hk => by have := hF k hk; omega, by simp [rb, Value.ownBlock]⟩
  have HP := Hidden.mk hP
  clear hT hM hd hMb hF hB hP hBs
  generalize wa.heap.size = mb at *
  go_wp2_with fail
  refine (hash_new_nil a1 wb).mono ?_
  rintro e wc ⟨tb2, F2, rfl, hT, hM, hd, hMb, hF⟩
  have hBs := HP.out.below.size
  have hH : TwoH w wc tb mb 3 F 0 [] Mt.zero (.slice none 0 0) tb2 wb.heap.size 3 F2 0 [] Mt.zero (.slice none 0 0) := by
    refine ⟨HP.out.mod0 hMb, ⟨⟨hT, hM, hd, Row.nil_ _ _ _, by simp [rb, Value.ownBlock], by simp [RiseE]⟩, HP.out.below.trans (hMb.below hBs (by simp)), hBs, fun k hk => by have := hF k hk; omega, by simp [rb, Value.ownBlock]⟩, fun k hk hk2 => ?_, fun k hk hk2 => ?_⟩
    · have h1 := HP.out.olt hk
      rcases List.mem_cons.1 hk2 with rfl | h2
      · omega
      · have := hF _ h2; omega
    · have h1 := HP.out.olt (.inl hk2)
      rcases hk with hk | hk
      · rcases List.mem_cons.1 hk with rfl | h2
        · omega
        · have := hF _ h2; omega
      · simp [rb, Value.ownBlock] at hk
  have HH := Hidden.mk hH
  clear hT hM hd hMb hF hH hBs HP
  generalize wb.heap.size = mb2 at *
  go_wp2_with fail
  go_loopw [9, 10, 23] (fun v1 v2 iv wr => ∃ (i : Nat) (bo : Option Addr) (co : Nat) (bo2 : Option Addr) (co2 b : Nat) (F : List Nat) (pr : Int) (m : Mt) (b2 : Nat) (F2 : List Nat) (pr2 : Int) (m2 : Mt) (l : EL), i ≤ len2 ∧ i ≤ 80 ∧ l.length ≤ i ∧ iv = .int .i64 i ∧ v1 = .slice bo l.length co ∧ v2 = .slice bo2 l.length co2 ∧ TwoH w wr tb mb b F pr l m v1 tb2 mb2 b2 F2 pr2 l m2 v2) (fun _ _ iv _ => len2 - (intOf iv).toNat)
  case atStart => exact ⟨0, none, 0, none, 0, 3, F, 0, _, 3, F2, 0, _, [], by omega, by omega, by simp, rfl, rfl, rfl, HH.out⟩
  case round =>
    clear HH
    obtain ⟨i, bo, co, bo2, co2, b, F, pr, m, b2, F2, pr2, m2, l, hi, hi2, hll, rfl, rfl, rfl, hH⟩ := hrel
    by_cases hgo : i < len2 ∧ i < 80
    · obtain ⟨hlt, h80⟩ := hgo
      obtain ⟨ab, aoff, rfl, hab, hcs⟩ := w2.at_ (by omega) (by simp)
      obtain ⟨hc0, hw0⟩ := hcs i hlt 0 .u8 rfl
      obtain ⟨hc1, hw1⟩ := hcs i hlt 1 .u8 rfl
      obtain ⟨hc2, hw2⟩ := hcs i hlt 2 .u64 rfl
      obtain ⟨hc3, hw3⟩ := hcs i hlt 3 .u64 rfl
      have hB := hH.p.below
      have c0 : wr.cell? ⟨ab, aoff + i * 4, none⟩ = some (.int .u8 (z2 i 0)) := (hB.cell (p := ⟨ab, aoff + i * 4, none⟩) hab).trans hc0
      have c1 : wr.cell? ⟨ab, aoff + i * 4 + 1, none⟩ = some (.int .u8 (z2 i 1)) := (hB.cell (p := ⟨ab, aoff + i * 4 + 1, none⟩) hab).trans hc1
      have c2 : wr.cell? ⟨ab, aoff + i * 4 + 2, none⟩ = some (.int .u64 (z2 i 2)) := (hB.cell (p := ⟨ab, aoff + i * 4 + 2, none⟩) hab).trans hc2
      have c3 : wr.cell? ⟨ab, aoff + i * 4 + 3, none⟩ = some (.int .u64 (z2 i 3)) := (hB.cell (p := ⟨ab, aoff + i * 4 + 3, none⟩) hab).trans hc3
      have d0 := bounds_u8 hw0
      have d1 := bounds_u8 hw1
      have d2 := bounds_u64 hw2
      generalize z2 i 0 = dd at *
      generalize z2 i 1 = lv at *
      generalize z2 i 2 = px at *
      generalize z2 i 3 = vv at *
      clear hcs hc0 hc1 hc2 hc3 hw0 hw1 hw2 hw3 hB w2
      have hkey : KeyOK (lv, px) := ⟨d1.1, by omega, ⟨by omega⟩⟩
      have hP1 := hH.mod0 ((Mod.refl [] wr).alloc (.cells #[.int .u8 dd, .int .u8 lv, .int .u64 px, .int .u64 vv] 104))
      have hbk := Blk.new wr 104 #[.int .u8 dd, .int .u8 lv, .int .u64 px, .int .u64 vv]
      have hnb : wr.heap.size ∉ mb :: F := fun hk => by have := hH.p.olt (.inl hk); omega
      have hdo := hP1.did (do_any dd lv px vv hP1.p.p (by omega) d0 hkey)
      have hl2 := actE_len l dd (lv, px) vv
      have hdo2 := fun (W : World) (bo co b' : Nat) => True
      have HB := Hidden.mk (And.intro hbk (And.intro hnb (And.intro hkey d0)))
      have hd80 : decide ((80 : Int) ≤ (i : Int)) = false := by simp; omega
      clear hH hP1 hbk hnb hkey hdo2 d0 d1 d2
      go_wp2_with fail
      refine hdo.mono ?_; clear hdo
      rintro e w3 ⟨bo3, co3, b3, F3, pr3, rfl, hH, hmod⟩
      have hbk3 := HB.out.1.mod hmod HB.out.2.1
      have e0 : w3.cell? ⟨wr.heap.size, 0, none⟩ = some (.int .u8 dd) := hbk3.cell 0
      have e1 : w3.cell? ⟨wr.heap.size, 1, none⟩ = some (.int .u8 lv) := hbk3.cell 1
      have e2 : w3.cell? ⟨wr.heap.size, 2, none⟩ = some (.int .u64 px) := hbk3.cell 2
      have e3 : w3.cell? ⟨wr.heap.size, 3, none⟩ = some (.int .u64 vv) := hbk3.cell 3
      have hdo := hH.swap.did (do_any dd lv px vv hH.swap.p.p (by omega) HB.out.2.2.2 HB.out.2.2.1)
      generalize actE l dd (lv, px) vv = l2 at *
      clear hH hmod hbk3
      go_wp2_with fail
      refine hdo.mono ?_; clear hdo
      rintro e w4 ⟨bo4, co4, b4, F4, pr4, rfl, hH, _⟩
      have HP2 := Hidden.mk hH.swap
      clear hH
      go_wp2_with fail
      go_roundw
      case rel => exact ⟨i + 1, bo3, co3, bo4, co4, _, _, _, _, _, _, _, _, l2, by omega, by omega, by omega, by go_num, rfl, rfl, HP2.out⟩
      case measure => simp [intOf]; omega
    · rcases Nat.lt_or_ge i len2 with hlt | hge
      · have h80 : i = 80 := by omega
        subst h80
        obtain ⟨ab, aoff, rfl, hab, hcs⟩ := w2.at_ (by omega) (by simp)
        obtain ⟨hc0, hw0⟩ := hcs 80 hlt 0 .u8 rfl
        obtain ⟨hc1, hw1⟩ := hcs 80 hlt 1 .u8 rfl
        obtain ⟨hc2, hw2⟩ := hcs 80 hlt 2 .u64 rfl
        obtain ⟨hc3, hw3⟩ := hcs 80 hlt 3 .u64 rfl
        have hB := hH.p.below
        have c0 : wr.cell? ⟨ab, aoff + 80 * 4, none⟩ = some (.int .u8 (z2 80 0)) := (hB.cell (p := ⟨ab, aoff + 80 * 4, none⟩) hab).trans hc0
        have c1 : wr.cell? ⟨ab, aoff + 80 * 4 + 1, none⟩ = some (.int .u8 (z2 80 1)) := (hB.cell (p := ⟨ab, aoff + 80 * 4 + 1, none⟩) hab).trans hc1
        have c2 : wr.cell? ⟨ab, aoff + 80 * 4 + 2, none⟩ = some (.int .u64 (z2 80 2)) := (hB.cell (p := ⟨ab, aoff + 80 * 4 + 2, none⟩) hab).trans hc2
        have c3 : wr.cell? ⟨ab, aoff + 80 * 4 + 3, none⟩ = some (.int .u64 (z2 80 3)) := (hB.cell (p := ⟨ab, aoff + 80 * 4 + 3, none⟩) hab).trans hc3
        generalize z2 80 0 = dd at *
        generalize z2 80 1 = lv at *
        generalize z2 80 2 = px at *
        generalize z2 80 3 = vv at *
        have hH := hH.mod0 ((Mod.refl [] wr).alloc (.cells #[.int .u8 dd, .int .u8 lv, .int .u64 px, .int .u64 vv] 104))
        have hd80 : decide (((80 : Nat) : Int) < (len2 : Int)) = true := by simp; omega
        have hd81 : decide ((80 : Int) < (len2 : Int)) = true := by simp; omega
        clear hcs hc0 hc1 hc2 hc3 hw0 hw1 hw2 hw3 hB w2 hgo
        have HP := Hidden.mk hH
        have hall1 := HP.out.p.all (by omega) 1000 (by omega) (by omega)
        rw [List.take_of_length_le (show l.length ≤ 1000 by omega), show ((1000 : Nat) : Int) = 1000 from rfl] at hall1
        clear hH
        go_wp2_with fail
        refine hall1.mono ?_; clear hall1
        rintro e w5 ⟨bo5, co5, rfl, hr5, hm5⟩
        have hall2 := (HP.out.q.mod0 hm5).all (by omega) 1000 (by omega) (by omega)
        rw [List.take_of_length_le (show l.length ≤ 1000 by omega), show ((1000 : Nat) : Int) = 1000 from rfl] at hall2
        have HR5 := Hidden.mk (And.intro hr5 hm5)
        clear hr5 hm5
        go_wp2_with fail
        refine hall2.mono ?_; clear hall2
        rintro e w6 ⟨bo6, co6, rfl, hr6, hm6⟩
        have hsame := same05 l _ _ w6 (HR5.out.1.mod hm6 (by simp)) hr6
        have HR6 := Hidden.mk (HR5.out.2.trans hm6 (by simp))
        clear hr6 hm6 HR5
        go_wp2_with fail
        refine hsame.mono ?_; clear hsame
        rintro e w7 ⟨rfl, hm7⟩
        have hP7 := HP.out.p.mod0 (HR6.out.trans hm7 (by simp))
        clear hm7 HR6 HP
        have hsize := hP7.size
        have hclr := hash_clear hP7.p.tab
        obtain ⟨r1, r2, r3, r4, _⟩ := hP7.room
        obtain ⟨S, hS⟩ : ∃ S, 2 ^ b = S := ⟨_, rfl⟩
        rw [hS] at hsize r1 r2 r3
        have hd1 : decide ((S : Int) < 8) = false := by simp; omega
        have hd3 : decide (S < 8) = false := by simp; omega
        have HP7 := Hidden.mk hP7
        clear hP7 r1 r4 hS
        go_wp2_with fail
        refine hsize.mono ?_; clear hsize; rintro e w8 ⟨rfl, rfl⟩
        go_wp2_with fail
        refine hclr.mono ?_; clear hclr; rintro e w8 ⟨rfl, F8, hT, hm8, _⟩
        have hlen := hash_len hT
        have hsize := hash_size hT
        have hprob := hash_probes hT
        have hall := all_any hT (by simp [RiseE]) (by simp) 9 (by omega) (by omega)
        have hB8 := HP7.out.below.trans (hm8.below HP7.out.below.size HP7.out.g2)
        have HB8 := Hidden.mk hB8
        rw [show ((2 ^ 3 : Nat) : Int) = 8 from rfl] at hsize
        clear hT hm8 hB8 HP7 hd1 hd3 r2 r3
        go_wp2_with fail
        refine hlen.mono ?_; clear hlen; rintro e w9 ⟨rfl, rfl⟩
        go_wp2_with fail
        refine hsize.mono ?_; clear hsize; rintro e w9 ⟨rfl, rfl⟩
        go_wp2_with fail
        refine hprob.mono ?_; clear hprob; rintro e w9 ⟨rfl, rfl⟩
        go_wp2_with fail
        refine hall.mono ?_; clear hall; rintro e w10 ⟨b10, c10, rfl, _, hB10, _⟩
        have HB10 := Hidden.mk hB10
        clear hB10
        go_wp2_with fail
        go_ret
        exact ⟨rfl, HB8.out.trans (HB10.out.mono HB8.out.size)⟩
      · obtain rfl : i = len2 := by omega
        clear w2 hgo hge
        have HP := Hidden.mk hH
        have hall1 := HP.out.p.all (by omega) 1000 (by omega) (by omega)
        rw [List.take_of_length_le (show l.length ≤ 1000 by omega), show ((1000 : Nat) : Int) = 1000 from rfl] at hall1
        clear hH
        go_wp2_with fail
        refine hall1.mono ?_; clear hall1
        rintro e w5 ⟨bo5, co5, rfl, hr5, hm5⟩
        have hall2 := (HP.out.q.mod0 hm5).all (by omega) 1000 (by omega) (by omega)
        rw [List.take_of_length_le (show l.length ≤ 1000 by omega), show ((1000 : Nat) : Int) = 1000 from rfl] at hall2
        have HR5 := Hidden.mk (And.intro hr5 hm5)
        clear hr5 hm5
        go_wp2_with fail
        refine hall2.mono ?_; clear hall2
        rintro e w6 ⟨bo6, co6, rfl, hr6, hm6⟩
        have hsame := same05 l _ _ w6 (HR5.out.1.mod hm6 (by simp)) hr6
        have HR6 := Hidden.mk (HR5.out.2.trans hm6 (by simp))
        clear hr6 hm6 HR5
        go_wp2_with fail
        refine hsame.mono ?_; clear hsame
        rintro e w7 ⟨rfl, hm7⟩
        have hP7 := HP.out.p.mod0 (HR6.out.trans hm7 (by simp))
        clear hm7 HR6 HP
        have hsize := hP7.size
        have hclr := hash_clear hP7.p.tab
        obtain ⟨r1, r2, r3, r4, _⟩ := hP7.room
        obtain ⟨S, hS⟩ : ∃ S, 2 ^ b = S := ⟨_, rfl⟩
        rw [hS] at hsize r1 r2 r3
        have hd1 : decide ((S : Int) < 8) = false := by simp; omega
        have hd3 : decide (S < 8) = false := by simp; omega
        have HP7 := Hidden.mk hP7
        clear hP7 r1 r4 hS
        go_wp2_with fail
        refine hsize.mono ?_; clear hsize; rintro e w8 ⟨rfl, rfl⟩
        go_wp2_with fail
        refine hclr.mono ?_; clear hclr; rintro e w8 ⟨rfl, F8, hT, hm8, _⟩
        have hlen := hash_len hT
        have hsize := hash_size hT
        have hprob := hash_probes hT
        have hall := all_any hT (by simp [RiseE]) (by simp) 9 (by omega) (by omega)
        have hB8 := HP7.out.below.trans (hm8.below HP7.out.below.size HP7.out.g2)
        have HB8 := Hidden.mk hB8
        rw [show ((2 ^ 3 : Nat) : Int) = 8 from rfl] at hsize
        clear hT hm8 hB8 HP7 hd1 hd3 r2 r3
        go_wp2_with fail
        refine hlen.mono ?_; clear hlen; rintro e w9 ⟨rfl, rfl⟩
        go_wp2_with fail
        refine hsize.mono ?_; clear hsize; rintro e w9 ⟨rfl, rfl⟩
        go_wp2_with fail
        refine hprob.mono ?_; clear hprob; rintro e w9 ⟨rfl, rfl⟩
        go_wp2_with fail
        refine hall.mono ?_; clear hall; rintro e w10 ⟨b10, c10, rfl, _, hB10, _⟩
        have HB10 := Hidden.mk hB10
        clear hB10
        go_wp2_with fail
        go_ret
        exact ⟨rfl, HB8.out.trans (HB10.out.mono HB8.out.size)⟩
end Go.Proofs.Ytnbanbfnabhjjaa
