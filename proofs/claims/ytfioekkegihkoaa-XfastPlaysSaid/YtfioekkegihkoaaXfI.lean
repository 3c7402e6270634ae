/- xfast: Insert. -/
import Derived.Test.YtfioekkegihkoaaGXfS
namespace Go.Proofs.Ytfioekkegihkoaa
open Go.RowKit
set_option linter.unusedVariables false
set_option linter.unusedSimpArgs false
set_option maxHeartbeats 8000000 in
set_option maxRecDepth 100000 in
theorem xf_insert {w : World} {xb mb limit : Nat} {F : List Nat} {L : CL} {m : Mt} (k : Int) (hk : 0 ≤ k ∧ k < 18446744073709551616) (h : XfAt w xb mb F limit L) (hm : MeterAt w mb m) (hmb : mb ∉ F) :
    Calls Try.prog 30 #[.pointer (some ⟨xb, 0, none⟩), .int .u64 k] w (InsPost w xb mb F limit L k) := by
  obtain ⟨tb, cb, b0, FT, FC, pr, l, rfl, hI, hT, hU, hK, hN⟩ := h
  have hx := hI.xl hU hK
  have HH := Hidden.mk (xf_has k hk hI hx hT hm hmb)
  have HX := Hidden.mk (And.intro hx (And.intro hT (And.intro hU (And.intro hK (And.intro hN (And.intro hk (And.intro hmb (And.intro hm.lt (And.intro hI.chn.len.2 hI.tab.nodup)))))))))
  have HFR := Hidden.mk (Fresh.refl w (xb :: (FT ++ FC)))
  clear hI hT hU hK hN hm hmb hk hx
  go_enter Try.func30, Try.ntmps30
  go_wp2_with fail
  refine HH.out.mono ?_
  rintro e w1 ⟨rfl, hr1⟩
  by_cases hmem : k ∈ keysC L
  · have HP := Hidden.mk (XfAt.of_rd hr1 HX.out.2.1 HX.out.2.2.1 HX.out.2.2.2.1 HX.out.2.2.2.2.1)
    have HM := Hidden.mk hmem
    rw [decide_eq_true hmem]
    clear hmem hr1 HH
    go_wp2_with fail
    go_ret
    obtain ⟨h1, ⟨m', c, h2, h3, h4⟩, h5⟩ := HP.out
    exact ⟨4, L, _, m', c, rfl, h1, HX.out.2.2.2.2.2.2.1, h2, h3, by omega, h5, fun q hq => .inl hq, .inl ⟨HM.out, rfl, rfl⟩⟩
  rw [decide_eq_false hmem]
  obtain ⟨pr1, m1, c1, hI1, hm1, ht1, hc1, hM1⟩ := hr1
  have HM := Hidden.mk hmem
  have hll : l.length ≤ 1048576 ∧ L.length ≤ 1048576 ∧ limit ≤ 1048576 := by have := HX.out.2.2.2.2.1; have := HX.out.2.2.2.2.2.2.2.2.1; omega
  have hl1 := hI1.blk.lt
  have c13 : w1.cell? ⟨xb, 3, none⟩ = some (.int .i64 limit) := hI1.blk.cell 3
  obtain ⟨U, hUe⟩ : ∃ U : Int, ((l.length + L.length : Nat) : Int) = U := ⟨_, rfl⟩
  have hUb : 0 ≤ U ∧ U ≤ 1048576 := by have := HX.out.2.2.2.2.1; have := HX.out.2.2.2.2.2.2.2.2.1; omega
  have HU : Hidden (∀ W, Mod [] w1 W → Calls Try.prog 36 #[.pointer (some ⟨xb, 0, none⟩)] W fun e w' => e = .returned (.int .i64 U) ∧ Mod [] W w') := ⟨fun W hW => by rw [← hUe]; exact xf_used (hI1.mod hW (by simp)) (by omega) (by omega)⟩
  have HUE := Hidden.mk hUe
  have H1 := Hidden.mk (And.intro hI1 (And.intro hm1 (And.intro ht1 (And.intro hc1 hM1))))
  have HND := Hidden.mk (fun W (hW : Mod [] w1 W) => xf_needs k HX.out.2.2.2.2.2.1 (hI1.mod hW (by simp)) HX.out.1 HX.out.2.1 (hm1.mod hW (by simp)) HX.out.2.2.2.2.2.2.1 ht1 (by omega))
  have hz64 : Hidden (∀ z, IsLong L k z → z ≠ 64) := ⟨fun z hz hh => by subst hh; exact HM.out (keysC_mem.2 hz.whole)⟩
  clear hmem hI1 hm1 ht1 hM1 HH hUe
  go_wp2_with fail
  go_cut [19] from 20 to 30 (fun v wx => ∃ z, v = .bool (decide ((limit : Int) < U + (65 - z))) ∧ IsLong L k z ∧ RdX w1 xb tb cb mb b0 limit FT FC false l L 8 wx)
  case first =>
    go_region_with (first | (go_at_call 36; refine ((HU.out _ (Mod.refl [] _).drew).mono ?_); rintro e w2 ⟨rfl, hM2⟩; have HM2 := Hidden.mk ((Mod.refl [] w1).drew.trans hM2 (by simp)); have c23 : w2.cell? ⟨xb, 3, none⟩ = some (.int .i64 limit) := (H1.out.1.mod HM2.out (by simp)).blk.cell 3; clear hM2) | (go_at_call 75; refine ((HND.out _ HM2.out).mono ?_); rintro e w3 ⟨⟨z, rfl, hz⟩, hr⟩; rw [if_neg (hz64.out z hz)]; have c33 : w3.cell? ⟨xb, 3, none⟩ = some (.int .i64 limit) := (let ⟨_, _, _, q, _⟩ := hr; q.blk.cell 3); have hzb : -1 ≤ z ∧ z ≤ 64 := ⟨hz.1, hz.2.1⟩; have ew : IntKind.i64.wrap (U + (65 - z)) = U + (65 - z) := IntWalk.i64_in _ (by omega); have HZ := Hidden.mk hz; have HR := Hidden.mk (RdX.mono hr (show c1 + 7 ≤ 8 by omega)); clear hz hr))
    all_goals (go_wp2_with fail; go_meet; exact ⟨z, rfl, HZ.out, HR.out.trans' HM2.out⟩)
  case rest =>
    obtain ⟨z, rfl, hz, hr⟩ := hcut
    by_cases hfull : (limit : Int) < U + (65 - z)
    · have HP := Hidden.mk (XfAt.of_rd (hr.trans H1.out.2.2.2.2) HX.out.2.1 HX.out.2.2.1 HX.out.2.2.2.1 HX.out.2.2.2.2.1)
      have HE := Hidden.mk (And.intro hz hfull)
      rw [decide_eq_true hfull]
      clear hfull hz hr
      go_wp2_with fail
      go_ret
      obtain ⟨h1, ⟨m', c, h2, h3, h4⟩, h5⟩ := HP.out
      exact ⟨5, L, _, m', c, rfl, h1, HX.out.2.2.2.2.2.2.1, h2, h3, by omega, h5, fun q hq => .inl hq, .inr ⟨HM.out, z, l.length, HE.out.1, ⟨l, HX.out.2.1, HX.out.2.2.2.2.2.2.2.2.2, rfl⟩, .inl ⟨rfl, rfl, by have := HE.out.2; have := HUE.out; omega⟩⟩⟩
    rw [decide_eq_false hfull]
    obtain ⟨A, B, rfl, hA, hB0⟩ := split_at k HX.out.2.2.1
    have hB : ∀ e ∈ B, k < e.2 := fun e he => by
      rcases Int.lt_or_le k e.2 with h | h
      · exact h
      · have hke : e.2 = k := by have := hB0 e he; omega
        exact absurd (keysC_mem.2 ⟨e, by simp [he], hke⟩) HM.out
    obtain ⟨pr2, m2, c2, hI2, hm2, ht2, hc2, hM2⟩ := hr
    have HAF := Hidden.mk (xf_after k HX.out.2.2.2.2.2.1 hI2 HX.out.1 hA hB HX.out.2.1 hm2 HX.out.2.2.2.2.2.2.1 ht2 (by omega))
    have HLE := Hidden.mk (show U + (65 - z) ≤ limit by omega)
    have HZ := Hidden.mk hz
    have HAB := Hidden.mk (And.intro hA (And.intro hB hB0))
    have HM2 := Hidden.mk (H1.out.2.2.2.2.trans hM2 (fun q hq => .inl hq))
    have hw2 := hI2.blk.lt
    clear hfull hz hA hB hB0 hI2 hm2 ht2 hM2 HND HU c13
    go_wp2_with fail
    refine HAF.out.mono ?_
    rintro e w4 ⟨rfl, pr4, m4, c4, hI4, hm4, ht4, hc4, hM4⟩
    obtain ⟨P, hP⟩ : ∃ P, lsC A (-1) = P := ⟨_, rfl⟩
    rw [hP]
    have HM4 := Hidden.mk (HM2.out.trans hM4 (fun q hq => .inl hq))
    have HBH := Hidden.mk (chain_behind k P hI4.chn hP.symm (by have := HLE.out; have := HUE.out; have := HZ.out.2.1; omega))
    have HPE := Hidden.mk hP
    have hw4 := hI4.blk.lt
    have c42 : w4.cell? ⟨xb, 2, none⟩ = some (.pointer (some ⟨cb, 0, none⟩)) := hI4.blk.cell 2
    have H4 := Hidden.mk (And.intro hI4 (And.intro hm4 (And.intro ht4 hc4)))
    clear hP hI4 hm4 ht4 hM4 HAF
    go_wp2_with fail
    refine HBH.out.mono ?_
    rintro e w5 ⟨a, FC', rfl, hC5, hM5, hF5, -⟩
    have hmbs : mb ≠ xb ∧ mb ∉ FT ∧ mb ∉ FC := by have := HX.out.2.2.2.2.2.2.1; simpa [not_or] using this
    have hmC' : mb ∉ FC' := fun hh => by
      rcases hF5 _ hh with h1 | h1
      · exact hmbs.2.2 h1
      · have := H4.out.2.1.lt; omega
    have hI5 := H4.out.1.linked hC5 hM5 hF5
    have HNX := Hidden.mk (chain_next_yes hC5 (H4.out.2.1.mod hM5 hmbs.2.2) hmC')
    obtain ⟨Q, hQ⟩ : ∃ Q, hdC B (-1) = Q := ⟨_, rfl⟩
    have hw5 := hI5.blk.lt
    have c52 : w5.cell? ⟨xb, 2, none⟩ = some (.pointer (some ⟨cb, 0, none⟩)) := hI5.blk.cell 2
    rw [hQ] at HNX
    have HQE := Hidden.mk hQ
    have H5 := Hidden.mk (And.intro hI5 (And.intro hmbs (And.intro hmC' hF5)))
    have HM5 : Hidden (Mod (mb :: (xb :: (FT ++ FC))) w w5) := ⟨(HM4.out.mono (fun q hq => .inl (by rcases List.mem_cons.1 hq with rfl | hq <;> simp_all))).trans hM5 (fun q hq => .inl (by simp [hq]))⟩
    clear hC5 hM5 hF5 hmC' hI5 hQ hmbs HBH
    go_wp2_with fail
    refine HNX.out.mono ?_
    rintro e w6 ⟨rfl, hm6, hM6⟩
    obtain ⟨z1, hz1⟩ : ∃ z1 : Nat, (z + 1 : Int) = z1 := Int.eq_ofNat_of_zero_le (by have := HZ.out.1; omega)
    have hmx : mb ∉ xb :: (FT ++ FC') := by have := H5.out.2.1; have := H5.out.2.2.1; simp_all
    have HS0 : Hidden (InsSt w (xb :: (FT ++ FC)) xb mb limit A B k a l.length z1 0 w6) := ⟨tb, cb, b0, FT, FC', pr4, l, _, c4 + 1, H5.out.1.read hmx hM6, XTP.start HX.out.2.1, hm6, Mt.read_taken H4.out.2.2.1 (by have := H4.out.2.2.2; omega), by have := H4.out.2.2.2; omega, by simp, fun q hq => by
      simp only [List.mem_cons, List.mem_append] at hq
      rcases hq with rfl | hq | hq
      · exact .inl (by simp)
      · exact .inl (by simp [hq])
      · rcases H5.out.2.2.2 _ hq with h1 | h1
        · exact .inl (by simp [h1])
        · exact .inr (Nat.le_trans HM4.out.size h1), HM5.out.trans hM6 (fun q hq => .inl (by rw [List.mem_singleton.1 hq]; simp))⟩
    have HZ1 := Hidden.mk hz1
    have HZN : Hidden (∀ n : Nat, n ≤ 64 → (spn (A ++ B) n (pfx k n) = none ↔ z1 ≤ n)) := ⟨fun n hn => by
      have h1 := HZ.out.2.2 n hn
      rw [spn_none]
      constructor
      · intro h2
        rcases Nat.lt_or_ge n z1 with h3 | h3
        · exact absurd h2 (h1.1 (by omega))
        · exact h3
      · intro h2
        exact Classical.byContradiction (fun h3 => by have := h1.2 h3; omega)⟩
    have HXL := Hidden.mk (H5.out.1.xl (up_ins HX.out.2.2.1 HAB.out.1 HAB.out.2.1) (k64_ins HX.out.2.2.2.2.2.1 HX.out.2.2.2.1))
    have HNB : Hidden (mb ∉ xb :: (FT ++ FC) ∧ mb < w.heap.size) := ⟨⟨HX.out.2.2.2.2.2.2.1, HX.out.2.2.2.2.2.2.2.1⟩⟩
    have hHK := HX.out.2.2.2.2.2.1
    clear hm6 hM6 hmx hz1 HNX H4 H5 HM4 HM5 HM2
    go_wp2_with fail
    go_loopw [9] (fun v9 wr => ∃ n : Nat, v9 = .int .i64 n ∧ n ≤ 65 ∧ InsSt w (xb :: (FT ++ FC)) xb mb limit A B k a l.length z1 n wr) (fun v9 _ => (65 - intOf v9).toNat)
    case atStart => exact ⟨0, rfl, by omega, HS0.out⟩
    case round =>
      obtain ⟨n, rfl, hn, hst⟩ := hrel
      clear HS0
      by_cases hlt : (n : Int) ≤ 64
      · have hltd : decide ((n : Int) ≤ 64) = true := decide_eq_true hlt
        have hn64 : n ≤ 64 := by omega
        have hw1 : IntKind.i64.wrap ((n : Int) + 1) = n + 1 := IntWalk.i64_in _ (by omega)
        obtain ⟨tb9, cb9, b9, FT9, FC9, pr9, l9, m9, c9, hI, hXT, hMt, htk, hcb, hln, hFr, hMo⟩ := hst
        have hm9 : mb ∉ xb :: (FT9 ++ FC9) := fresh_not hFr HNB.out.1 HNB.out.2
        have hm9T : mb ∉ FT9 := fun hh => hm9 (by simp [hh])
        have HF := Hidden.mk (xf_find k n hHK hn64 hI.blk hI.tab hMt hm9T (hXT.get hn64 _) (fun q hq => spn_bnd HX.out.1 hq))
        have HR := Hidden.mk (And.intro hI (And.intro hXT (And.intro htk (And.intro hcb (And.intro hm9 (And.intro hm9T (And.intro hln (And.intro hFr hMo))))))))
        have hin0 := spn_ins (a := a) HX.out.1 HAB.out.1 HAB.out.2.1 n
        have hx9 := hI.blk.lt
        clear hI hXT hMt htk hcb hm9 hm9T hln hFr hMo
        cases hsp : spn (A ++ B) n (pfx k n) with
        | none =>
          rw [hsp] at HF hin0
          have hin : spn (A ++ (a, k) :: B) n (pfx k n) = some ((a : Int), (a : Int)) := hin0
          clear hsp hin0
          have HIN := Hidden.mk hin
          clear hin
          go_wp2_with fail
          refine HF.out.mono ?_
          rintro e w7 ⟨rfl, pr7, ht7, hm7, hM7⟩
          simp only [Option.getD_none, Option.isSome_none]
          have H7 := Hidden.mk (And.intro (HR.out.1.looked (m' := m9) HR.out.2.2.2.2.1 ht7 hM7) (And.intro hm7 hM7))
          have hx7 := H7.out.1.blk.lt
          have c71 : w7.cell? ⟨xb, 1, none⟩ = some (.pointer (some ⟨tb9, 0, none⟩)) := H7.out.1.blk.cell 1
          clear ht7 hm7 hM7 HF
          have hA7 := Hidden.mk ((Mod.refl [] w7).alloc (.cells #[.int .i64 (a : Int), .int .i64 (a : Int)] 89))
          have KN : Hidden (∀ W, Mod [] (w7.alloc (.cells #[.int .i64 (a : Int), .int .i64 (a : Int)] 89)) W → Blk W w7.heap.size 89 #[.int .i64 (a : Int), .int .i64 (a : Int)]) := ⟨fun W hW => (Blk.new w7 _ _).mod hW (by simp)⟩
          have KX : Hidden (∀ W, Mod [] (w7.alloc (.cells #[.int .i64 (a : Int), .int .i64 (a : Int)] 89)) W → W.cell? ⟨xb, 1, none⟩ = some (.pointer (some ⟨tb9, 0, none⟩))) := ⟨fun W hW => (H7.out.1.mod (hA7.out.trans hW (by simp)) (by simp)).blk.cell 1⟩
          have HPX := Hidden.mk (fun W => xf_prefix (w := W) k n hHK hn64)
          have HPK := Hidden.mk (fun W => xf_pack (w := W) (a : Int) (a : Int) (spn_bnd HXL.out HIN.out).1 (spn_bnd HXL.out HIN.out).2)
          have HPT := Hidden.mk (fun W (hW : Mod [] w7 W) => hash_put ((n : Int), pfx k n) (packS ((a : Int), (a : Int))) (keyOK_pfx hHK hn64) (H7.out.1.tab.mod hW (by simp)) (by have := HR.out.2.2.2.2.2.2.1; omega))
          go_wp2_with fail
          go_region_with (first | (go_at_call 79; refine (HPX.out _).mono ?_; rintro e w8 ⟨rfl, hm8⟩; have H8 := Hidden.mk ((Mod.refl [] (w7.alloc (.cells #[.int .i64 (a : Int), .int .i64 (a : Int)] 89))).drew.trans hm8 (by simp)); have d80 : w8.cell? ⟨w7.heap.size, 0, none⟩ = some (.int .i64 (a : Int)) := (KN.out _ H8.out).cell 0; have d81 : w8.cell? ⟨w7.heap.size, 1, none⟩ = some (.int .i64 (a : Int)) := (KN.out _ H8.out).cell 1; have d8l := (KN.out _ H8.out).lt; have c81 := KX.out _ H8.out; clear hm8) | (go_at_call 80; refine (HPK.out _).mono ?_; rintro e w9 ⟨rfl, hm9⟩; have H9 := Hidden.mk (H8.out.trans hm9 (by simp)); have c91 := KX.out _ H9.out; clear hm9) | (go_at_call 78; refine (HPT.out _ (hA7.out.trans H9.out (by simp))).mono ?_; rintro e w10 ⟨he, FT', b', pr', k1, k2, k3, -⟩; obtain ⟨g, hg⟩ : ∃ g, (lk l9 ((n : Int), pfx k n)).isNone = g := ⟨_, rfl⟩; rw [hg] at he; subst he; clear hg; have H10 := Hidden.mk (And.intro k1 (And.intro ((hA7.out.trans H9.out (by simp)).trans' k2) (fun q hq => (k3 q hq).imp id (Nat.le_trans (hA7.out.trans H9.out (by simp)).size)))); clear k1 k2 k3))
          all_goals
            go_wp2_with fail
            go_roundw
            case rel => exact ⟨n + 1, rfl, by omega, ins_next (s := ((a : Int), (a : Int))) H7.out.1 HR.out.2.1 hn64 HIN.out H7.out.2.1 HR.out.2.2.2.2.2.1 (Mt.call_taken HR.out.2.2.1 (by have := HR.out.2.2.2.1; omega)) (by have := HR.out.2.2.2.1; omega) HR.out.2.2.2.2.2.2.1 (HZN.out n hn64) HR.out.2.2.2.2.2.2.2.1 (ins_mod HR.out.2.2.2.2.2.2.2.2 HR.out.2.2.2.2.2.2.2.1 H7.out.2.2) H10.out.1 H10.out.2.1 H10.out.2.2⟩
            case measure => simp [intOf]; omega
        | some q =>
          obtain ⟨x, y⟩ := q
          rw [hsp] at HF hin0
          have hbn := spn_bnd HX.out.1 hsp
          rw [HQE.out, HPE.out] at hin0
          simp only at hin0 hbn
          clear hsp
          by_cases hxQ : x = Q
          · have hin : spn (A ++ (a, k) :: B) n (pfx k n) = some ((a : Int), y) := by rw [hin0, if_pos hxQ]
            have hxb : (x == Q) = true := by simp [hxQ]
            clear hin0 hxQ
            have HIN := Hidden.mk hin
            clear hin
            go_wp2_with fail
            refine HF.out.mono ?_
            rintro e w7 ⟨rfl, pr7, ht7, hm7, hM7⟩
            simp only [Option.getD_some, Option.isSome_some]
            have H7 := Hidden.mk (And.intro (HR.out.1.looked (m' := m9) HR.out.2.2.2.2.1 ht7 hM7) (And.intro hm7 hM7))
            have hx7 := H7.out.1.blk.lt
            have c71 : w7.cell? ⟨xb, 1, none⟩ = some (.pointer (some ⟨tb9, 0, none⟩)) := H7.out.1.blk.cell 1
            clear ht7 hm7 hM7 HF
            have hA7 := Hidden.mk ((Mod.refl [] w7).alloc (.cells #[.int .i64 (a : Int), .int .i64 y] 89))
            have KN : Hidden (∀ W, Mod [] (w7.alloc (.cells #[.int .i64 (a : Int), .int .i64 y] 89)) W → Blk W w7.heap.size 89 #[.int .i64 (a : Int), .int .i64 y]) := ⟨fun W hW => (Blk.new w7 _ _).mod hW (by simp)⟩
            have KX : Hidden (∀ W, Mod [] (w7.alloc (.cells #[.int .i64 (a : Int), .int .i64 y] 89)) W → W.cell? ⟨xb, 1, none⟩ = some (.pointer (some ⟨tb9, 0, none⟩))) := ⟨fun W hW => (H7.out.1.mod (hA7.out.trans hW (by simp)) (by simp)).blk.cell 1⟩
            have HPX := Hidden.mk (fun W => xf_prefix (w := W) k n hHK hn64)
            have HPK := Hidden.mk (fun W => xf_pack (w := W) (a : Int) y (spn_bnd HXL.out HIN.out).1 (spn_bnd HXL.out HIN.out).2)
            have HPT := Hidden.mk (fun W (hW : Mod [] w7 W) => hash_put ((n : Int), pfx k n) (packS ((a : Int), y)) (keyOK_pfx hHK hn64) (H7.out.1.tab.mod hW (by simp)) (by have := HR.out.2.2.2.2.2.2.1; omega))
            go_wp2_with fail
            go_region_with (first | (go_at_call 79; refine (HPX.out _).mono ?_; rintro e w8 ⟨rfl, hm8⟩; have H8 := Hidden.mk ((Mod.refl [] (w7.alloc (.cells #[.int .i64 (a : Int), .int .i64 y] 89))).drew.trans hm8 (by simp)); have d80 : w8.cell? ⟨w7.heap.size, 0, none⟩ = some (.int .i64 (a : Int)) := (KN.out _ H8.out).cell 0; have d81 : w8.cell? ⟨w7.heap.size, 1, none⟩ = some (.int .i64 y) := (KN.out _ H8.out).cell 1; have d8l := (KN.out _ H8.out).lt; have c81 := KX.out _ H8.out; clear hm8) | (go_at_call 80; refine (HPK.out _).mono ?_; rintro e w9 ⟨rfl, hm9⟩; have H9 := Hidden.mk (H8.out.trans hm9 (by simp)); have c91 := KX.out _ H9.out; clear hm9) | (go_at_call 78; refine (HPT.out _ (hA7.out.trans H9.out (by simp))).mono ?_; rintro e w10 ⟨he, FT', b', pr', k1, k2, k3, -⟩; obtain ⟨g, hg⟩ : ∃ g, (lk l9 ((n : Int), pfx k n)).isNone = g := ⟨_, rfl⟩; rw [hg] at he; subst he; clear hg; have H10 := Hidden.mk (And.intro k1 (And.intro ((hA7.out.trans H9.out (by simp)).trans' k2) (fun q hq => (k3 q hq).imp id (Nat.le_trans (hA7.out.trans H9.out (by simp)).size)))); clear k1 k2 k3))
            all_goals
              go_wp2_with fail
              go_roundw
              case rel => exact ⟨n + 1, rfl, by omega, ins_next (s := ((a : Int), y)) H7.out.1 HR.out.2.1 hn64 HIN.out H7.out.2.1 HR.out.2.2.2.2.2.1 (Mt.call_taken HR.out.2.2.1 (by have := HR.out.2.2.2.1; omega)) (by have := HR.out.2.2.2.1; omega) HR.out.2.2.2.2.2.2.1 (HZN.out n hn64) HR.out.2.2.2.2.2.2.2.1 (ins_mod HR.out.2.2.2.2.2.2.2.2 HR.out.2.2.2.2.2.2.2.1 H7.out.2.2) H10.out.1 H10.out.2.1 H10.out.2.2⟩
              case measure => simp [intOf]; omega
          have hxb : (x == Q) = false := beq_eq_false_iff_ne.2 hxQ
          rw [if_neg hxQ] at hin0
          by_cases hyP : y = P
          · have hin : spn (A ++ (a, k) :: B) n (pfx k n) = some (x, (a : Int)) := by rw [hin0, if_pos hyP]
            have hyb : (y == P) = true := by simp [hyP]
            clear hin0 hxQ hyP
            have HIN := Hidden.mk hin
            clear hin
            go_wp2_with fail
            refine HF.out.mono ?_
            rintro e w7 ⟨rfl, pr7, ht7, hm7, hM7⟩
            simp only [Option.getD_some, Option.isSome_some]
            have H7 := Hidden.mk (And.intro (HR.out.1.looked (m' := m9) HR.out.2.2.2.2.1 ht7 hM7) (And.intro hm7 hM7))
            have hx7 := H7.out.1.blk.lt
            have c71 : w7.cell? ⟨xb, 1, none⟩ = some (.pointer (some ⟨tb9, 0, none⟩)) := H7.out.1.blk.cell 1
            clear ht7 hm7 hM7 HF
            have hA7 := Hidden.mk ((Mod.refl [] w7).alloc (.cells #[.int .i64 x, .int .i64 (a : Int)] 89))
            have KN : Hidden (∀ W, Mod [] (w7.alloc (.cells #[.int .i64 x, .int .i64 (a : Int)] 89)) W → Blk W w7.heap.size 89 #[.int .i64 x, .int .i64 (a : Int)]) := ⟨fun W hW => (Blk.new w7 _ _).mod hW (by simp)⟩
            have KX : Hidden (∀ W, Mod [] (w7.alloc (.cells #[.int .i64 x, .int .i64 (a : Int)] 89)) W → W.cell? ⟨xb, 1, none⟩ = some (.pointer (some ⟨tb9, 0, none⟩))) := ⟨fun W hW => (H7.out.1.mod (hA7.out.trans hW (by simp)) (by simp)).blk.cell 1⟩
            have HPX := Hidden.mk (fun W => xf_prefix (w := W) k n hHK hn64)
            have HPK := Hidden.mk (fun W => xf_pack (w := W) x (a : Int) (spn_bnd HXL.out HIN.out).1 (spn_bnd HXL.out HIN.out).2)
            have HPT := Hidden.mk (fun W (hW : Mod [] w7 W) => hash_put ((n : Int), pfx k n) (packS (x, (a : Int))) (keyOK_pfx hHK hn64) (H7.out.1.tab.mod hW (by simp)) (by have := HR.out.2.2.2.2.2.2.1; omega))
            go_wp2_with fail
            go_region_with (first | (go_at_call 79; refine (HPX.out _).mono ?_; rintro e w8 ⟨rfl, hm8⟩; have H8 := Hidden.mk ((Mod.refl [] (w7.alloc (.cells #[.int .i64 x, .int .i64 (a : Int)] 89))).drew.trans hm8 (by simp)); have d80 : w8.cell? ⟨w7.heap.size, 0, none⟩ = some (.int .i64 x) := (KN.out _ H8.out).cell 0; have d81 : w8.cell? ⟨w7.heap.size, 1, none⟩ = some (.int .i64 (a : Int)) := (KN.out _ H8.out).cell 1; have d8l := (KN.out _ H8.out).lt; have c81 := KX.out _ H8.out; clear hm8) | (go_at_call 80; refine (HPK.out _).mono ?_; rintro e w9 ⟨rfl, hm9⟩; have H9 := Hidden.mk (H8.out.trans hm9 (by simp)); have c91 := KX.out _ H9.out; clear hm9) | (go_at_call 78; refine (HPT.out _ (hA7.out.trans H9.out (by simp))).mono ?_; rintro e w10 ⟨he, FT', b', pr', k1, k2, k3, -⟩; obtain ⟨g, hg⟩ : ∃ g, (lk l9 ((n : Int), pfx k n)).isNone = g := ⟨_, rfl⟩; rw [hg] at he; subst he; clear hg; have H10 := Hidden.mk (And.intro k1 (And.intro ((hA7.out.trans H9.out (by simp)).trans' k2) (fun q hq => (k3 q hq).imp id (Nat.le_trans (hA7.out.trans H9.out (by simp)).size)))); clear k1 k2 k3))
            all_goals
              go_wp2_with fail
              go_roundw
              case rel => exact ⟨n + 1, rfl, by omega, ins_next (s := (x, (a : Int))) H7.out.1 HR.out.2.1 hn64 HIN.out H7.out.2.1 HR.out.2.2.2.2.2.1 (Mt.call_taken HR.out.2.2.1 (by have := HR.out.2.2.2.1; omega)) (by have := HR.out.2.2.2.1; omega) HR.out.2.2.2.2.2.2.1 (HZN.out n hn64) HR.out.2.2.2.2.2.2.2.1 (ins_mod HR.out.2.2.2.2.2.2.2.2 HR.out.2.2.2.2.2.2.2.1 H7.out.2.2) H10.out.1 H10.out.2.1 H10.out.2.2⟩
              case measure => simp [intOf]; omega
          have hyb : (y == P) = false := beq_eq_false_iff_ne.2 hyP
          have hin : spn (A ++ (a, k) :: B) n (pfx k n) = some (x, y) := by rw [hin0, if_neg hyP]
          clear hin0 hxQ hyP
          have HIN := Hidden.mk hin
          clear hin
          go_wp2_with fail
          refine HF.out.mono ?_
          rintro e w7 ⟨rfl, pr7, ht7, hm7, hM7⟩
          simp only [Option.getD_some, Option.isSome_some]
          have H7 := Hidden.mk (And.intro (HR.out.1.looked (m' := m9) HR.out.2.2.2.2.1 ht7 hM7) (And.intro hm7 hM7))
          have hx7 := H7.out.1.blk.lt
          have c71 : w7.cell? ⟨xb, 1, none⟩ = some (.pointer (some ⟨tb9, 0, none⟩)) := H7.out.1.blk.cell 1
          clear ht7 hm7 hM7 HF
          have hA7 := Hidden.mk ((Mod.refl [] w7).alloc (.cells #[.int .i64 x, .int .i64 y] 89))
          have KN : Hidden (∀ W, Mod [] (w7.alloc (.cells #[.int .i64 x, .int .i64 y] 89)) W → Blk W w7.heap.size 89 #[.int .i64 x, .int .i64 y]) := ⟨fun W hW => (Blk.new w7 _ _).mod hW (by simp)⟩
          have KX : Hidden (∀ W, Mod [] (w7.alloc (.cells #[.int .i64 x, .int .i64 y] 89)) W → W.cell? ⟨xb, 1, none⟩ = some (.pointer (some ⟨tb9, 0, none⟩))) := ⟨fun W hW => (H7.out.1.mod (hA7.out.trans hW (by simp)) (by simp)).blk.cell 1⟩
          have HPX := Hidden.mk (fun W => xf_prefix (w := W) k n hHK hn64)
          have HPK := Hidden.mk (fun W => xf_pack (w := W) x y (spn_bnd HXL.out HIN.out).1 (spn_bnd HXL.out HIN.out).2)
          have HPT := Hidden.mk (fun W (hW : Mod [] w7 W) => hash_put ((n : Int), pfx k n) (packS (x, y)) (keyOK_pfx hHK hn64) (H7.out.1.tab.mod hW (by simp)) (by have := HR.out.2.2.2.2.2.2.1; omega))
          go_wp2_with fail
          go_region_with (first | (go_at_call 79; refine (HPX.out _).mono ?_; rintro e w8 ⟨rfl, hm8⟩; have H8 := Hidden.mk ((Mod.refl [] (w7.alloc (.cells #[.int .i64 x, .int .i64 y] 89))).drew.trans hm8 (by simp)); have d80 : w8.cell? ⟨w7.heap.size, 0, none⟩ = some (.int .i64 x) := (KN.out _ H8.out).cell 0; have d81 : w8.cell? ⟨w7.heap.size, 1, none⟩ = some (.int .i64 y) := (KN.out _ H8.out).cell 1; have d8l := (KN.out _ H8.out).lt; have c81 := KX.out _ H8.out; clear hm8) | (go_at_call 80; refine (HPK.out _).mono ?_; rintro e w9 ⟨rfl, hm9⟩; have H9 := Hidden.mk (H8.out.trans hm9 (by simp)); have c91 := KX.out _ H9.out; clear hm9) | (go_at_call 78; refine (HPT.out _ (hA7.out.trans H9.out (by simp))).mono ?_; rintro e w10 ⟨he, FT', b', pr', k1, k2, k3, -⟩; obtain ⟨g, hg⟩ : ∃ g, (lk l9 ((n : Int), pfx k n)).isNone = g := ⟨_, rfl⟩; rw [hg] at he; subst he; clear hg; have H10 := Hidden.mk (And.intro k1 (And.intro ((hA7.out.trans H9.out (by simp)).trans' k2) (fun q hq => (k3 q hq).imp id (Nat.le_trans (hA7.out.trans H9.out (by simp)).size)))); clear k1 k2 k3))
          all_goals
            go_wp2_with fail
            go_roundw
            case rel => exact ⟨n + 1, rfl, by omega, ins_next (s := (x, y)) H7.out.1 HR.out.2.1 hn64 HIN.out H7.out.2.1 HR.out.2.2.2.2.2.1 (Mt.call_taken HR.out.2.2.1 (by have := HR.out.2.2.2.1; omega)) (by have := HR.out.2.2.2.1; omega) HR.out.2.2.2.2.2.2.1 (HZN.out n hn64) HR.out.2.2.2.2.2.2.2.1 (ins_mod HR.out.2.2.2.2.2.2.2.2 HR.out.2.2.2.2.2.2.2.1 H7.out.2.2) H10.out.1 H10.out.2.1 H10.out.2.2⟩
            case measure => simp [intOf]; omega
      · have hltd : decide ((n : Int) ≤ 64) = false := decide_eq_false hlt
        have HS := Hidden.mk hst
        obtain rfl : n = 65 := by omega
        clear hst hlt hn
        go_wp2_with fail
        go_ret
        obtain ⟨tb9, cb9, b9, FT9, FC9, pr9, l9, m9, c9, hI, hXT, hMt, htk, hcb, hln, hFr, hMo⟩ := HS.out
        exact ⟨0, A ++ (a, k) :: B, _, m9, c9, rfl, ⟨tb9, cb9, b9, FT9, FC9, pr9, l9, rfl, hI, hXT.done, HXL.out.up, HXL.out.k64, by
          have h1 := HZ1.out
          have h2 := HZ.out.2.1
          have h3 := hz64.out z HZ.out
          have h4 := HUE.out
          have h5 := HLE.out
          simp only [List.length_append, List.length_cons] at h4 ⊢
          omega⟩, fresh_not hFr HNB.out.1 HNB.out.2, hMt, htk, by omega, hMo, hFr, .inr ⟨HM.out, z, l.length, HZ.out, ⟨l, HX.out.2.1, HX.out.2.2.2.2.2.2.2.2.2, rfl⟩, .inr ⟨rfl, keys_ins HAB.out.1 HAB.out.2.2, by have h4 := HUE.out; have h5 := HLE.out; simp only [List.length_append] at h4 ⊢; omega⟩⟩⟩
end Go.Proofs.Ytfioekkegihkoaa
