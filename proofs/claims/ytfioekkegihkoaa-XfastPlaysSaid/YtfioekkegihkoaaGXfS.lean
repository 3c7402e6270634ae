/- Texts joined: Xf6, Xf7, Xf8. -/
import Derived.Test.YtfioekkegihkoaaGXfR
import Derived.Test.YtfioekkegihkoaaMw
set_option linter.unusedVariables false
set_option linter.unusedSimpArgs false
/- xfast: told, Next, Prev, Min, Max. -/
namespace Go.Proofs.Ytfioekkegihkoaa
open Go.RowKit
set_option linter.unusedVariables false
set_option linter.unusedSimpArgs false
section
variable {w : World} {xb tb cb mb b0 limit : Nat} {FT FC : List Nat} {pr : Int} {fr : Bool} {l : List (HK × Int)} {L A B : CL} {m : Mt}
set_option maxHeartbeats 1000000 in
theorem xf_told_no (w : World) (xb : Nat) :
    Calls Try.prog 59 #[.pointer (some ⟨xb, 0, none⟩), .int .i64 (-1)] w fun e w' => e = .returned (.tuple #[.int .u64 0, .bool false]) ∧ w = w' := by
  go_enter Try.func59, Try.ntmps59
  go_wp2_with fail
  go_ret2
  exact ⟨rfl, rfl⟩
set_option maxHeartbeats 1000000 in
theorem xf_told {k : Int} {a : Nat} (hb : Blk w xb 81 (xfCells mb tb cb limit)) (hc : ChainAt w cb mb FC limit fr (A ++ (a, k) :: B)) (hm : MeterAt w mb m) (hmF : mb ∉ FC) :
    Calls Try.prog 59 #[.pointer (some ⟨xb, 0, none⟩), .int .i64 a] w fun e w' => e = .returned (.tuple #[.int .u64 k, .bool true]) ∧ MeterAt w' mb m.read ∧ Mod [mb] w w' := by
  have HK := Hidden.mk (chain_key_yes hc hm hmF)
  have c2 : w.cell? ⟨xb, 2, none⟩ = some (.pointer (some ⟨cb, 0, none⟩)) := hb.cell 2
  have hlt := hb.lt
  have hne : ((a : Int) == -1) = false := beq_eq_false_iff_ne.2 (by omega)
  clear hb hc hm hmF
  go_enter Try.func59, Try.ntmps59
  go_wp2_with fail
  refine HK.out.mono ?_
  rintro e w2 ⟨rfl, hm2, hM2⟩
  have H2 := Hidden.mk (And.intro hm2 hM2)
  clear hm2 hM2 HK
  go_wp2_with fail
  go_ret2
  exact ⟨rfl, H2.out⟩
/-- Its keys are these. -/
theorem XfIn.key {a : Nat} {k : Int} (h : XfIn w xb tb cb mb b0 limit FT FC pr fr l L) (hmb : mb ∉ xb :: (FT ++ FC)) (hL : L = A ++ (a, k) :: B) (hm : MeterAt w mb m) :
    Calls Try.prog 59 #[.pointer (some ⟨xb, 0, none⟩), .int .i64 a] w fun e w' => e = .returned (.tuple #[.int .u64 k, .bool true]) ∧ MeterAt w' mb m.read ∧ Mod [mb] w w' :=
  xf_told h.blk (by have := h.chn; rw [hL] at this; exact this) hm (fun hh => hmb (by simp [hh]))
set_option maxHeartbeats 4000000 in
theorem xf_next (k : Int) (hk : 0 ≤ k ∧ k < 18446744073709551616) (h : XfIn w xb tb cb mb b0 limit FT FC pr fr l L) (hx : XL L) (ht : XT L l) (hm : MeterAt w mb m) (hmb : mb ∉ xb :: (FT ++ FC)) :
    Calls Try.prog 17 #[.pointer (some ⟨xb, 0, none⟩), .int .u64 k] w fun e w' => IntBool .u64 (selL (keysC L) (rk (keysC L) k)) e ∧ RdX w xb tb cb mb b0 limit FT FC fr l L 9 w' := by
  have HS := Hidden.mk (xf_start h hm hmb)
  have H := Hidden.mk (And.intro hx (And.intro ht (And.intro hk hmb)))
  obtain ⟨hk0, hk1⟩ := hk
  clear h hx ht hm hmb
  go_enter Try.func17, Try.ntmps17
  go_wp2_with fail
  refine HS.out.mono ?_
  rintro e w1 ⟨rfl, hI1, hm1, hM1⟩
  have H1 := Hidden.mk (And.intro hI1 (And.intro hm1 (hM1.mono (T := mb :: FT) (fun q hq => .inl (by rw [List.mem_singleton.1 hq]; simp)))))
  clear hI1 hm1 hM1 HS
  rcases Nat.eq_zero_or_pos L.length with h0 | h0
  · have hd : decide (0 < L.length) = false := decide_eq_false (by omega)
    have HE := Hidden.mk (show selL (keysC L) (rk (keysC L) k) = (0, false) from by rw [List.eq_nil_of_length_eq_zero h0]; rfl)
    rw [hd]
    clear h0 hd
    go_wp2_with fail
    go_ret2
    exact ⟨by rw [HE.out]; rfl, _, _, 0, H1.out.1, H1.out.2.1, rfl, by omega, H1.out.2.2⟩
  have hd : decide (0 < L.length) = true := decide_eq_true h0
  rw [hd]
  have HK := Hidden.mk (xf_longest (c0 := 0) k H.out.2.2.1 H1.out.1 H.out.1 H.out.2.1 H1.out.2.1 H.out.2.2.2 rfl (by omega))
  have HN0 := Hidden.mk h0
  clear hd h0
  go_wp2_with fail
  refine HK.out.mono ?_
  rintro e w2 ⟨z, ⟨x, y⟩, rfl, hz, hz1, hz2, pr2, m2, c2, hI2, hm2, ht2, hc2, hM2⟩
  have ha := (Mod.refl [] w2).alloc (.cells #[.int .i64 x, .int .i64 y] 89)
  have H2 := Hidden.mk (And.intro (hI2.mod ha (by simp)) (And.intro (hm2.mod ha (by simp)) (And.intro ht2 (And.intro hc2 ((H1.out.2.2.trans hM2 (fun q hq => .inl hq)).trans ha (by simp))))))
  have hl2 := hI2.blk.lt
  have cx2 : w2.cell? ⟨xb, 2, none⟩ = some (.pointer (some ⟨cb, 0, none⟩)) := hI2.blk.cell 2
  have HZ := Hidden.mk (And.intro hz (And.intro hz1 hz2))
  clear hz1 hz2 hI2 hm2 ht2 hc2 hM2 HK ha H1
  by_cases hz64 : z = 64
  · subst hz64
    have HE := Hidden.mk (show selL (keysC L) (rk (keysC L) k) = (k, true) from by
      have hmem : k ∈ keysC L := keysC_mem.2 hz.whole
      exact next_mem H.out.1.up hmem)
    clear hz
    go_wp2_with fail
    go_ret2
    exact ⟨by rw [HE.out]; rfl, _, _, _, H2.out.1, H2.out.2.1, H2.out.2.2.1, by have := H2.out.2.2.2.1; omega, H2.out.2.2.2.2⟩
  have hzm : z ≠ -1 := fun hh => by
    subst hh
    have := IsLong.none hz H.out.1.k64 H.out.2.2.1
    have := HN0.out
    simp_all
  obtain ⟨b, rfl⟩ := Int.eq_ofNat_of_zero_le (show 0 ≤ z by have := hz.1; omega)
  have hb64 : b < 64 := by have := hz.2.1; omega
  have hb6 : ((b : Int) == 64) = false := beq_eq_false_iff_ne.2 hz64
  obtain ⟨A, B, rfl, hA, hB0⟩ := split_at k H.out.1.up
  have hB : ∀ e ∈ B, k < e.2 := fun e he => by
    rcases Int.lt_or_le k e.2 with h | h
    · exact h
    · have hke : e.2 = k := by have := hB0 e he; omega
      subst hke
      have := IsLong.of_mem (show e ∈ A ++ B by simp [he]) hz
      omega
  have ew : IntKind.i64.wrap (63 - (b : Int)) = 63 - b := IntWalk.i64_in _ (by omega)
  have hbit := bit_of ⟨hk0, hk1⟩ hb64
  have HSP := Hidden.mk (HZ.out.2.2 b rfl)
  have HRES := Hidden.mk (next_split hA hB0)
  rcases (show pfx k (b + 1) % 2 = 0 ∨ pfx k (b + 1) % 2 = 1 by omega) with hr | hr
  · obtain ⟨hBn, hlo⟩ := side_lo hz hb64 H.out.1 hA hB ⟨hk0, hk1⟩ HSP.out hr
    obtain ⟨B', a, k', rfl, hla⟩ := head_link hBn
    have hxa : x = a := by rw [← hla]; exact hlo
    subst hxa
    rw [hr] at hbit
    have HP := Hidden.mk (fun W (hW : Mod [] (w2.alloc (.cells #[.int .i64 a, .int .i64 y] 89)) W) => (H2.out.1.mod hW (by simp)).key H.out.2.2.2 (rfl) (H2.out.2.1.mod hW (by simp)))
    have HE : Hidden (selL (keysC (A ++ (a, k') :: B')) (rk (keysC (A ++ (a, k') :: B')) k) = (k', true)) := ⟨by rw [HRES.out]⟩
    clear hz hr hz64 hzm HZ hA hB hB0 HSP HRES hlo hla hBn
    go_wp2_with fail
    refine (HP.out _ (Mod.refl [] _)).mono ?_
    rintro e w5 ⟨rfl, hm5, hM5⟩
    have H5 := Hidden.mk (And.intro hm5 hM5)
    clear hm5 hM5 HP
    go_wp2_with fail
    go_ret2
    exact ⟨by rw [HE.out]; rfl, _, _, _, H2.out.1.read H.out.2.2.2 H5.out.2, H5.out.1, Mt.read_taken H2.out.2.2.1 (by have := H2.out.2.2.2.1; omega), by have := H2.out.2.2.2.1; omega, H2.out.2.2.2.2.trans H5.out.2 (fun q hq => .inl (by rw [List.mem_singleton.1 hq]; simp))⟩
  · obtain ⟨hAn, hhi⟩ := side_hi hz hb64 H.out.1 hA hB ⟨hk0, hk1⟩ HSP.out hr
    obtain ⟨A', a, k', rfl, hla⟩ := last_link hAn
    have hya : y = a := by rw [← hla]; exact hhi
    subst hya
    rw [hr] at hbit
    have HP := Hidden.mk (fun W (hW : Mod [] (w2.alloc (.cells #[.int .i64 x, .int .i64 a] 89)) W) => chain_next_yes (A := A') (B := B) (k := k') (a := a) (by have := H2.out.1.chn.mod hW (by simp); rw [List.append_assoc] at this; exact this) (H2.out.2.1.mod hW (by simp)) (fun hh => H.out.2.2.2 (by simp [hh])))
    have HI5 := Hidden.mk (fun W (hW : Mod [mb] (w2.alloc (.cells #[.int .i64 x, .int .i64 a] 89)) W) => H2.out.1.read H.out.2.2.2 hW)
    have HTK := Hidden.mk (Mt.read_taken H2.out.2.2.1 (by have := H2.out.2.2.2.1; omega))
    have tok1 : True := trivial
    rcases List.eq_nil_or_concat B with hBe | hBe
    · subst hBe
      have HE : Hidden (selL (keysC (A' ++ [(a, k')] ++ [])) (rk (keysC (A' ++ [(a, k')] ++ [])) k) = (0, false)) := ⟨by rw [HRES.out]⟩
      clear hz hr hz64 hzm HZ hA hB hB0 HSP HRES hhi hla hAn
      go_wp2_with fail
      go_region_with (first | (go_at_call 61; refine (HP.out _ (Mod.refl [] _).drew).mono ?_; rintro e w5 ⟨rfl, hm5, hM5⟩; have H5 := Hidden.mk (And.intro hm5 ((Mod.refl [mb] _).drew.trans hM5 (fun q hq => .inl hq))); clear hm5 hM5) | (go_at_call 59; refine (xf_told_no _ _).mono ?_; rintro e w6 ⟨rfl, rfl⟩))
      all_goals
        go_wp2_with fail
        go_ret2
        exact ⟨by rw [HE.out]; rfl, _, _, _, HI5.out _ H5.out.2, H5.out.1, HTK.out, by have := H2.out.2.2.2.1; omega, H2.out.2.2.2.2.trans H5.out.2 (fun q hq => .inl (by rw [List.mem_singleton.1 hq]; simp))⟩
    · obtain ⟨B', a2, k2, rfl, hla2⟩ := head_link (show B ≠ [] by obtain ⟨C, e, hC⟩ := hBe; rw [hC]; simp)
      have HE : Hidden (selL (keysC (A' ++ [(a, k')] ++ (a2, k2) :: B')) (rk (keysC (A' ++ [(a, k')] ++ (a2, k2) :: B')) k) = (k2, true)) := ⟨by rw [HRES.out]⟩
      clear hz hr hz64 hzm HZ hA hB hB0 HSP HRES hhi hla hAn hBe hla2
      go_wp2_with fail
      go_region_with (first | (go_at_call 61; refine (HP.out _ (Mod.refl [] _).drew).mono ?_; rintro e w5 ⟨rfl, hm5, hM5⟩; have H5 := Hidden.mk (And.intro hm5 ((Mod.refl [mb] _).drew.trans hM5 (fun q hq => .inl hq))); clear hm5 hM5) | (go_at_call 59; refine ((HI5.out _ H5.out.2).key (A := A' ++ [(a, k')]) (B := B') (a := a2) (k := k2) H.out.2.2.2 rfl H5.out.1).mono ?_; rintro e w6 ⟨rfl, hm6, hM6⟩; have H6 := Hidden.mk (And.intro hm6 hM6); clear hm6 hM6))
      all_goals
        go_wp2_with fail
        go_ret2
        exact ⟨by rw [HE.out]; rfl, _, _, _, (HI5.out _ H5.out.2).read H.out.2.2.2 H6.out.2, H6.out.1, Mt.read_taken HTK.out (by have := H2.out.2.2.2.1; omega), by have := H2.out.2.2.2.1; omega, (H2.out.2.2.2.2.trans H5.out.2 (fun q hq => .inl (by rw [List.mem_singleton.1 hq]; simp))).trans H6.out.2 (fun q hq => .inl (by rw [List.mem_singleton.1 hq]; simp))⟩
set_option maxHeartbeats 4000000 in
theorem xf_prev (k : Int) (hk : 0 ≤ k ∧ k < 18446744073709551616) (h : XfIn w xb tb cb mb b0 limit FT FC pr fr l L) (hx : XL L) (ht : XT L l) (hm : MeterAt w mb m) (hmb : mb ∉ xb :: (FT ++ FC)) :
    Calls Try.prog 16 #[.pointer (some ⟨xb, 0, none⟩), .int .u64 k] w fun e w' => IntBool .u64 (prevL64 (keysC L) k) e ∧ RdX w xb tb cb mb b0 limit FT FC fr l L 9 w' := by
  have HS := Hidden.mk (xf_start h hm hmb)
  have H := Hidden.mk (And.intro hx (And.intro ht (And.intro hk hmb)))
  obtain ⟨hk0, hk1⟩ := hk
  clear h hx ht hm hmb
  go_enter Try.func16, Try.ntmps16
  go_wp2_with fail
  refine HS.out.mono ?_
  rintro e w1 ⟨rfl, hI1, hm1, hM1⟩
  have H1 := Hidden.mk (And.intro hI1 (And.intro hm1 (hM1.mono (T := mb :: FT) (fun q hq => .inl (by rw [List.mem_singleton.1 hq]; simp)))))
  clear hI1 hm1 hM1 HS
  rcases Nat.eq_zero_or_pos L.length with h0 | h0
  · have hd : decide (0 < L.length) = false := decide_eq_false (by omega)
    have HE := Hidden.mk (show prevL64 (keysC L) k = (0, false) from by rw [List.eq_nil_of_length_eq_zero h0]; rfl)
    rw [hd]
    clear h0 hd
    go_wp2_with fail
    go_ret2
    exact ⟨by rw [HE.out]; rfl, _, _, 0, H1.out.1, H1.out.2.1, rfl, by omega, H1.out.2.2⟩
  have hd : decide (0 < L.length) = true := decide_eq_true h0
  rw [hd]
  have HK := Hidden.mk (xf_longest (c0 := 0) k H.out.2.2.1 H1.out.1 H.out.1 H.out.2.1 H1.out.2.1 H.out.2.2.2 rfl (by omega))
  have HN0 := Hidden.mk h0
  clear hd h0
  go_wp2_with fail
  refine HK.out.mono ?_
  rintro e w2 ⟨z, ⟨x, y⟩, rfl, hz, hz1, hz2, pr2, m2, c2, hI2, hm2, ht2, hc2, hM2⟩
  have ha := (Mod.refl [] w2).alloc (.cells #[.int .i64 x, .int .i64 y] 89)
  have H2 := Hidden.mk (And.intro (hI2.mod ha (by simp)) (And.intro (hm2.mod ha (by simp)) (And.intro ht2 (And.intro hc2 ((H1.out.2.2.trans hM2 (fun q hq => .inl hq)).trans ha (by simp))))))
  have hl2 := hI2.blk.lt
  have cx2 : w2.cell? ⟨xb, 2, none⟩ = some (.pointer (some ⟨cb, 0, none⟩)) := hI2.blk.cell 2
  have HZ := Hidden.mk (And.intro hz (And.intro hz1 hz2))
  clear hz1 hz2 hI2 hm2 ht2 hc2 hM2 HK ha H1
  by_cases hz64 : z = 64
  · subst hz64
    have HE := Hidden.mk (show prevL64 (keysC L) k = (k, true) from by
      have hmem : k ∈ keysC L := keysC_mem.2 hz.whole
      exact prev_mem hmem)
    clear hz
    go_wp2_with fail
    go_ret2
    exact ⟨by rw [HE.out]; rfl, _, _, _, H2.out.1, H2.out.2.1, H2.out.2.2.1, by have := H2.out.2.2.2.1; omega, H2.out.2.2.2.2⟩
  have hzm : z ≠ -1 := fun hh => by
    subst hh
    have := IsLong.none hz H.out.1.k64 H.out.2.2.1
    have := HN0.out
    simp_all
  obtain ⟨b, rfl⟩ := Int.eq_ofNat_of_zero_le (show 0 ≤ z by have := hz.1; omega)
  have hb64 : b < 64 := by have := hz.2.1; omega
  have hb6 : ((b : Int) == 64) = false := beq_eq_false_iff_ne.2 hz64
  obtain ⟨A, B, rfl, hA, hB0⟩ := split_at k H.out.1.up
  have hB : ∀ e ∈ B, k < e.2 := fun e he => by
    rcases Int.lt_or_le k e.2 with h | h
    · exact h
    · have hke : e.2 = k := by have := hB0 e he; omega
      subst hke
      have := IsLong.of_mem (show e ∈ A ++ B by simp [he]) hz
      omega
  have ew : IntKind.i64.wrap (63 - (b : Int)) = 63 - b := IntWalk.i64_in _ (by omega)
  have hbit := bit_of ⟨hk0, hk1⟩ hb64
  have HSP := Hidden.mk (HZ.out.2.2 b rfl)
  have HRES := Hidden.mk (prev_split hA hB)
  rcases (show pfx k (b + 1) % 2 = 0 ∨ pfx k (b + 1) % 2 = 1 by omega) with hr | hr
  · obtain ⟨hBn, hlo⟩ := side_lo hz hb64 H.out.1 hA hB ⟨hk0, hk1⟩ HSP.out hr
    obtain ⟨B', a, k', rfl, hla⟩ := head_link hBn
    have hxa : x = a := by rw [← hla]; exact hlo
    subst hxa
    rw [hr] at hbit
    have HP := Hidden.mk (fun W (hW : Mod [] (w2.alloc (.cells #[.int .i64 a, .int .i64 y] 89)) W) => chain_prev_yes (A := A) (B := B') (k := k') (a := a) (by have := H2.out.1.chn.mod hW (by simp); exact this) (H2.out.2.1.mod hW (by simp)) (fun hh => H.out.2.2.2 (by simp [hh])))
    have HI5 := Hidden.mk (fun W (hW : Mod [mb] (w2.alloc (.cells #[.int .i64 a, .int .i64 y] 89)) W) => H2.out.1.read H.out.2.2.2 hW)
    have HTK := Hidden.mk (Mt.read_taken H2.out.2.2.1 (by have := H2.out.2.2.2.1; omega))
    have tok1 : True := trivial
    rcases List.eq_nil_or_concat A with hAe | hAe
    · subst hAe
      have HE : Hidden (prevL64 (keysC ([] ++ (a, k') :: B')) k = (0, false)) := ⟨by rw [HRES.out]; rfl⟩
      clear hz hr hz64 hzm HZ hA hB hB0 HSP HRES hlo hla hBn
      go_wp2_with fail
      go_region_with (first | (go_at_call 60; refine (HP.out _ (Mod.refl [] _).drew).mono ?_; rintro e w5 ⟨rfl, hm5, hM5⟩; have H5 := Hidden.mk (And.intro hm5 ((Mod.refl [mb] _).drew.trans hM5 (fun q hq => .inl hq))); clear hm5 hM5) | (go_at_call 59; refine (xf_told_no _ _).mono ?_; rintro e w6 ⟨rfl, rfl⟩))
      all_goals
        go_wp2_with fail
        go_ret2
        exact ⟨by rw [HE.out]; rfl, _, _, _, HI5.out _ H5.out.2, H5.out.1, HTK.out, by have := H2.out.2.2.2.1; omega, H2.out.2.2.2.2.trans H5.out.2 (fun q hq => .inl (by rw [List.mem_singleton.1 hq]; simp))⟩
    · obtain ⟨A', a2, k2, rfl, hla2⟩ := last_link (show A ≠ [] by obtain ⟨C, e, hC⟩ := hAe; rw [hC]; simp)
      have HE : Hidden (prevL64 (keysC (A' ++ [(a2, k2)] ++ (a, k') :: B')) k = (k2, true)) := ⟨by rw [HRES.out, List.getLast?_concat]⟩
      rw [hla2] at HP
      clear hz hr hz64 hzm HZ hA hB hB0 HSP HRES hlo hla hBn hAe hla2
      go_wp2_with fail
      go_region_with (first | (go_at_call 60; refine (HP.out _ (Mod.refl [] _).drew).mono ?_; rintro e w5 ⟨rfl, hm5, hM5⟩; have H5 := Hidden.mk (And.intro hm5 ((Mod.refl [mb] _).drew.trans hM5 (fun q hq => .inl hq))); clear hm5 hM5) | (go_at_call 59; refine ((HI5.out _ H5.out.2).key (A := A') (B := (a, k') :: B') (a := a2) (k := k2) H.out.2.2.2 (by simp) H5.out.1).mono ?_; rintro e w6 ⟨rfl, hm6, hM6⟩; have H6 := Hidden.mk (And.intro hm6 hM6); clear hm6 hM6))
      all_goals
        go_wp2_with fail
        go_ret2
        exact ⟨by rw [HE.out]; rfl, _, _, _, (HI5.out _ H5.out.2).read H.out.2.2.2 H6.out.2, H6.out.1, Mt.read_taken HTK.out (by have := H2.out.2.2.2.1; omega), by have := H2.out.2.2.2.1; omega, (H2.out.2.2.2.2.trans H5.out.2 (fun q hq => .inl (by rw [List.mem_singleton.1 hq]; simp))).trans H6.out.2 (fun q hq => .inl (by rw [List.mem_singleton.1 hq]; simp))⟩
  · obtain ⟨hAn, hhi⟩ := side_hi hz hb64 H.out.1 hA hB ⟨hk0, hk1⟩ HSP.out hr
    obtain ⟨A', a, k', rfl, hla⟩ := last_link hAn
    have hya : y = a := by rw [← hla]; exact hhi
    subst hya
    rw [hr] at hbit
    have HP := Hidden.mk (fun W (hW : Mod [] (w2.alloc (.cells #[.int .i64 x, .int .i64 a] 89)) W) => (H2.out.1.mod hW (by simp)).key H.out.2.2.2 (by rw [List.append_assoc]; rfl) (H2.out.2.1.mod hW (by simp)))
    have HE : Hidden (prevL64 (keysC (A' ++ [(a, k')] ++ B)) k = (k', true)) := ⟨by rw [HRES.out, List.getLast?_concat]⟩
    clear hz hr hz64 hzm HZ hA hB hB0 HSP HRES hhi hla hAn
    go_wp2_with fail
    refine (HP.out _ (Mod.refl [] _)).mono ?_
    rintro e w5 ⟨rfl, hm5, hM5⟩
    have H5 := Hidden.mk (And.intro hm5 hM5)
    clear hm5 hM5 HP
    go_wp2_with fail
    go_ret2
    exact ⟨by rw [HE.out]; rfl, _, _, _, H2.out.1.read H.out.2.2.2 H5.out.2, H5.out.1, Mt.read_taken H2.out.2.2.1 (by have := H2.out.2.2.2.1; omega), by have := H2.out.2.2.2.1; omega, H2.out.2.2.2.2.trans H5.out.2 (fun q hq => .inl (by rw [List.mem_singleton.1 hq]; simp))⟩
end
end Go.Proofs.Ytfioekkegihkoaa

/- xfast: Min, Max, Len, Used, Limit, Shared. -/
namespace Go.Proofs.Ytfioekkegihkoaa
open Go.RowKit
set_option linter.unusedVariables false
set_option linter.unusedSimpArgs false
section
variable {w : World} {xb tb cb mb b0 limit : Nat} {FT FC : List Nat} {pr : Int} {fr : Bool} {l : List (HK × Int)} {L A B : CL} {m : Mt}
set_option maxHeartbeats 1000000 in
theorem xf_used (h : XfIn w xb tb cb mb b0 limit FT FC pr fr l L) (hl : l.length ≤ 10000000) (hL : L.length ≤ 10000000) :
    Calls Try.prog 36 #[.pointer (some ⟨xb, 0, none⟩)] w fun e w' => e = .returned (.int .i64 ((l.length + L.length : Nat) : Int)) ∧ Mod [] w w' := by
  have c1 : ∀ x : MW w, x.w.cell? ⟨xb, 1, none⟩ = some (.pointer (some ⟨tb, 0, none⟩)) := fun x => x.cell (h.blk.cell 1)
  have c2 : ∀ x : MW w, x.w.cell? ⟨xb, 2, none⟩ = some (.pointer (some ⟨cb, 0, none⟩)) := fun x => x.cell (h.blk.cell 2)
  have C1 := Hidden.mk (fun x : MW w => x.same (hash_len (h.tab.mod x.m (by simp))))
  have C2 := Hidden.mk (fun x : MW w => x.same (chain_len (h.chn.mod x.m (by simp))))
  have hl1 : ∀ x : MW w, xb < x.w.heap.size := fun x => Nat.lt_of_lt_of_le h.blk.lt x.m.size
  generalize l.length = n at *
  generalize L.length = q at *
  have hw : IntKind.i64.wrap ((n : Int) + (q : Int)) = n + q := IntWalk.i64_in _ (by omega)
  clear h
  go_enter Try.func36, Try.ntmps36
  go_wp2_with fail
  refine wp_class (MW.w (w := w)) (MW.drew0 w) rfl (by kernel_rfl) (by kernel_rfl) ?_
  repeat (go_big_quiet_step (first | (go_at_call 85; exact C1.out _) | (go_at_call 86; exact C2.out _) | fail))
  refine wpQuiet_nil ?_
  intro _ hw'; obtain ⟨x, hw''⟩ := hw'; subst hw''
  go_wp2_with fail
  go_ret
  exact ⟨by simp, x.m⟩
set_option maxHeartbeats 1000000 in
theorem xf_len (h : XfIn w xb tb cb mb b0 limit FT FC pr fr l L) :
    Calls Try.prog 44 #[.pointer (some ⟨xb, 0, none⟩)] w fun e w' => e = .returned (.int .i64 L.length) ∧ w = w' := by
  have H2 := Hidden.mk (chain_len h.chn)
  have c2 : w.cell? ⟨xb, 2, none⟩ = some (.pointer (some ⟨cb, 0, none⟩)) := h.blk.cell 2
  have hlt := h.blk.lt
  generalize L.length = q at *
  clear h
  go_enter Try.func44, Try.ntmps44
  go_wp2_with fail
  refine H2.out.mono ?_
  rintro e w2 ⟨rfl, rfl⟩
  go_wp2_with fail
  go_ret
  exact ⟨rfl, rfl⟩
set_option maxHeartbeats 1000000 in
theorem xf_limit (h : XfIn w xb tb cb mb b0 limit FT FC pr fr l L) :
    Calls Try.prog 45 #[.pointer (some ⟨xb, 0, none⟩)] w fun e w' => e = .returned (.int .i64 limit) ∧ w = w' := by
  have c3 : w.cell? ⟨xb, 3, none⟩ = some (.int .i64 limit) := h.blk.cell 3
  have hlt := h.blk.lt
  clear h
  go_enter Try.func45, Try.ntmps45
  go_wp2_with fail
  go_ret
  exact ⟨rfl, rfl⟩
set_option maxHeartbeats 1000000 in
theorem xf_shared (k : Int) (hk : 0 ≤ k ∧ k < 18446744073709551616) (h : XfIn w xb tb cb mb b0 limit FT FC pr fr l L) (hx : XL L) (ht : XT L l) (hm : MeterAt w mb m) (hmb : mb ∉ xb :: (FT ++ FC)) :
    Calls Try.prog 19 #[.pointer (some ⟨xb, 0, none⟩), .int .u64 k] w fun e w' => (∃ z, e = .returned (.int .i64 z) ∧ IsLong L k z) ∧ RdX w xb tb cb mb b0 limit FT FC fr l L 7 w' := by
  have HS := Hidden.mk (xf_start h hm hmb)
  have H := Hidden.mk (And.intro hx (And.intro ht (And.intro hk hmb)))
  clear h hx ht hm hmb hk
  go_enter Try.func19, Try.ntmps19
  go_wp2_with fail
  refine HS.out.mono ?_
  rintro e w1 ⟨rfl, hI1, hm1, hM1⟩
  have H1 := Hidden.mk (And.intro hI1 (And.intro hm1 (hM1.mono (T := mb :: FT) (fun q hq => .inl (by rw [List.mem_singleton.1 hq]; simp)))))
  clear hI1 hm1 hM1 HS
  rcases Nat.eq_zero_or_pos L.length with h0 | h0
  · have hd : decide (0 < L.length) = false := decide_eq_false (by omega)
    have HE := Hidden.mk (show IsLong L k (-1) from by
      rw [List.eq_nil_of_length_eq_zero h0]
      exact ⟨by omega, by omega, fun c hc => ⟨fun h => by omega, fun h => absurd rfl h⟩⟩)
    rw [hd]
    clear h0 hd
    go_wp2_with fail
    go_ret
    exact ⟨⟨-1, rfl, HE.out⟩, _, _, 0, H1.out.1, H1.out.2.1, rfl, by omega, H1.out.2.2⟩
  have hd : decide (0 < L.length) = true := decide_eq_true h0
  rw [hd]
  have HK := Hidden.mk (xf_longest (c0 := 0) k H.out.2.2.1 H1.out.1 H.out.1 H.out.2.1 H1.out.2.1 H.out.2.2.2 rfl (by omega))
  clear hd h0
  go_wp2_with fail
  refine HK.out.mono ?_
  rintro e w2 ⟨z, ⟨x, y⟩, rfl, hz, -, -, pr2, m2, c2, hI2, hm2, ht2, hc2, hM2⟩
  have ha := (Mod.refl [] w2).alloc (.cells #[.int .i64 x, .int .i64 y] 89)
  have H2 := Hidden.mk (And.intro (hI2.mod ha (by simp)) (And.intro (hm2.mod ha (by simp)) (And.intro ht2 (And.intro hc2 ((H1.out.2.2.trans hM2 (fun q hq => .inl hq)).trans ha (by simp))))))
  have HZ := Hidden.mk hz
  clear hz hI2 hm2 ht2 hc2 hM2 HK ha H1
  go_wp2_with fail
  go_ret
  exact ⟨⟨z, rfl, HZ.out⟩, _, _, _, H2.out.1, H2.out.2.1, H2.out.2.2.1, by have := H2.out.2.2.2.1; omega, H2.out.2.2.2.2⟩
end
end Go.Proofs.Ytfioekkegihkoaa

/- xfast: Insert. -/
namespace Go.Proofs.Ytfioekkegihkoaa
open Go.RowKit
set_option linter.unusedVariables false
set_option linter.unusedSimpArgs false
/-- While a key's beginnings are laid: bits below n are done. -/
def InsSt (w : World) (F0 : List Nat) (xb mb limit : Nat) (A B : CL) (k : Int) (a : Nat) (ll z1 n : Nat) (wr : World) : Prop :=
  ∃ tb cb b0 FT FC pr l m c, XfIn wr xb tb cb mb b0 limit FT FC pr false l (A ++ (a, k) :: B) ∧ XTP (A ++ B) (A ++ (a, k) :: B) n l ∧ MeterAt wr mb m ∧ m.taken = (c : Nat) ∧ c ≤ 20 + n ∧ l.length = ll + (n - min n z1) ∧
    Fresh w F0 (xb :: (FT ++ FC)) ∧ Mod (mb :: F0) w wr
theorem XfIn.tabbed {W w6 : World} {xb tb cb mb b0 b1 limit : Nat} {FT FT' FC : List Nat} {pr pr1 : Int} {fr : Bool} {l l' : List (HK × Int)} {L : CL} (h : XfIn W xb tb cb mb b0 limit FT FC pr fr l L)
    (ht : TabAt w6 tb mb FT' b1 pr1 l') (hM : Mod FT W w6) (hF : ∀ q ∈ FT', q ∈ FT ∨ W.heap.size ≤ q) : XfIn w6 xb tb cb mb b1 limit FT' FC pr1 fr l' L := by
  refine ⟨h.blk.mod hM h.xFT, ht, h.chn.mod hM h.tc, fun hh => ?_, h.xFC, fun q hq hq' => ?_⟩
  · rcases hF _ hh with h1 | h1
    · exact h.xFT h1
    · have := h.blk.lt; omega
  · rcases hF _ hq with h1 | h1
    · exact h.tc q h1 hq'
    · have := h.chn.lt q hq'; omega
theorem up_ins {A B : CL} {k : Int} {a : Nat} (h : (A ++ B).Pairwise (fun e f => e.2 < f.2)) (hA : ∀ e ∈ A, e.2 < k) (hB : ∀ e ∈ B, k < e.2) : (A ++ (a, k) :: B).Pairwise (fun e f => e.2 < f.2) := by
  obtain ⟨h1, h2, h3⟩ := List.pairwise_append.1 h
  refine List.pairwise_append.2 ⟨h1, List.pairwise_cons.2 ⟨hB, h2⟩, fun e he f hf => ?_⟩
  rcases List.mem_cons.1 hf with rfl | hf
  · exact hA e he
  · exact h3 e he f hf
theorem k64_ins {A B : CL} {k : Int} {a : Nat} (hk : 0 ≤ k ∧ k < 18446744073709551616) (h : ∀ e ∈ A ++ B, 0 ≤ e.2 ∧ e.2 < 18446744073709551616) : ∀ e ∈ A ++ (a, k) :: B, 0 ≤ e.2 ∧ e.2 < 18446744073709551616 := fun e he => by
  simp only [List.mem_append, List.mem_cons] at he
  rcases he with he | rfl | he
  · exact h e (by simp [he])
  · exact hk
  · exact h e (by simp [he])
theorem fresh_not {w : World} {F F' : List Nat} {q : Nat} (h : Fresh w F F') (hq : q ∉ F) (hl : q < w.heap.size) : q ∉ F' := fun hh => by
  rcases h _ hh with h1 | h1
  · exact hq h1
  · omega
theorem Mod.trans' {w w1 w2 : World} {S : List Nat} (h : Mod [] w w1) (h2 : Mod S w1 w2) : Mod S w w2 := (h.mono (fun q hq => by simp at hq)).trans h2 (fun q hq => .inl hq)
theorem ins_mod {w W w7 : World} {F0 FT FC : List Nat} {xb mb : Nat} (h : Mod (mb :: F0) w W) (hF : Fresh w F0 (xb :: (FT ++ FC))) (h7 : Mod (mb :: FT) W w7) : Mod (mb :: F0) w w7 := h.trans h7 (fun q hq => by
  rcases List.mem_cons.1 hq with rfl | hq
  · simp
  · rcases hF q (by simp [hq]) with h1 | h1
    · exact .inl (by simp [h1])
    · exact .inr h1)
theorem XfIn.linked {W w6 : World} {xb tb cb mb b0 limit : Nat} {FT FC FC' : List Nat} {pr : Int} {fr : Bool} {l : List (HK × Int)} {L L' : CL} (h : XfIn W xb tb cb mb b0 limit FT FC pr fr l L)
    (hc : ChainAt w6 cb mb FC' limit fr L') (hM : Mod FC W w6) (hF : Fresh W FC FC') : XfIn w6 xb tb cb mb b0 limit FT FC' pr fr l L' := by
  refine ⟨h.blk.mod hM h.xFC, h.tab.mod hM (fun q hq hq' => h.tc q hq' hq), hc, h.xFT, fun hh => ?_, fun q hq hq' => ?_⟩
  · rcases hF _ hh with h1 | h1
    · exact h.xFC h1
    · have := h.blk.lt; omega
  · rcases hF _ hq' with h1 | h1
    · exact h.tc q hq h1
    · have := h.tab.lt q hq; omega
theorem ins_next {w W w6 : World} {F0 : List Nat} {xb tb cb mb b0 b1 limit : Nat} {FT FT' FC : List Nat} {pr pr1 : Int} {l : List (HK × Int)} {A B : CL} {k : Int} {a ll z1 n c : Nat} {m : Mt} {s : Int × Int} (h : XfIn W xb tb cb mb b0 limit FT FC pr false l (A ++ (a, k) :: B)) (ht : XTP (A ++ B) (A ++ (a, k) :: B) n l) (hn : n ≤ 64)
    (hs : spn (A ++ (a, k) :: B) n (pfx k n) = some s) (hm : MeterAt W mb m) (hmT : mb ∉ FT) (hc : m.taken = (c : Nat)) (hc2 : c ≤ 20 + (n + 1)) (hl : l.length = ll + (n - min n z1)) (hz : spn (A ++ B) n (pfx k n) = none ↔ z1 ≤ n) (hF0 : Fresh w F0 (xb :: (FT ++ FC))) (hM0 : Mod (mb :: F0) w W)
    (k1 : TabAt w6 tb mb FT' b1 pr1 (putL l ((n : Int), pfx k n) (packS s))) (k2 : Mod FT W w6) (k3 : ∀ q ∈ FT', q ∈ FT ∨ W.heap.size ≤ q) : InsSt w F0 xb mb limit A B k a ll z1 (n + 1) w6 := by
  refine ⟨tb, cb, b1, FT', FC, pr1, _, m, c, h.tabbed k1 k2 k3, ht.put hn _ s hs (fun p hp => spn_other (Ne.symm hp)), hm.mod k2 hmT, hc, hc2, ?_, fun q hq => ?_, hM0.trans k2 (fun q hq => ?_)⟩
  · rw [putX_len h.tab.nodup, hl, ht.get hn]
    by_cases hz1 : z1 ≤ n
    · rw [hz.2 hz1]; simp only [Option.map_none, if_true]; omega
    · have : spn (A ++ B) n (pfx k n) ≠ none := fun hh => hz1 (hz.1 hh)
      cases hsp : spn (A ++ B) n (pfx k n) with
      | none => exact absurd hsp this
      | some q => simp; omega
  · simp only [List.mem_cons, List.mem_append] at hq
    rcases hq with rfl | hq | hq
    · exact hF0 q (by simp)
    · rcases k3 q hq with h1 | h1
      · exact hF0 q (by simp [h1])
      · exact .inr (Nat.le_trans hM0.size h1)
    · exact hF0 q (by simp [hq])
  · rcases hF0 q (by simp [hq]) with h1 | h1
    · exact .inl (by simp [h1])
    · exact .inr h1
theorem RdX.trans' {w0 w w' : World} {xb tb cb mb b0 limit : Nat} {FT FC : List Nat} {fr : Bool} {l : List (HK × Int)} {L : CL} {c1 : Nat} (h : RdX w xb tb cb mb b0 limit FT FC fr l L c1 w') (hm : Mod [] w0 w) : RdX w0 xb tb cb mb b0 limit FT FC fr l L c1 w' := h.trans (hm.mono (fun q hq => by simp at hq))
def XtLen (L : CL) (n : Nat) : Prop := ∃ l, XT L l ∧ (l.map (·.1)).Nodup ∧ l.length = n
/-- What Insert answers and leaves. -/
def InsPost (w : World) (xb mb : Nat) (F : List Nat) (limit : Nat) (L : CL) (k : Int) (e : Ending) (w' : World) : Prop :=
  ∃ (er : Int) (L' : CL) (F' : List Nat) (m : Mt) (c : Nat), e = .returned (.int .i64 er) ∧ XfAt w' xb mb F' limit L' ∧ mb ∉ F' ∧ MeterAt w' mb m ∧ m.taken = (c : Nat) ∧ c ≤ 1000 ∧ Mod (mb :: F) w w' ∧ Fresh w F F' ∧
    ((k ∈ keysC L ∧ er = 4 ∧ L' = L) ∨ (k ∉ keysC L ∧ ∃ (z : Int) (n : Nat), IsLong L k z ∧ XtLen L n ∧ ((er = 5 ∧ L' = L ∧ (limit : Int) < n + L.length + (65 - z)) ∨ (er = 0 ∧ keysC L' = insL (keysC L) k ∧ (n : Int) + L.length + (65 - z) ≤ limit))))
theorem keys_ins {A B : CL} {k : Int} {a : Nat} (hA : ∀ e ∈ A, e.2 < k) (hB : ∀ e ∈ B, k ≤ e.2) : keysC (A ++ (a, k) :: B) = insL (keysC (A ++ B)) k := by
  unfold insL
  rw [rk_split hA hB, keysC_app A B, ← keysC_len A, List.take_left, List.drop_left, show A ++ (a, k) :: B = A ++ ([(a, k)] ++ B) from by simp, keysC_app, keysC_app, List.append_assoc]; rfl
theorem XfAt.of_rd {w w' : World} {xb tb cb mb b0 limit : Nat} {FT FC : List Nat} {l : List (HK × Int)} {L : CL} {c1 : Nat} (h : RdX w xb tb cb mb b0 limit FT FC false l L c1 w') (ht : XT L l) (hu : L.Pairwise (fun e f => e.2 < f.2)) (hk : ∀ e ∈ L, 0 ≤ e.2 ∧ e.2 < 18446744073709551616) (hn : l.length + L.length ≤ limit) :
    XfAt w' xb mb (xb :: (FT ++ FC)) limit L ∧ (∃ m c, MeterAt w' mb m ∧ m.taken = (c : Nat) ∧ c ≤ c1) ∧ Mod (mb :: (xb :: (FT ++ FC))) w w' := by
  obtain ⟨pr', m, c, h1, h2, h3, h4, h5⟩ := h
  refine ⟨⟨tb, cb, b0, FT, FC, pr', l, rfl, h1, ht, hu, hk, hn⟩, ⟨m, c, h2, h3, h4⟩, h5.mono (fun q hq => .inl ?_)⟩
  rcases List.mem_cons.1 hq with rfl | hq
  · simp
  · simp [hq]
end Go.Proofs.Ytfioekkegihkoaa
