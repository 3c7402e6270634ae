/- XfastEmpties: the walk. -/
import Derived.Test.YtfioekkegihkoaaGAll
import Derived.Test.YtfioekkegihkoaaXfNear
import Derived.Test.YtfioekkegihkoaaGXfO
import Derived.Test.YtfioekkegihkoaaGRef11
import Derived.Test.YtfioekkegihkoaaRef11D
import Derived.Test.YtfioekkegihkoaaWords
import Derived.OpenShut
namespace Go.Proofs.Ytfioekkegihkoaa
open Go.RowKit
set_option linter.unusedVariables false
set_option linter.unusedSimpArgs false
/-- A list made beside a trie stays as it is. -/
theorem XM.withP {w0 w w' : World} {xb limit c : Nat} {ks l : List Int} {v : Value} {k : IntKind} {P : List Nat} (h : XM w0 w xb limit ks c P) (hm : Mod [] w w') (hl : ISl k w' v l) (hg : ∀ b ∈ rb v, b ∈ P ∨ w.heap.size ≤ b) : ∃ P', XM w0 w' xb limit ks c P' ∧ (∀ q ∈ P, q ∈ P') ∧ (∀ W, XK w0 P' w' W → ISl k W v l) ∧ (0 < l.length → ∀ b ∈ rb v, b ∈ P') := by
  rcases Nat.eq_zero_or_pos l.length with h0 | h0
  · obtain rfl := List.eq_nil_of_length_eq_zero h0
    obtain ⟨a, cap, rfl, h1, h2, h3, h4⟩ := hl
    exact ⟨P, h.news hm, fun q hq => hq, fun W _ => ⟨a, cap, rfl, h1, h2, h3, .inl rfl⟩, fun h => absurd h (by simp)⟩
  · have hl' := hl
    obtain ⟨b, off, cap, rfl, h1, h2, h3, h4⟩ := hl.at_ h0
    have hb : b ∈ rb (.slice (some ⟨b, off, none⟩) l.length cap) := by simp [rb, Value.ownBlock]
    have hrb : ∀ q ∈ rb (.slice (some ⟨b, off, none⟩) l.length cap), q = b := fun q hq => by simpa [rb, Value.ownBlock] using hq
    rcases hg b hb with hP | hP
    · exact ⟨P, h.news hm, fun q hq => hq, fun W hW => hW.isl hl' (fun q hq => by rw [hrb q hq]; exact hP), fun _ q hq => by rw [hrb q hq]; exact hP⟩
    · exact ⟨b :: P, h.guard hm hP h3, fun q hq => by simp [hq], fun W hW => hW.isl hl' (fun q hq => by rw [hrb q hq]; simp), fun _ q hq => by rw [hrb q hq]; simp⟩
theorem delL_not {l : List Int} {t : Int} (ht : t ∈ l) (hl : l.Pairwise (· < ·)) : t ∉ delL l t := fun h => ((delL_mem hl ht).1 h).2 rfl
theorem inK_take {X : List Int} (hr : X.Pairwise (· < ·)) {i : Nat} {x : Int} (hx : X[i]? = some x) : x ∉ X.take i ∧ inK (X.take i) x = X.take (i + 1) := by
  have e : X.take (i + 1) = X.take i ++ [x] := by rw [List.take_add_one, hx]; rfl
  have h2 : (X.take (i + 1)).Pairwise (· < ·) := hr.sublist (List.take_sublist _ _)
  rw [e] at h2
  have h3 : x ∉ X.take i := fun h => Int.lt_irrefl x ((List.pairwise_append.1 h2).2.2 x h x (by simp))
  refine ⟨h3, ?_⟩
  have h4 : ∀ y ∈ X.take i, y < x := fun y hy => (List.pairwise_append.1 h2).2.2 y hy x (by simp)
  unfold inK insL
  have hr : rk (X.take i) x = (X.take i).length := by
    unfold rk
    rw [List.countP_eq_length]; intro y hy; simpa using h4 y hy
  rw [if_neg h3, hr, List.take_length, List.drop_length, List.append_nil, e]
set_option maxHeartbeats 8000000 in
set_option maxRecDepth 100000 in
theorem xfastEmpties_walk {w : World} (seed : Int) (a1 : Option Addr) (len1 cap1 : Nat) (z1 : List Int) (a2 : Option Addr) (len2 cap2 : Nat) (z2 : List Int) (w0 : (Lit.int .u64 seed).wf = true) (w1 : IntRow .u64 w a1 len1 cap1 z1) (y1 : len1 * 8 ≤ 140737488351232) (w2 : IntRow .u8 w a2 len2 cap2 z2) (y2 : len2 * 1 ≤ 140737488351232) :
    Calls Try.prog 5 #[.int .u64 seed, .slice a1 len1 cap1, .slice a2 len2 cap2] w fun e w' => e = .returned (.bool true) ∧ Below w.heap.size w w' := by
  obtain ⟨hsl, hlen⟩ := w1.isl
  have hbz := w1.bnd
  have HLN : Hidden (((z1.take len1).take 60).length ≤ 60) := ⟨by simp; omega⟩
  have HLB : Hidden (∀ x ∈ (z1.take len1).take 60, 0 ≤ x ∧ x < 18446744073709551616) := ⟨fun x hx => hbz x (List.mem_of_mem_take (List.mem_of_mem_take hx))⟩
  have G0 : Hidden (∀ W, Mod [] w W → _) := ⟨fun W hW => words_call 60 (by decide) _ _ W (hsl.news hW)⟩
  rw [hlen] at G0
  obtain ⟨L, hL⟩ : ∃ L, (z1.take len1).take 60 = L := ⟨_, rfl⟩
  rw [hL] at G0 HLN HLB
  have HO : Hidden (∀ W i, Mod [] w W → i < len2 → ∃ b off g, a2 = some ⟨b, off, none⟩ ∧ W.cell? ⟨b, off + i, none⟩ = some (.int .u8 g) ∧ 0 ≤ g ∧ g ≤ 255) := ⟨fun W i hm hi => by
    obtain ⟨ab, aoff, rfl, hab, hcs⟩ := w2.at_ (by omega)
    obtain ⟨hcell, hwf⟩ := hcs i hi
    have hg := bounds_u8 hwf
    exact ⟨ab, aoff, _, rfl, (hm.below'.cell (p := ⟨ab, aoff + i, none⟩) hab).trans hcell, hg⟩⟩
  have hy2 : len2 ≤ 140737488351232 := by omega
  clear hL hsl hlen w0 w1 y1 w2 y2 hbz
  go_enter Try.func5, Try.ntmps5
  go_wp2_with fail
  refine (awake14 _).mono ?_
  rintro e wa ⟨rfl, hm⟩
  have HM := Hidden.mk hm
  have HN : Hidden (Calls Try.prog 11 #[.int .u64 seed, .int .i64 200000] wa fun e w' => ∃ xb, e = .returned (.tuple #[.pointer (some ⟨xb, 0, none⟩), .int .i64 0]) ∧ XM w w' xb 200000 [] 0 [] ∧ Mod [] wa w') := ⟨xm_new seed 200000 w wa (by decide) hm⟩
  clear hm
  go_wp2_with fail
  refine HN.out.mono ?_
  rintro e wb ⟨xb, rfl, hx, hm⟩
  have HX := Hidden.mk hx
  have GW := Hidden.mk (G0.out _ (HM.out.trans hm (by simp)))
  clear hx hm HN HM G0
  go_wp2_with fail
  refine GW.out.mono ?_
  rintro e wc ⟨vf, rfl, hW⟩
  have F := Hidden.mk hW.isl.2
  have HMc := Hidden.mk hW.mod
  obtain ⟨pf, cf, rfl, _⟩ := F.out.slice_
  clear hW GW
  go_wp2_with fail
  refine (of11n F.out (Nat.le_trans HLN.out (by decide))).mono ?_
  rintro e wd ⟨vx, rfl, hi, hm, hg⟩
  have hxl : (asc L).length ≤ 60 := by have := asc_le L; have := HLN.out; omega
  obtain ⟨P, hxP, hPP, hiP, hvP⟩ := HX.out.withP (HMc.out.trans hm (by simp)) hi (fun b hb => .inr (Nat.le_trans HMc.out.size (hg b hb)))
  have hbx : ∀ x ∈ asc L, 0 ≤ x ∧ x < 18446744073709551616 := fun x hx => HLB.out x (asc_mem.1 hx)
  obtain ⟨X, hX⟩ : ∃ X, asc L = X := ⟨_, rfl⟩
  have HR : Hidden (X.Pairwise (· < ·)) := ⟨by rw [← hX]; exact asc_rises L⟩
  rw [hX] at hxl hiP hbx hvP
  obtain ⟨px, cx, rfl, hs⟩ := (hiP _ (XK.refl _ _ _)).slice_
  have HB := Hidden.mk hbx
  have HI := Hidden.mk (And.intro hiP hvP)
  have HXP := Hidden.mk hxP
  clear hi hm hg hxP hPP hiP hvP hbx hX HX F HMc hs HLN HLB
  go_wp2_with fail
  go_loopw [31] (fun iv wr => ∃ (i c : Nat), i ≤ X.length ∧ iv = .int .i64 i ∧ XM w wr xb 200000 (X.take i) c P ∧ XK w P wd wr) (fun iv _ => X.length - (intOf iv).toNat)
  case atStart => exact ⟨0, 0, by omega, rfl, HXP.out, XK.refl _ _ _⟩
  case round =>
    clear HXP
    obtain ⟨i, c, hi, rfl, hx, hk⟩ := hrel
    by_cases hlt : i < X.length
    · obtain ⟨g, off, x, rfl, hg, hxi, hc⟩ := (HI.out.1 _ hk).get hlt
      have hd : decide ((i : Int) < (X.length : Int)) = true := decide_eq_true (by omega)
      obtain ⟨hn, he⟩ := inK_take HR.out hxi
      have hins := xm_insert_fit x (HB.out x (List.mem_of_getElem? hxi)) hx (by rw [List.length_take]; omega)
      rw [if_neg hn, he] at hins
      have HIN := Hidden.mk hins
      have HK0 := Hidden.mk hk
      have hw1 : IntKind.i64.wrap ((i : Int) + 1) = i + 1 := IntWalk.i64_in _ (by omega)
      clear hins hk hx hxi hn he
      go_wp2_with fail
      refine HIN.out.mono ?_
      rintro e w1 ⟨rfl, hx1, hk1⟩
      have H1 := Hidden.mk (And.intro hx1 (HK0.out.trans hk1))
      clear hx1 hk1 HIN
      go_wp2_with fail
      go_roundw
      case rel => exact ⟨i + 1, _, by omega, rfl, H1.out⟩
      case measure => simp [intOf]; omega
    · obtain rfl : i = X.length := by omega
      rw [List.take_length] at hx
      have HX := Hidden.mk (And.intro hx hk)
      clear hx hk hlt
      have hd : decide ((X.length : Int) < (X.length : Int)) = false := decide_eq_false (by omega)
      go_wp2_with fail
      go_loopw [9, 12] (fun lv iv wq => ∃ (Y : List Int) (P' : List Nat) (c i : Nat), i + Y.length = X.length ∧ iv = .int .i64 i ∧ Y.Pairwise (· < ·) ∧ (∀ x ∈ Y, 0 ≤ x ∧ x < 18446744073709551616) ∧ XM w wq xb 200000 Y c P' ∧ (∀ W, XK w P' wq W → ISl .u64 W lv Y) ∧ (0 < Y.length → ∀ b ∈ rb lv, b ∈ P')) (fun lv iv _ => X.length - (intOf iv).toNat)
      case atStart => exact ⟨X, P, c, 0, by omega, rfl, HR.out, HB.out, HX.out.1, fun W hW => HI.out.1 W (HX.out.2.trans hW), HI.out.2⟩
      case round =>
        clear HX HI HR HB
        obtain ⟨Y, P', c, i, hsum, rfl, hY, hB, hx, hIY, hP⟩ := hrel
        obtain ⟨pl, cl, rfl, -⟩ := (hIY _ (XK.refl _ _ _)).slice_
        have hw1 : IntKind.i64.wrap ((i : Int) + 1) = i + 1 := IntWalk.i64_in _ (by omega)
        by_cases hYp : 0 < Y.length
        · have hd : decide ((0 : Int) < (Y.length : Int)) = true := decide_eq_true (by omega)
          rcases Nat.lt_or_ge i len2 with ho | ho
          · obtain ⟨bo, oo, g, rfl, hco, hg0, hg1⟩ := HO.out _ i hx.facts.2.2.2.2 ho
            have hdo : decide ((i : Int) < (len2 : Int)) = true := decide_eq_true (by omega)
            obtain ⟨at_, hae⟩ : ∃ q : Nat, g % (Y.length : Int) = q := ⟨(g % (Y.length : Int)).toNat, by have := Int.emod_nonneg g (show (Y.length : Int) ≠ 0 by omega); omega⟩
            have hat : at_ < Y.length := by have := Int.emod_lt_of_pos g (show (0 : Int) < Y.length by omega); omega
            obtain ⟨b, off, x, rfl, hbl, hxa, hc⟩ := (hIY _ (XK.refl _ _ _)).get hat
            have hxY : x ∈ Y := List.mem_of_getElem? hxa
            have hxb := hB x hxY
            have HDR := Hidden.mk (drop11n x (hIY _ (XK.refl _ _ _)) (by omega) (rises_le hY))
            rw [if_pos hxY] at HDR
            have HS := Hidden.mk (And.intro hY (And.intro hB (And.intro hx (And.intro hP (And.intro hxY hxb)))))
            have hat2 : (at_ : Int) < (Y.length : Int) := by omega
            have hat0 : (0 : Int) ≤ (at_ : Int) := by omega
            clear hY hB hx hP hxY hxb hIY hxa hbl
            go_wp2_with fail
            clear hae
            refine HDR.out.mono ?_
            rintro e w1 ⟨v1, rfl, hi1, hm1, hg1⟩
            obtain ⟨P1, hx1, hPP1, hiP1, hvP1⟩ := HS.out.2.2.1.withP hm1 hi1 (fun q hq => (orNew hg1 q hq).imp (fun h => HS.out.2.2.2.1 hYp _ h) id)
            have HD1 := Hidden.mk (xm_delete x HS.out.2.2.2.2.2 hx1)
            rw [if_pos HS.out.2.2.2.2.1, if_pos HS.out.2.2.2.2.1] at HD1
            have HLD := Hidden.mk (delL_len HS.out.2.2.2.2.1 HS.out.1)
            have HND := Hidden.mk (delL_not HS.out.2.2.2.2.1 HS.out.1)
            have HRD := Hidden.mk (delL_rises (t := x) HS.out.1)
            have HBD : Hidden (∀ y ∈ delL Y x, 0 ≤ y ∧ y < 18446744073709551616) := ⟨fun y hy => HS.out.2.1 y ((delL_mem HS.out.1 HS.out.2.2.2.2.1).1 hy).1⟩
            obtain ⟨Z, hZ⟩ : ∃ Z, delL Y x = Z := ⟨_, rfl⟩
            rw [hZ] at HD1 HLD HND HRD HBD hiP1 hvP1
            obtain ⟨p1, c1, rfl, hs1⟩ := (hiP1 _ (XK.refl _ _ _)).slice_
            have HI1 := Hidden.mk (And.intro hiP1 hvP1)
            clear hi1 hm1 hg1 hx1 hPP1 hiP1 hvP1 hs1 hZ HDR hc
            go_wp2_with fail
            refine HD1.out.mono ?_
            rintro e w2 ⟨rfl, hx2, hk2⟩
            have HD2 := Hidden.mk (xm_delete x HS.out.2.2.2.2.2 hx2)
            rw [if_neg HND.out, if_neg HND.out] at HD2
            have HK2 := Hidden.mk hk2
            clear hx2 hk2 HD1
            go_wp2_with fail
            refine HD2.out.mono ?_
            rintro e w3 ⟨rfl, hx3, hk3⟩
            have HH := Hidden.mk (xm_has x HS.out.2.2.2.2.2 hx3)
            rw [decide_eq_false HND.out] at HH
            have HK3 := Hidden.mk (HK2.out.trans hk3)
            clear hx3 hk3 HD2 HK2
            go_wp2_with fail
            refine HH.out.mono ?_
            rintro e w4 ⟨rfl, hx4, hk4⟩
            have HK4 := Hidden.mk (HK3.out.trans hk4)
            have HSM := Hidden.mk (same14 hx4 (by have := HLD.out; omega) (HI1.out.1 _ HK4.out) (by have := HLD.out; omega))
            rw [decide_eq_true rfl] at HSM
            have HX4 := Hidden.mk hx4
            clear hx4 hk4 HH HK3
            go_wp2_with fail
            refine HSM.out.mono ?_
            rintro e w5 ⟨rfl, hm5⟩
            have HX5 := Hidden.mk (HX4.out.news hm5)
            have HK5 := Hidden.mk (HK4.out.trans (XK.news hm5))
            clear hm5 HX4 HK4 HSM
            go_wp2_with fail
            go_roundw
            case rel => exact ⟨Z, P1, _, i + 1, by have := HLD.out; omega, by go_num, HRD.out, HBD.out, HX5.out, fun W hW => HI1.out.1 W (HK5.out.trans hW), HI1.out.2⟩
            case measure => simp [intOf]; omega
          · have hdo : decide ((i : Int) < (len2 : Int)) = false := decide_eq_false (by omega)
            have hat : 0 < Y.length := hYp
            clear HO
            obtain ⟨b, off, x, rfl, hbl, hxa, hc⟩ := (hIY _ (XK.refl _ _ _)).get hat
            have hxY : x ∈ Y := List.mem_of_getElem? hxa
            have hxb := hB x hxY
            have HDR := Hidden.mk (drop11n x (hIY _ (XK.refl _ _ _)) (by omega) (rises_le hY))
            rw [if_pos hxY] at HDR
            have HS := Hidden.mk (And.intro hY (And.intro hB (And.intro hx (And.intro hP (And.intro hxY hxb)))))
            have hat2 : (0 : Int) < (Y.length : Int) := by omega
            rw [Nat.add_zero] at hc
            clear hY hB hx hP hxY hxb hIY hxa hbl
            go_wp2_with fail
            refine HDR.out.mono ?_
            rintro e w1 ⟨v1, rfl, hi1, hm1, hg1⟩
            obtain ⟨P1, hx1, hPP1, hiP1, hvP1⟩ := HS.out.2.2.1.withP hm1 hi1 (fun q hq => (orNew hg1 q hq).imp (fun h => HS.out.2.2.2.1 hYp _ h) id)
            have HD1 := Hidden.mk (xm_delete x HS.out.2.2.2.2.2 hx1)
            rw [if_pos HS.out.2.2.2.2.1, if_pos HS.out.2.2.2.2.1] at HD1
            have HLD := Hidden.mk (delL_len HS.out.2.2.2.2.1 HS.out.1)
            have HND := Hidden.mk (delL_not HS.out.2.2.2.2.1 HS.out.1)
            have HRD := Hidden.mk (delL_rises (t := x) HS.out.1)
            have HBD : Hidden (∀ y ∈ delL Y x, 0 ≤ y ∧ y < 18446744073709551616) := ⟨fun y hy => HS.out.2.1 y ((delL_mem HS.out.1 HS.out.2.2.2.2.1).1 hy).1⟩
            obtain ⟨Z, hZ⟩ : ∃ Z, delL Y x = Z := ⟨_, rfl⟩
            rw [hZ] at HD1 HLD HND HRD HBD hiP1 hvP1
            obtain ⟨p1, c1, rfl, hs1⟩ := (hiP1 _ (XK.refl _ _ _)).slice_
            have HI1 := Hidden.mk (And.intro hiP1 hvP1)
            clear hi1 hm1 hg1 hx1 hPP1 hiP1 hvP1 hs1 hZ HDR hc
            go_wp2_with fail
            refine HD1.out.mono ?_
            rintro e w2 ⟨rfl, hx2, hk2⟩
            have HD2 := Hidden.mk (xm_delete x HS.out.2.2.2.2.2 hx2)
            rw [if_neg HND.out, if_neg HND.out] at HD2
            have HK2 := Hidden.mk hk2
            clear hx2 hk2 HD1
            go_wp2_with fail
            refine HD2.out.mono ?_
            rintro e w3 ⟨rfl, hx3, hk3⟩
            have HH := Hidden.mk (xm_has x HS.out.2.2.2.2.2 hx3)
            rw [decide_eq_false HND.out] at HH
            have HK3 := Hidden.mk (HK2.out.trans hk3)
            clear hx3 hk3 HD2 HK2
            go_wp2_with fail
            refine HH.out.mono ?_
            rintro e w4 ⟨rfl, hx4, hk4⟩
            have HK4 := Hidden.mk (HK3.out.trans hk4)
            have HSM := Hidden.mk (same14 hx4 (by have := HLD.out; omega) (HI1.out.1 _ HK4.out) (by have := HLD.out; omega))
            rw [decide_eq_true rfl] at HSM
            have HX4 := Hidden.mk hx4
            clear hx4 hk4 HH HK3
            go_wp2_with fail
            refine HSM.out.mono ?_
            rintro e w5 ⟨rfl, hm5⟩
            have HX5 := Hidden.mk (HX4.out.news hm5)
            have HK5 := Hidden.mk (HK4.out.trans (XK.news hm5))
            clear hm5 HX4 HK4 HSM
            go_wp2_with fail
            go_roundw
            case rel => exact ⟨Z, P1, _, i + 1, by have := HLD.out; omega, by go_num, HRD.out, HBD.out, HX5.out, fun W hW => HI1.out.1 W (HK5.out.trans hW), HI1.out.2⟩
            case measure => simp [intOf]; omega
        · have hd : decide ((0 : Int) < (Y.length : Int)) = false := decide_eq_false (by omega)
          obtain rfl : Y = [] := List.eq_nil_of_length_eq_zero (by omega)
          have H1 : Hidden (Calls Try.prog 34 #[.pointer (some ⟨xb, 0, none⟩)] _ fun e w' => e = .returned (.tuple #[.int .u64 0, .bool false]) ∧ XM w w' xb 200000 [] 1 P' ∧ XK w P' _ w') := ⟨xm_min hx⟩
          clear hx hIY hP hY hB hYp
          go_wp2_with fail
          refine H1.out.mono ?_
          rintro e w1 ⟨rfl, hx, -⟩
          have H2 : Hidden (Calls Try.prog 35 #[.pointer (some ⟨xb, 0, none⟩)] _ fun e w' => e = .returned (.tuple #[.int .u64 0, .bool false]) ∧ XM w w' xb 200000 [] 1 P' ∧ XK w P' _ w') := ⟨xm_max hx⟩
          clear hx H1
          go_wp2_with fail
          refine H2.out.mono ?_
          rintro e w2 ⟨rfl, hx, -⟩
          have H3 : Hidden (Calls Try.prog 36 #[.pointer (some ⟨xb, 0, none⟩)] _ fun e w' => e = .returned (.int .i64 0) ∧ XM w w' xb 200000 [] 1 P' ∧ Mod [] _ w') := ⟨xm_used hx⟩
          clear hx H2
          go_wp2_with fail
          refine H3.out.mono ?_
          rintro e w3 ⟨rfl, hx, -⟩
          have HF := Hidden.mk hx.facts.2.2.2.2
          clear hx H3
          go_wp2_with fail
          go_ret
          exact ⟨rfl, HF.out.below (Nat.le_refl _) (by simp)⟩
end Go.Proofs.Ytfioekkegihkoaa
