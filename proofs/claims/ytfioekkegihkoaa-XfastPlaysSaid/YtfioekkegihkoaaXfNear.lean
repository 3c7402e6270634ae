/- XfastNear: the walk. -/
import Derived.Test.YtfioekkegihkoaaGXfO
import Derived.Test.YtfioekkegihkoaaGRef11
import Derived.Test.YtfioekkegihkoaaWords
import Derived.OpenShut
namespace Go.Proofs.Ytfioekkegihkoaa
open Go.RowKit
set_option linter.unusedVariables false
set_option linter.unusedSimpArgs false
theorem wf64 {x : Int} (h : (Lit.int .u64 x).wf = true) : 0 ≤ x ∧ x < 18446744073709551616 := by
  have := bounds_u64 h; omega
theorem IntRow.bnd {w : World} {a : Option Addr} {len cap : Nat} {zs : List Int} (h : IntRow .u64 w a len cap zs) : ∀ x ∈ zs, 0 ≤ x ∧ x < 18446744073709551616 := by
  rcases h with ⟨_, _, _, rfl⟩ | ⟨x, _, _, _, _, _, h⟩
  · simp
  · exact fun x hx => wf64 (h x hx)
/-- Keys one after the other, of a rising list: that list. -/
theorem fold_in : ∀ (m ks : List Int), (ks ++ m).Pairwise (· < ·) → m.foldl inK ks = ks ++ m
  | [], ks, _ => by simp
  | x :: m, ks, h => by
    have h1 : ∀ y ∈ ks, y < x := fun y hy => (List.pairwise_append.1 h).2.2 y hy x (by simp)
    have h2 : x ∉ ks := fun hx => Int.lt_irrefl x (h1 x hx)
    have h3 : inK ks x = ks ++ [x] := by
      unfold inK insL
      have hr : rk ks x = ks.length := by
        unfold rk
        rw [List.countP_eq_length]; intro y hy; simpa using h1 y hy
      rw [if_neg h2, hr, List.take_length, List.drop_length, List.append_nil]
    rw [List.foldl_cons, h3, fold_in m (ks ++ [x]) (by rw [List.append_assoc]; exact h), List.append_assoc]; rfl
set_option maxHeartbeats 4000000 in
set_option maxRecDepth 100000 in
theorem xfastNear_walk {w : World} (seed : Int) (a0 : Option Addr) (len0 cap0 : Nat) (z0 : List Int) (k : Int) (w0 : (Lit.int .u64 seed).wf = true) (w1 : IntRow .u64 w a0 len0 cap0 z0) (y1 : len0 * 8 ≤ 140737488351232) (w2 : (Lit.int .u64 k).wf = true) :
    Calls Try.prog 3 #[.int .u64 seed, .slice a0 len0 cap0, .int .u64 k] w fun e w' => e = .returned (.bool true) ∧ Below w.heap.size w w' := by
  obtain ⟨hsl, hlen⟩ := w1.isl
  have hk := wf64 w2
  have hbz := w1.bnd
  have HLN : Hidden (((z0.take len0).take 60).length ≤ 60) := ⟨by simp; omega⟩
  have HLB : Hidden (∀ x ∈ (z0.take len0).take 60, 0 ≤ x ∧ x < 18446744073709551616) := ⟨fun x hx => hbz x (List.mem_of_mem_take (List.mem_of_mem_take hx))⟩
  have G0 : Hidden (∀ W, Mod [] w W → _) := ⟨fun W hW => words_call 60 (by decide) _ _ W (hsl.news hW)⟩
  rw [hlen] at G0
  obtain ⟨L, hL⟩ : ∃ L, (z0.take len0).take 60 = L := ⟨_, rfl⟩
  rw [hL] at G0 HLN HLB
  have HK := Hidden.mk hk
  clear hL hsl hlen w0 w1 y1 w2 hk hbz
  go_enter Try.func3, Try.ntmps3
  go_wp2_with fail
  refine (awake14 _).mono ?_
  rintro e wa ⟨rfl, hm⟩
  have HM := Hidden.mk hm
  have HN : Hidden (Calls Try.prog 11 #[.int .u64 seed, .int .i64 100000] wa fun e w' => ∃ xb, e = .returned (.tuple #[.pointer (some ⟨xb, 0, none⟩), .int .i64 0]) ∧ XM w w' xb 100000 [] 0 [] ∧ Mod [] wa w') := ⟨xm_new seed 100000 w wa (by decide) hm⟩
  clear hm
  go_wp2_with fail
  refine HN.out.mono ?_
  rintro e wb ⟨xb, rfl, hx, hm⟩
  have HX := Hidden.mk hx
  have GW := Hidden.mk (G0.out _ (HM.out.trans hm (by simp)))
  clear hx hm HN HM G0
  go_wp2_with fail
  refine GW.out.mono ?_
  rintro e wc ⟨vf, rfl, hW⟩
  have F := Hidden.mk hW.isl.2
  have HMc := Hidden.mk hW.mod
  obtain ⟨pf, cf, rfl, _⟩ := F.out.slice_
  clear hW GW
  go_wp2_with fail
  refine (of11n F.out (Nat.le_trans HLN.out (by decide))).mono ?_
  rintro e wd ⟨vx, rfl, hi, hm, hg⟩
  have hxl : (asc L).length ≤ 60 := by have := asc_le L; have := HLN.out; omega
  obtain ⟨P, hxP, hiP⟩ := HX.out.with (HMc.out.trans hm (by simp)) hi (fun b hb => Nat.le_trans HMc.out.size (hg b hb))
  have hbx : ∀ x ∈ asc L, 0 ≤ x ∧ x < 18446744073709551616 := fun x hx => HLB.out x (asc_mem.1 hx)
  have HE := Hidden.mk (xm_each (asc L) vx hxP hiP hbx (by omega) (by simp; omega))
  rw [fold_in (asc L) [] (by simpa using asc_rises L), List.nil_append] at HE
  obtain ⟨X, hX⟩ : ∃ X, asc L = X := ⟨_, rfl⟩
  have HR : Hidden (X.Pairwise (· < ·)) := ⟨by rw [← hX]; exact asc_rises L⟩
  have HB := Hidden.mk hbx
  have HXN := Hidden.mk hxl
  have HI := Hidden.mk hiP
  rw [hX] at HE HB HXN HI
  obtain ⟨px, cx, rfl, hs⟩ := (HI.out _ (XK.refl _ _ _)).slice_
  clear hi hm hg hxl hxP hiP hbx hX HX F HMc hs HLN HLB
  go_wp2_with fail
  refine HE.out.mono ?_
  rintro e we ⟨⟨n0, rfl⟩, c1, hx, hk1⟩
  have HX := Hidden.mk hx
  have HH := Hidden.mk (xm_has k HK.out hx)
  replace HI := Hidden.mk (fun W (hW : XK w P we W) => HI.out W (hk1.trans hW))
  clear hx hk1 HE
  go_wp2_with fail
  refine HH.out.mono ?_
  rintro e wf ⟨rfl, hx, hk1⟩
  by_cases hmem : k ∈ X
  · have HF := Hidden.mk hx.facts.2.2.2.2
    rw [decide_eq_true hmem]
    clear hmem hx hk1 HH HX
    go_wp2_with fail
    go_ret
    exact ⟨rfl, HF.out.below (Nat.le_refl _) (by simp)⟩
  rw [decide_eq_false hmem]
  by_cases h0 : X.length = 0
  · have HF := Hidden.mk hx.facts.2.2.2.2
    have hz : ((X.length : Int) == 0) = true := by rw [h0]; rfl
    clear hmem hx hk1 HH HX h0
    go_wp2_with fail
    go_ret
    exact ⟨rfl, HF.out.below (Nat.le_refl _) (by simp)⟩
  have hz : ((X.length : Int) == 0) = false := beq_eq_false_iff_ne.2 (by omega)
  have HME := Hidden.mk hmem
  have H0 := Hidden.mk h0
  replace HI := Hidden.mk (fun W (hW : XK w P wf W) => HI.out W (hk1.trans hW))
  have HPV := Hidden.mk (xm_prev k HK.out hx)
  clear hmem hx hk1 HH HX h0
  go_wp2_with fail
  refine HPV.out.mono ?_
  rintro e wg ⟨rfl, hx, hk1⟩
  replace HI := Hidden.mk (fun W (hW : XK w P wg W) => HI.out W (hk1.trans hW))
  have HNX := Hidden.mk (xm_next k HK.out hx)
  clear hx hk1 HPV
  go_wp2_with fail
  refine HNX.out.mono ?_
  rintro e wh ⟨rfl, hx, hk1⟩
  replace HI := Hidden.mk (fun W (hW : XK w P wh W) => HI.out W (hk1.trans hW))
  have HFD := Hidden.mk (find11 k (HI.out _ (XK.refl _ _ _)) (by have := HXN.out; omega) (rises_le HR.out))
  have HX := Hidden.mk hx
  clear hx hk1 HNX
  go_wp2_with fail
  refine HFD.out.mono ?_
  rintro e wi ⟨rfl, q1, hq1⟩
  have hmi : Mod [] wh wi := by rw [hq1]; exact (Mod.refl [] wh).drewN q1
  replace HI := Hidden.mk (fun W (hW : XK w P wi W) => HI.out W ((XK.news hmi).trans hW))
  have HSH := Hidden.mk (xm_shared k HK.out (HX.out.news hmi))
  clear hq1 hmi HX HFD
  go_wp2_with fail
  refine HSH.out.mono ?_
  rintro e wj ⟨⟨z, Lc, rfl, hz2, hkc⟩, hx, hk1⟩
  have NK := near_keys hkc HR.out HB.out HK.out HME.out H0.out hz2
  have HSM : Hidden (∀ (W : World) (b : Nat) (p : Int), p ∈ X → Blk W b 22 #[.int .u64 p] → _) := ⟨fun W b p hp hb => shared14 k HK.out (ISl.one hb) (fun x hx => by rw [List.mem_singleton.1 hx]; exact HB.out p hp)⟩
  have HZ := Hidden.mk hz2
  have HF := Hidden.mk hx.facts.2.2.2.2
  replace HI := Hidden.mk (HI.out _ hk1)
  generalize rk X k = r at *
  obtain ⟨hle, np1, np0, nn1, nn0, hnear⟩ := NK
  clear hkc hx hk1 HSH hz2
  rcases Nat.eq_zero_or_pos r with hr0 | hr1
  · subst hr0
    rw [np0 rfl]
    have hlt : 0 < X.length := by have := H0.out; omega
    rw [nn1 hlt]
    obtain ⟨bx, off, q, rfl, hbl, hq, hc⟩ := HI.out.get hlt
    rw [show X.getD 0 0 = q from by rw [List.getD_eq_getElem?_getD, hq]; rfl] at hnear ⊢
    have hqm := List.mem_of_getElem? hq
    have HS2 := Hidden.mk (fun W b h => HSM.out W b q hqm h)
    have d2 : decide ((0 : Int) < (X.length : Int)) = true := decide_eq_true (by omega)
    have hl : IsLong (soloC [q]) k z := by
      rcases hnear with ⟨h1, -⟩ | ⟨-, hl⟩
      · exact absurd h1 (by omega)
      · exact hl
    have HZ2 : Hidden (∀ z2, IsLong (soloC [q]) k z2 → z2 = z) := ⟨fun z2 h => h.one hl⟩
    have hX0 : (0 : Int) < X.length := by omega
    rw [Nat.add_zero] at hc
    clear hl hqm hnear hlt nn0 nn1 np0 np1 hq
    go_wp2_with (go_at_call 20; refine (HS2.out _ _ (Blk.new _ _ _)).mono ?_; rintro e w8 ⟨z1, rfl, h1, q1, rfl⟩; obtain rfl := HZ2.out z1 h1; clear h1)
    go_ret
    exact ⟨rfl, ((HF.out.alloc _).drewN q1).below (Nat.le_refl _) (by simp)⟩
  obtain ⟨r, rfl⟩ : ∃ r', r = r' + 1 := ⟨r - 1, by omega⟩
  rw [np1 hr1]
  simp only [Nat.add_sub_cancel] at hnear ⊢
  obtain ⟨bx, off, p, rfl, hbl, hp, hc⟩ := HI.out.get (i := r) (by omega)
  rw [show X.getD r 0 = p from by rw [List.getD_eq_getElem?_getD, hp]; rfl] at hnear ⊢
  have hpm := List.mem_of_getElem? hp
  clear np1 np0 hr1 hp
  by_cases hlt : r + 1 < X.length
  · rw [nn1 hlt]
    obtain ⟨bx2, off2, q, hpx, -, hq, hc2⟩ := HI.out.get hlt
    injection hpx with hpx
    injection hpx with hp1 hp2
    subst hp1; subst hp2
    rw [show X.getD (r + 1) 0 = q from by rw [List.getD_eq_getElem?_getD, hq]; rfl] at hnear ⊢
    have hqm := List.mem_of_getElem? hq
    clear nn1 nn0 hq
    have ew : wrap64 (r : Int) = r := by have := HXN.out; unfold wrap64; omega
    have hr0 : (0 : Int) ≤ r := by omega
    have hrl : (r : Int) < X.length := by omega
    have HS1 := Hidden.mk (fun W b h => HSM.out W b p hpm h)
    have HS2 := Hidden.mk (fun W b h => HSM.out W b q hqm h)
    have d1 : decide ((0 : Int) < (r : Int) + 1) = true := decide_eq_true (by omega)
    have d2 : decide ((r : Int) + 1 < (X.length : Int)) = true := decide_eq_true (by omega)
    clear hpm hqm
    rcases hnear with ⟨-, hl⟩ | ⟨-, hl⟩
    · have HZ1 : Hidden (∀ z1, IsLong (soloC [p]) k z1 → z1 = z) := ⟨fun z1 h => h.one hl⟩
      clear hl HS2
      go_wp2_with (go_at_call 20; refine (HS1.out _ _ (Blk.new _ _ _)).mono ?_; rintro e w8 ⟨z1, rfl, h1, q1, rfl⟩; obtain rfl := HZ1.out z1 h1; clear h1)
      go_ret
      exact ⟨rfl, ((HF.out.alloc _).drewN q1).below (Nat.le_refl _) (by simp)⟩
    · have HZ2 : Hidden (∀ z2, IsLong (soloC [q]) k z2 → z2 = z) := ⟨fun z2 h => h.one hl⟩
      clear hl
      go_wp2_with fail
      refine (HS1.out _ _ (Blk.new _ _ _)).mono ?_
      rintro e w8 ⟨z1, rfl, h1, q1, rfl⟩
      clear h1
      by_cases hzz : z1 = z
      · subst hzz
        go_wp2_with fail
        go_ret
        exact ⟨rfl, ((HF.out.alloc _).drewN q1).below (Nat.le_refl _) (by simp)⟩
      · have hb : (z1 == z) = false := beq_eq_false_iff_ne.2 hzz
        clear hzz
        go_wp2_with fail
        refine (HS2.out _ _ (Blk.new' (by simp) _ _)).mono ?_
        rintro e w9 ⟨z2, rfl, h2, q2, rfl⟩
        obtain rfl := HZ2.out z2 h2
        clear h2
        go_wp2_with fail
        go_ret
        exact ⟨rfl, ((((HF.out.alloc _).drewN q1).alloc _).drewN q2).below (Nat.le_refl _) (by simp)⟩
  · rw [nn0 hlt]
    have hrl2 : r + 1 = X.length := by omega
    have ew : wrap64 (r : Int) = r := by have := HXN.out; unfold wrap64; omega
    have hr0 : (0 : Int) ≤ r := by omega
    have hrl : (r : Int) < X.length := by omega
    have HS1 := Hidden.mk (fun W b h => HSM.out W b p hpm h)
    have d1 : decide ((0 : Int) < (r : Int) + 1) = true := decide_eq_true (by omega)
    have d2 : decide ((r : Int) + 1 < (X.length : Int)) = false := decide_eq_false (by omega)
    have hl : IsLong (soloC [p]) k z := by
      rcases hnear with ⟨-, hl⟩ | ⟨h1, -⟩
      · exact hl
      · exact absurd h1 hlt
    have HZ1 : Hidden (∀ z1, IsLong (soloC [p]) k z1 → z1 = z) := ⟨fun z1 h => h.one hl⟩
    clear hl hpm hnear hlt hrl2 nn0 nn1
    go_wp2_with (go_at_call 20; refine (HS1.out _ _ (Blk.new _ _ _)).mono ?_; rintro e w8 ⟨z1, rfl, h1, q1, rfl⟩; obtain rfl := HZ1.out z1 h1; clear h1)
    go_ret
    exact ⟨rfl, ((HF.out.alloc _).drewN q1).below (Nat.le_refl _) (by simp)⟩
end Go.Proofs.Ytfioekkegihkoaa
