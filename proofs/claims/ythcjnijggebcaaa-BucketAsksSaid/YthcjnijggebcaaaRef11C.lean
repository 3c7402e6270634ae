/- ref11: Drop, Next, Prev. -/
import Derived.Test.YthcjnijggebcaaaRef11A
import Derived.Test.YthcjnijggebcaaaBucB
namespace Go.Proofs.Ythcjnijggebcaaa
open Go.RowKit
set_option linter.unusedVariables false
set_option linter.unusedSimpArgs false
set_option maxHeartbeats 1000000 in
set_option maxRecDepth 100000 in
theorem next11 {w : World} {v : Value} {l : List Int} (t : Int) (h : ISl .u64 w v l) (hl : l.length ≤ 1000000000) (hs : l.Pairwise (· ≤ ·)) :
    Calls Try.prog 62 #[v, .int .u64 t] w fun e w' => IntBool .u64 (selL l (rk l t)) e ∧ ∃ q, w' = w.drewN q := by
  have hf := Hidden.mk (find11 t h hl hs)
  have hrk := rk_le l t
  obtain ⟨a, cap, rfl, _⟩ := h.slice_
  have H := Hidden.mk h
  generalize decide (t ∈ l) = d at *
  generalize rk l t = r at *
  clear h hs
  rcases Nat.lt_or_ge r l.length with hr | hr
  · rw [selL_yes hr]
    obtain ⟨b, off, x, rfl, _, hx, hc⟩ := H.out.get hr
    have e : l.getD r 0 = x := by rw [List.getD_eq_getElem?_getD, hx]; rfl
    rw [e]
    have hne : decide ((r : Int) = (l.length : Int)) = false := decide_eq_false (by omega)
    have hne2 : ((r : Int) == (l.length : Int)) = false := by simp; omega
    have hc2 : Hidden (∀ q, (w.drewN q).cell? ⟨b, off + r, none⟩ = some (.int .u64 x)) := ⟨fun q => hc⟩
    clear e hx hc
    go_enter Try.func62, Try.ntmps62
    go_wp2_with fail
    refine hf.out.mono ?_
    rintro e w' ⟨rfl, q, rfl⟩
    have hc := hc2.out q
    go_wp2_with fail
    go_ret2
    exact ⟨rfl, q, rfl⟩
  · obtain rfl : r = l.length := by omega
    rw [selL_no (by omega)]
    go_enter Try.func62, Try.ntmps62
    go_wp2_with fail
    refine hf.out.mono ?_
    rintro e w' ⟨rfl, q, rfl⟩
    go_wp2_with fail
    go_ret2
    exact ⟨rfl, q, rfl⟩
set_option maxHeartbeats 1000000 in
set_option maxRecDepth 100000 in
theorem prev11 {w : World} {v : Value} {l : List Int} (t : Int) (h : ISl .u64 w v l) (hl : l.length ≤ 1000000000) (hs : l.Pairwise (· ≤ ·)) :
    Calls Try.prog 64 #[v, .int .u64 t] w fun e w' => IntBool .u64 (prevL64 l t) e ∧ ∃ q, w' = w.drewN q := by
  have hf := Hidden.mk (find11 t h hl hs)
  have hrk := rk_le l t
  obtain ⟨a, cap, rfl, _⟩ := h.slice_
  have H := Hidden.mk h
  unfold prevL64
  clear h hs
  by_cases ht : t ∈ l
  · rw [decide_eq_true ht] at hf
    rw [if_pos ht]
    clear ht
    generalize rk l t = r at *
    go_enter Try.func64, Try.ntmps64
    go_wp2_with fail
    refine hf.out.mono ?_
    rintro e w' ⟨rfl, q, rfl⟩
    go_wp2_with fail
    go_ret2
    exact ⟨rfl, q, rfl⟩
  · rw [decide_eq_false ht] at hf
    rw [if_neg ht]
    clear ht
    generalize rk l t = r at *
    rcases Nat.eq_zero_or_pos r with hr | hr
    · subst hr
      rw [selL_no (by omega)]
      go_enter Try.func64, Try.ntmps64
      go_wp2_with fail
      refine hf.out.mono ?_
      rintro e w' ⟨rfl, q, rfl⟩
      go_wp2_with fail
      go_ret2
      exact ⟨rfl, q, rfl⟩
    · obtain ⟨j, rfl⟩ : ∃ j, r = j + 1 := ⟨r - 1, by omega⟩
      have hj : j < l.length := by omega
      rw [show ((j + 1 : Nat) : Int) - 1 = (j : Int) from by omega, selL_yes hj]
      obtain ⟨b, off, x, rfl, _, hx, hc⟩ := H.out.get hj
      have e : l.getD j 0 = x := by rw [List.getD_eq_getElem?_getD, hx]; rfl
      rw [e]
      have hne : decide (((j + 1 : Nat) : Int) = 0) = false := decide_eq_false (by omega)
      have hne2 : (((j + 1 : Nat) : Int) == 0) = false := by simp; omega
      have hne3 : decide ((j : Int) + 1 = 0) = false := decide_eq_false (by omega)
      have hne4 : ((j : Int) + 1 == 0) = false := by simp; omega
      have hc2 : Hidden (∀ q, (w.drewN q).cell? ⟨b, off + j, none⟩ = some (.int .u64 x)) := ⟨fun q => hc⟩
      clear e hx hc
      go_enter Try.func64, Try.ntmps64
      go_wp2_with fail
      refine hf.out.mono ?_
      rintro e w' ⟨rfl, q, rfl⟩
      have hc := hc2.out q
      go_wp2_with fail
      go_ret2
      exact ⟨rfl, q, rfl⟩
set_option maxHeartbeats 4000000 in
set_option maxRecDepth 100000 in
theorem drop11 {w : World} {v : Value} {l : List Int} (t : Int) (h : ISl .u64 w v l) (hl : l.length ≤ 100000) (hs : l.Pairwise (· ≤ ·)) :
    Calls Try.prog 66 #[v, .int .u64 t] w (SomeRow w (if t ∈ l then delL l t else l)) := by
  have hf := Hidden.mk (find11 t h (by omega) hs)
  have hss := Hidden.mk hs
  obtain ⟨a, cap, rfl, k1, k2, k3, _⟩ := id h
  have H := Hidden.mk h
  clear h hs k3
  by_cases ht : t ∈ l
  · have hpos : 0 < l.length := List.length_pos_of_mem ht
    have hr1 : rk l t < l.length := ((mem_rk hss.out).1 ht).1
    rw [decide_eq_true ht] at hf
    rw [if_pos ht]
    unfold delL
    clear ht
    generalize hr : rk l t = r at *
    clear hr
    have r0 : (0 : Int) ≤ (r : Int) := by omega
    have r1 : (r : Int) ≤ (l.length : Int) := by omega
    have r2 : (l.length : Int) ≤ (cap : Int) := by omega
    have r3 : (r : Int) ≤ (cap : Int) := by omega
    have r4 : (r : Int) + 1 ≤ (l.length : Int) := by omega
    have r5 : (r : Int) + 1 ≤ (cap : Int) := by omega
    have r6 : (0 : Int) ≤ (r : Int) + 1 := by omega
    have r7 : IntKind.i64.wrap ((r : Int) + 1) = (r : Int) + 1 := IntWalk.i64_in _ (by omega)
    have r8 : ((r : Int) + 1).toNat = r + 1 := by omega
    obtain ⟨b, off, cap', he, _, _, _, _⟩ := H.out.at_ hpos
    injection he with he he2 he3
    subst he he3
    clear he2
    have HT : Hidden (∀ W, Mod [] w W → ISl .u64 W (.slice (some ⟨b, off, none⟩) r cap) (l.take r)) := ⟨fun W hW => (H.out.news hW).take (Nat.le_of_lt hr1)⟩
    rcases Nat.lt_or_ge (r + 1) cap with hrc | hrc
    · have hrz : ¬ cap = r + 1 := by omega
      have HL : Hidden (∀ W, Mod [] w W → ISl .u64 W (.slice (some ⟨b, off + (r + 1), none⟩) (l.length - (r + 1)) (cap - (r + 1))) (l.drop (r + 1))) := ⟨fun W hW => (H.out.news hW).drop (i := r + 1) hr1⟩
      go_enter Try.func66, Try.ntmps66
      go_wp2_with fail
      refine hf.out.mono ?_
      rintro e W ⟨rfl, q, hq⟩
      have HW : Hidden (Mod [] w W) := ⟨by rw [hq]; exact (Mod.refl [] w).drewN q⟩
      clear hq hf
      have hA := Hidden.mk (WayI.empty (k := .u64) (e := 62) (Mod.refl [] W)).drew
      have hT := Hidden.mk ((HT.out _ (HW.out.trans ((Mod.refl [] W).alloc (.cells #[] 62)).drew (by simp))).holds)
      have hi1 := Hidden.mk (icells_one .u64 (l.take r))
      have hi3 := Hidden.mk (icells_one .u64 (l.drop (r + 1)))
      have hlT : Hidden ((l.take r).length ≤ 100000) := ⟨by rw [List.length_take]; omega⟩
      have hlD : Hidden ((l.drop (r + 1)).length ≤ 100000) := ⟨by rw [List.length_drop]; omega⟩
      generalize l.take r = lt at *
      generalize l.drop (r + 1) = ld at *
      have hlT2 := hlT.out
      have hlD2 := hlD.out
      go_wp2_with fail
      go_region_law (first
        | (refine step_any rfl (.tmp 16) (.tmp 19) 57 rfl 62 (.int .u64 0) 1 8 (by kernel_rfl) info64 rfl (by decide) _ _ _ rfl hA.out.row _ _ _ rfl hT.out hi1.out (by omega) (by omega) ?_; intro b4 c4 w4 hr4 hm4 hf4; simp only [Nat.zero_add] at hr4 hf4; have hB := Hidden.mk (hA.out.next hr4 hm4 hf4 (m := lt) (by simp [icells])); clear hr4 hm4 hf4 hA hT; have hD := Hidden.mk ((HL.out _ (HW.out.trans hB.out.mod (by simp))).holds))
        | (refine step_any rfl (.tmp 20) (.tmp 24) 57 rfl 62 (.int .u64 0) 1 8 (by kernel_rfl) info64 rfl (by decide) _ _ _ rfl hB.out.row _ _ _ rfl hD.out hi3.out (by omega) (by omega) ?_; intro b6 c6 w6 hr6 hm6 hf6; have hE := Hidden.mk (hB.out.next hr6 hm6 hf6 (m := lt ++ ld) (by simp [icells])); clear hr6 hm6 hf6 hB hD))
      all_goals
        go_wp2_with fail
        go_ret
        exact ⟨_, rfl, hE.out.isl.2, HW.out.trans hE.out.mod (by simp)⟩
    · have hl1 : l.drop (r + 1) = [] := by rw [List.drop_eq_nil_iff]; omega
      have HL : Hidden (∀ W, Mod [] w W → ISl .u64 W (.slice (some ⟨b, off, none⟩) 0 0) (l.drop (r + 1))) := ⟨fun W _ => by rw [hl1]; exact ISl.end_ _ _ _ _ (by omega) (by simp)⟩
      clear hl1
      obtain rfl : cap = r + 1 := by omega
      clear hrc r2 r5
      have r9 : (r : Int) ≤ (r : Int) + 1 := by omega
      go_enter Try.func66, Try.ntmps66
      go_wp2_with fail
      refine hf.out.mono ?_
      rintro e W ⟨rfl, q, hq⟩
      have HW : Hidden (Mod [] w W) := ⟨by rw [hq]; exact (Mod.refl [] w).drewN q⟩
      clear hq hf
      have hA := Hidden.mk (WayI.empty (k := .u64) (e := 62) (Mod.refl [] W)).drew
      have hT := Hidden.mk ((HT.out _ (HW.out.trans ((Mod.refl [] W).alloc (.cells #[] 62)).drew (by simp))).holds)
      have hi1 := Hidden.mk (icells_one .u64 (l.take r))
      have hi3 := Hidden.mk (icells_one .u64 (l.drop (r + 1)))
      have hlT : Hidden ((l.take r).length ≤ 100000) := ⟨by rw [List.length_take]; omega⟩
      have hlD : Hidden ((l.drop (r + 1)).length ≤ 100000) := ⟨by rw [List.length_drop]; omega⟩
      generalize l.take r = lt at *
      generalize l.drop (r + 1) = ld at *
      have hlT2 := hlT.out
      have hlD2 := hlD.out
      go_wp2_with fail
      go_region_law (first
        | (refine step_any rfl (.tmp 16) (.tmp 19) 57 rfl 62 (.int .u64 0) 1 8 (by kernel_rfl) info64 rfl (by decide) _ _ _ rfl hA.out.row _ _ _ rfl hT.out hi1.out (by omega) (by omega) ?_; intro b4 c4 w4 hr4 hm4 hf4; simp only [Nat.zero_add] at hr4 hf4; have hB := Hidden.mk (hA.out.next hr4 hm4 hf4 (m := lt) (by simp [icells])); clear hr4 hm4 hf4 hA hT; have hD := Hidden.mk ((HL.out _ (HW.out.trans hB.out.mod (by simp))).holds))
        | (refine step_any rfl (.tmp 20) (.tmp 24) 57 rfl 62 (.int .u64 0) 1 8 (by kernel_rfl) info64 rfl (by decide) _ _ _ rfl hB.out.row _ _ _ rfl hD.out hi3.out (by omega) (by omega) ?_; intro b6 c6 w6 hr6 hm6 hf6; have hE := Hidden.mk (hB.out.next hr6 hm6 hf6 (m := lt ++ ld) (by simp [icells])); clear hr6 hm6 hf6 hB hD))
      all_goals
        go_wp2_with fail
        go_ret
        exact ⟨_, rfl, hE.out.isl.2, HW.out.trans hE.out.mod (by simp)⟩
  · rw [decide_eq_false ht] at hf
    rw [if_neg ht]
    clear ht
    go_enter Try.func66, Try.ntmps66
    go_wp2_with fail
    refine hf.out.mono ?_
    rintro e W ⟨rfl, q, hq⟩
    have HW : Hidden (Mod [] w W) := ⟨by rw [hq]; exact (Mod.refl [] w).drewN q⟩
    clear hq hf
    go_wp2_with fail
    go_ret
    exact ⟨_, rfl, H.out.news HW.out, HW.out⟩
end Go.Proofs.Ythcjnijggebcaaa
