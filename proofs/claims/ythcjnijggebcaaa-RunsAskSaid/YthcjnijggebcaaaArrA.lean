/- Of, Is, Has, Add, Drop of lists of uint16 that rise. -/
import Derived.Test.YthcjnijggebcaaaSl16B
import Derived.Test.YthcjnijggebcaaaSl16C
import Derived.Test.YthcjnijggebcaaaPart
import Derived.Deep.RegionHeld3
namespace Go.Proofs.Ythcjnijggebcaaa
open Go.RowKit
set_option linter.unusedVariables false
set_option linter.unusedSimpArgs false

theorem wayAsc16 {w w1 w2 w3 : World} {v v' : Value} {l : List Int} (h1 : WayI .u16 24 w w1 v l.length l) (hm : Mod (rb v) w1 w2) (hr : Row w3 24 1 v' (asc l).length (icells .u16 (asc l))) (hb : rb v' = rb v) (hm2 : Mod (rb v) w2 w3) : WayI .u16 24 w w3 v' (asc l).length (asc l) :=
  ⟨hr, (h1.mod.trans (hm.trans hm2 (fun x hx => .inl hx)) (fun x hx => .inr (h1.ge x hx))), fun b hb' => h1.ge b (by rwa [hb] at hb')⟩
set_option maxHeartbeats 400000 in
theorem of16 {w : World} {v : Value} {l : List Int} (h : ISl .u16 w v l) (hl : l.length ≤ 1000000000) :
    Calls Try.prog 30 #[v] w fun e w' => ∃ v', e = .returned v' ∧ WayI .u16 24 w w' v' (asc l).length (asc l) := by
  have hc := clone16 h hl
  obtain ⟨a, cap, rfl, _⟩ := h.slice_
  have HC := Hidden.mk hc
  clear hc h
  go_enter Try.func30, Try.ntmps30
  go_wp2_with fail
  refine HC.out.mono ?_
  rintro e w1 ⟨v1, rfl, hW⟩
  have HW := Hidden.mk hW
  clear hW
  go_wp2_with fail
  refine (sort16 HW.out.row hl).mono ?_
  rintro e w2 ⟨rfl, hr2, hm2⟩
  have H2 := Hidden.mk (And.intro hr2 hm2)
  clear hr2 hm2
  go_wp2_with fail
  refine (compact16 (l := srt l) (by rw [srt_length]; exact H2.out.1) (by rw [srt_length]; exact hl)).mono ?_
  rintro e w3 ⟨v3, rfl, hr3, hb3, hm3⟩
  have H3 := Hidden.mk (And.intro hr3 (And.intro hb3 hm3))
  clear hr3 hb3 hm3
  go_wp2_with fail
  go_ret
  exact ⟨_, rfl, wayAsc16 HW.out H2.out.2 H3.out.1 H3.out.2.1 H3.out.2.2⟩
set_option maxHeartbeats 1000000 in
theorem is16 {w : World} {v : Value} {l : List Int} (h : ISl .u16 w v l) (hl : l.length ≤ 1000000000) :
    Calls Try.prog 31 #[v] w fun e w' => e = .returned (.bool (isr l)) ∧ ∃ q, w' = w.drewN q := by
  obtain ⟨a, cap, rfl, k1, k2⟩ := h.slice_
  have hG : ∃ L : Nat → Int, ∀ t, L t = l.getD t 0 := ⟨fun t => l.getD t 0, fun _ => rfl⟩
  obtain ⟨L, hL⟩ := hG
  have hc : Hidden (∀ p, p < l.length → ∃ b off, a = some ⟨b, off, none⟩ ∧ ∀ q, q < l.length → w.cell? ⟨b, off + q, none⟩ = some (.int .u16 (L q))) := ⟨fun p hp => by
    obtain ⟨b, off, x, rfl, _, _, _⟩ := h.get hp
    refine ⟨b, off, rfl, fun q hq => ?_⟩
    obtain ⟨b', off', x, he, _, hx, hcell⟩ := h.get hq
    injection he with he
    injection he with e1 e2
    subst e1 e2
    rw [hcell, hL, List.getD_eq_getElem?_getD, hx]; rfl⟩
  have HL := Hidden.mk hL
  clear h hL
  generalize hn : l.length = n at *
  have HN := Hidden.mk hn
  clear hn
  go_enter Try.func31, Try.ntmps31
  go_wp2_with fail
  go_loopw [3, 6] (fun _ vi wr => ∃ (i q : Nat), vi = .int .i64 i ∧ i ≤ n ∧ wr = w.drewN q ∧ ∀ p, p < i → 0 < p → L (p - 1) < L p) (fun _ vi _ => n - (intOf vi).toNat)
  case atStart => exact ⟨0, 0, rfl, by omega, rfl, by omega⟩
  case round =>
    obtain ⟨i, q, rfl, hi, rfl, hrise⟩ := hrel
    have HR := Hidden.mk hrise
    clear hrise
    by_cases hin : i < n
    · obtain ⟨b, off, rfl, hcell⟩ := hc.out i hin
      have hcell2 : ∀ t, t < n → (w.drewN q).cell? ⟨b, off + t, none⟩ = some (.int .u16 (L t)) := hcell
      clear hcell
      obtain ⟨W, hW⟩ : ∃ W, w.drewN q = W := ⟨_, rfl⟩
      rw [hW] at hcell2 ⊢
      have HW := Hidden.mk hW
      clear hW
      rcases Nat.eq_zero_or_pos i with h0 | h0
      · subst h0
        have hz : decide ((0 : Int) < ((0 : Nat) : Int)) = false := rfl
        clear hcell2
        go_wp2_with fail
        go_quiet (fail)
        go_wp2_with fail
        go_roundw
        case rel => exact ⟨1, q + nq, rfl, by omega, by rw [← HW.out]; exact drewN_add w q nq, by omega⟩
        case measure => simp [intOf]; omega
      · have hz : (0 : Int) < (i : Int) := by omega
        have hzd : decide (0 < i) = true := decide_eq_true h0
        have c1 := hcell2 i hin
        have c2 := hcell2 (i - 1) (by omega)
        clear hcell2
        by_cases hle : L i ≤ L (i - 1)
        · have HE : Hidden (isr l = false) := ⟨by
            unfold isr
            rw [decide_eq_false_iff_not]
            intro h
            have := h i (by rw [HN.out]; exact hin) h0
            rw [← HL.out, ← HL.out] at this
            omega⟩
          go_wp2_with fail
          go_quiet (fail)
          go_wp2_with fail
          go_ret
          exact ⟨by rw [HE.out]; rfl, q + nq, by rw [← HW.out]; exact drewN_add w q nq⟩
        · go_wp2_with fail
          go_quiet (fail)
          go_wp2_with fail
          go_roundw
          case rel =>
            refine ⟨i + 1, q + nq, by go_num, by omega, by rw [← HW.out]; exact drewN_add w q nq, fun p hp hp0 => ?_⟩
            rcases Nat.lt_or_ge p i with h1 | h1
            · exact HR.out p h1 hp0
            · have : p = i := by omega
              subst this; omega
          case measure => simp [intOf]; omega
    · have HE : Hidden (isr l = true) := ⟨by
        unfold isr
        rw [decide_eq_true_iff]
        intro p hp hp0
        rw [← HL.out, ← HL.out]
        exact HR.out p (by rw [HN.out] at hp; omega) hp0⟩
      go_wp2_with fail
      go_ret
      exact ⟨by rw [HE.out]; rfl, q, rfl⟩
set_option maxHeartbeats 400000 in
theorem has16 {w : World} {v : Value} {l : List Int} (t : Int) (h : ISl .u16 w v l) (hl : l.length ≤ 1000000000) (hs : l.Pairwise (· ≤ ·)) :
    Calls Try.prog 34 #[v, .int .u16 t] w fun e w' => e = .returned (.bool (decide (t ∈ l))) ∧ w = w' := by
  have hb := Hidden.mk (bin16 t h hl hs)
  obtain ⟨a, cap, rfl, _⟩ := h.slice_
  clear h hs
  generalize decide (t ∈ l) = d at *
  go_enter Try.func34, Try.ntmps34
  go_wp2_with fail
  refine hb.out.mono ?_
  rintro e w' ⟨rfl, rfl⟩
  go_wp2_with fail
  go_ret
  exact ⟨rfl, rfl⟩
set_option maxHeartbeats 2000000 in
theorem add16 {w : World} {v : Value} {l : List Int} (t : Int) (h : ISl .u16 w v l) (hl : l.length ≤ 100000) (hs : l.Pairwise (· ≤ ·)) :
    Calls Try.prog 68 #[v, .int .u16 t] w (RowBool .u16 24 w (!decide (t ∈ l)) (if t ∈ l then l else insL l t)) := by
  have hb := Hidden.mk (bin16 t h (by omega) hs)
  have hcl := Hidden.mk (clone16 h (by omega))
  have hrk := rk_le l t
  obtain ⟨a, cap, rfl, k1, k2, k3, _⟩ := id h
  have H := Hidden.mk h
  have hnone := Hidden.mk k3
  clear h hs k3
  by_cases ht : t ∈ l
  · have hd : decide (t ∈ l) = true := decide_eq_true ht
    rw [hd] at hb ⊢
    rw [if_pos ht]
    clear hd ht
    go_enter Try.func68, Try.ntmps68
    go_wp2_with fail
    refine hb.out.mono ?_
    rintro e w' ⟨rfl, rfl⟩
    go_wp2_with fail
    refine hcl.out.mono ?_
    rintro e w1 ⟨v1, rfl, hW⟩
    have HW := Hidden.mk hW
    clear hW
    go_wp2_with fail
    go_ret2
    exact ⟨v1, rfl, HW.out⟩
  · have hd : decide (t ∈ l) = false := decide_eq_false ht
    rw [hd] at hb ⊢
    rw [if_neg ht]
    unfold insL
    clear hd ht
    generalize hr : rk l t = r at *
    clear hr
    have r0 : (0 : Int) ≤ (r : Int) := by omega
    have r1 : (r : Int) ≤ (l.length : Int) := by omega
    have r2 : (l.length : Int) ≤ (cap : Int) := by omega
    have r3 : (r : Int) ≤ (cap : Int) := by omega
    rcases Nat.eq_zero_or_pos l.length with hz | hpos
    · have hl0 : l = [] := List.eq_nil_of_length_eq_zero hz
      obtain rfl : r = 0 := by omega
      subst hl0
      clear r0 r1 k1 hrk hl hz
      cases a with
      | none =>
        have hc0 := hnone.out rfl
        subst hc0
        clear r2 r3 k2
        go_enter Try.func68, Try.ntmps68
        go_wp2_with fail
        refine hb.out.mono ?_
        rintro e w' ⟨rfl, rfl⟩
        go_wp2_with fail
        go_region_held3 (fun _ => True) (trivial)
          (first | (go_at_call 93; refine (concat16 (ls := [[], [t], []]) (LSl.drew (LSl.new3 (by simp) (ISl.nil_ _ _) (ISl.one (Blk.new _ _ _)) (ISl.nil_ _ _))) (by first | (simp [flen]; done) | (simp [flen]; omega)) (by simp)).mono ?_; rintro e w1 ⟨v1, rfl, hW⟩; have HW := Hidden.mk (hW.after (w := w) (by (repeat (first | (with_reducible refine Mod.drew ?_) | (with_reducible refine Mod.drewN ?_ _) | (with_reducible refine Mod.alloc ?_ _))); exact Mod.refl [] w)); clear hW) | fail)
        all_goals
          go_wp2_with fail
          go_ret2
          refine ⟨_, rfl, ?_⟩
          have := HW.out
          simpa [flen] using this
      | some ad =>
        go_enter Try.func68, Try.ntmps68
        go_wp2_with fail
        refine hb.out.mono ?_
        rintro e w' ⟨rfl, rfl⟩
        go_wp2_with fail
        go_region_held3 (fun _ => True) (trivial)
          (first | (go_at_call 93; refine (concat16 (ls := [[], [t], []]) (LSl.drew (LSl.new3 (by simp) (ISl.end_ _ _ _ _ (by omega) (by simp)) (ISl.one (Blk.new _ _ _)) (ISl.end_ _ _ _ _ (by omega) (by simp)))) (by first | (simp [flen]; done) | (simp [flen]; omega)) (by simp)).mono ?_; rintro e w1 ⟨v1, rfl, hW⟩; have HW := Hidden.mk (hW.after (w := w) (by (repeat (first | (with_reducible refine Mod.drew ?_) | (with_reducible refine Mod.drewN ?_ _) | (with_reducible refine Mod.alloc ?_ _))); exact Mod.refl [] w)); clear hW) | fail)
        all_goals
          go_wp2_with fail
          go_ret2
          refine ⟨_, rfl, ?_⟩
          have := HW.out
          simpa [flen] using this
    · obtain ⟨b, off, cap', he, _, _, _, _⟩ := H.out.at_ hpos
      injection he with he he2 he3
      subst he he3
      clear he2
      have HT := Hidden.mk (H.out.take hrk)
      have HF := Hidden.mk (show flen [l.take r, [t], l.drop r] ≤ 1000000 from by simp [flen]; omega)
      rcases Nat.lt_or_ge r cap with hrc | hrc
      · have hrz : ¬ cap = r := by omega
        have HL := Hidden.mk (H.out.drop hrk)
        go_enter Try.func68, Try.ntmps68
        go_wp2_with fail
        refine hb.out.mono ?_
        rintro e w' ⟨rfl, rfl⟩
        go_wp2_with fail
        go_region_held3 (fun _ => True) (trivial)
          (first | (go_at_call 93; refine (concat16 (ls := [l.take r, [t], l.drop r]) (LSl.drew (LSl.new3 (by simp) (HT.out.alloc _) (ISl.one (Blk.new _ _ _)) (HL.out.alloc _))) HF.out (by simp)).mono ?_; rintro e w1 ⟨v1, rfl, hW⟩; have HW := Hidden.mk (hW.after (w := w) (by (repeat (first | (with_reducible refine Mod.drew ?_) | (with_reducible refine Mod.drewN ?_ _) | (with_reducible refine Mod.alloc ?_ _))); exact Mod.refl [] w)); clear hW) | fail)
        all_goals
          go_wp2_with fail
          go_ret2
          refine ⟨_, rfl, ?_⟩
          have := HW.out
          simpa [flen] using this
      · have HL := Hidden.mk (show ISl .u16 w (.slice (some ⟨b, off, none⟩) 0 0) (l.drop r) from by rw [List.drop_eq_nil_iff.2 (by omega)]; exact ISl.end_ _ _ _ _ (by omega) (by simp))
        have hrz : r = cap := by omega
        subst hrz
        clear hrc r2 r3
        go_enter Try.func68, Try.ntmps68
        go_wp2_with fail
        refine hb.out.mono ?_
        rintro e w' ⟨rfl, rfl⟩
        go_wp2_with fail
        go_region_held3 (fun _ => True) (trivial)
          (first | (go_at_call 93; refine (concat16 (ls := [l.take r, [t], l.drop r]) (LSl.drew (LSl.new3 (by simp) (HT.out.alloc _) (ISl.one (Blk.new _ _ _)) (HL.out.alloc _))) HF.out (by simp)).mono ?_; rintro e w1 ⟨v1, rfl, hW⟩; have HW := Hidden.mk (hW.after (w := w) (by (repeat (first | (with_reducible refine Mod.drew ?_) | (with_reducible refine Mod.drewN ?_ _) | (with_reducible refine Mod.alloc ?_ _))); exact Mod.refl [] w)); clear hW) | fail)
        all_goals
          go_wp2_with fail
          go_ret2
          refine ⟨_, rfl, ?_⟩
          have := HW.out
          simpa [flen] using this
set_option maxHeartbeats 2000000 in
theorem del16 {w : World} {v : Value} {l : List Int} (t : Int) (h : ISl .u16 w v l) (hl : l.length ≤ 100000) (hs : l.Pairwise (· ≤ ·)) :
    Calls Try.prog 69 #[v, .int .u16 t] w (RowBool .u16 24 w (decide (t ∈ l)) (if t ∈ l then delL l t else l)) := by
  have hb := Hidden.mk (bin16 t h (by omega) hs)
  have hcl := Hidden.mk (clone16 h (by omega))
  have hrk := rk_le l t
  obtain ⟨a, cap, rfl, k1, k2, k3, _⟩ := id h
  have H := Hidden.mk h
  have hnone := Hidden.mk k3
  have hss := Hidden.mk hs
  clear h hs k3
  by_cases ht : t ∈ l
  · have hpos : 0 < l.length := List.length_pos_of_mem ht
    have hr1 : rk l t < l.length := ((mem_rk hss.out).1 ht).1
    have hd : decide (t ∈ l) = true := decide_eq_true ht
    rw [hd] at hb ⊢
    rw [if_pos ht]
    unfold delL
    clear hd ht
    generalize hr : rk l t = r at *
    clear hr hrk
    have r0 : (0 : Int) ≤ (r : Int) := by omega
    have r1 : (r : Int) ≤ (l.length : Int) := by omega
    have r2 : (l.length : Int) ≤ (cap : Int) := by omega
    have r3 : (r : Int) ≤ (cap : Int) := by omega
    have r4 : (r : Int) + 1 ≤ (l.length : Int) := by omega
    have r5 : (r : Int) + 1 ≤ (cap : Int) := by omega
    have r6 : (0 : Int) ≤ (r : Int) + 1 := by omega
    have r7 : IntKind.i64.wrap ((r : Int) + 1) = (r : Int) + 1 := IntWalk.i64_in _ (by omega)
    have r8 : ((r : Int) + 1).toNat = r + 1 := by omega
    obtain ⟨b, off, cap', he, _, _, _, _⟩ := H.out.at_ hpos
    injection he with he he2 he3
    subst he he3
    clear he2
    have HT := Hidden.mk (H.out.take (Nat.le_of_lt hr1))
    have HF := Hidden.mk (show flen [l.take r, l.drop (r + 1)] ≤ 1000000 from by simp [flen]; omega)
    rcases Nat.lt_or_ge (r + 1) cap with hrc | hrc
    · have hrz : ¬ cap = r + 1 := by omega
      have HL := Hidden.mk (H.out.drop (i := r + 1) hr1)
      go_enter Try.func69, Try.ntmps69
      go_wp2_with fail
      refine hb.out.mono ?_
      rintro e w' ⟨rfl, rfl⟩
      go_wp2_with fail
      go_region_held3 (fun _ => True) (trivial)
        (first | (go_at_call 93; refine (concat16 (ls := [l.take r, l.drop (r + 1)]) (LSl.drew (LSl.new2 (by simp) HT.out HL.out)) HF.out (by simp)).mono ?_; rintro e w1 ⟨v1, rfl, hW⟩; have HW := Hidden.mk (hW.after (w := w) (by (repeat (first | (with_reducible refine Mod.drew ?_) | (with_reducible refine Mod.drewN ?_ _) | (with_reducible refine Mod.alloc ?_ _))); exact Mod.refl [] w)); clear hW) | fail)
      all_goals
        go_wp2_with fail
        go_ret2
        refine ⟨_, rfl, ?_⟩
        have := HW.out
        simpa [flen] using this
    · have HL := Hidden.mk (show ISl .u16 w (.slice (some ⟨b, off, none⟩) 0 0) (l.drop (r + 1)) from by rw [List.drop_eq_nil_iff.2 (by omega)]; exact ISl.end_ _ _ _ _ (by omega) (by simp))
      obtain rfl : cap = r + 1 := by omega
      clear hrc r2 r5
      have r9 : (r : Int) ≤ (r : Int) + 1 := by omega
      go_enter Try.func69, Try.ntmps69
      go_wp2_with fail
      refine hb.out.mono ?_
      rintro e w' ⟨rfl, rfl⟩
      go_wp2_with fail
      go_region_held3 (fun _ => True) (trivial)
        (first | (go_at_call 93; refine (concat16 (ls := [l.take r, l.drop (r + 1)]) (LSl.drew (LSl.new2 (by simp) HT.out HL.out)) HF.out (by simp)).mono ?_; rintro e w1 ⟨v1, rfl, hW⟩; have HW := Hidden.mk (hW.after (w := w) (by (repeat (first | (with_reducible refine Mod.drew ?_) | (with_reducible refine Mod.drewN ?_ _) | (with_reducible refine Mod.alloc ?_ _))); exact Mod.refl [] w)); clear hW) | fail)
      all_goals
        go_wp2_with fail
        go_ret2
        refine ⟨_, rfl, ?_⟩
        have := HW.out
        simpa [flen] using this
  · have hd : decide (t ∈ l) = false := decide_eq_false ht
    rw [hd] at hb ⊢
    rw [if_neg ht]
    clear hd ht
    go_enter Try.func69, Try.ntmps69
    go_wp2_with fail
    refine hb.out.mono ?_
    rintro e w' ⟨rfl, rfl⟩
    go_wp2_with fail
    refine hcl.out.mono ?_
    rintro e w1 ⟨v1, rfl, hW⟩
    have HW := Hidden.mk hW
    clear hW
    go_wp2_with fail
    go_ret2
    exact ⟨v1, rfl, HW.out⟩
end Go.Proofs.Ythcjnijggebcaaa
