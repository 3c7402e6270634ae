/- bucket.Split and Merge. -/
import Derived.Test.YthcjnijggebcaaaBucB
namespace Go.Proofs.Ythcjnijggebcaaa
open Go.RowKit
set_option linter.unusedVariables false
set_option linter.unusedSimpArgs false
/-- Two new lists. -/
def TwoRows (w : World) (l m : List Int) (e : Ending) (w' : World) : Prop := ∃ v1 v2, e = .returned (.tuple #[v1, v2]) ∧ ISl .u64 w' v1 l ∧ ISl .u64 w' v2 m ∧ Mod [] w w'
set_option maxHeartbeats 1000000 in
set_option maxRecDepth 100000 in
theorem merge64 {w : World} {v : Value} {ls : List (List Int)} (h : LSl .u64 w v ls) (hl : flen ls ≤ 1000000) (hl2 : ls.length ≤ 1000000) :
    Calls Try.prog 48 #[v] w (RowOnly .u64 62 w (asc ls.flatten)) := by
  have hc := Hidden.mk (concat64 h hl hl2)
  have HF := Hidden.mk hl
  obtain ⟨a, cap, rfl, _⟩ := h.slice_
  clear h hl hl2
  go_enter Try.func48, Try.ntmps48
  go_wp2_with fail
  refine hc.out.mono ?_
  rintro e w1 ⟨v1, rfl, hW⟩
  obtain ⟨hn, hi⟩ := hW.isl
  have HM := Hidden.mk hW.mod
  have HF2 : ls.flatten.length ≤ 1000000 := by rw [← hn]; exact HF.out
  generalize ls.flatten = f at *
  have H1 := Hidden.mk (of64 hi (Nat.le_trans HF2 (by decide)))
  obtain ⟨a1, c1, rfl, _⟩ := hi.slice_
  clear hW hn hi HF2
  go_wp2_with fail
  refine H1.out.mono ?_
  rintro e w2 ⟨v2, rfl, hW⟩
  have H2 := Hidden.mk (hW.after (w := w) HM.out)
  clear hW
  go_wp2_with fail
  go_ret
  exact ⟨_, rfl, H2.out⟩
set_option maxHeartbeats 4000000 in
set_option maxRecDepth 100000 in
theorem split64 {w : World} {v : Value} {l : List Int} (h : ISl .u64 w v l) (hl : l.length ≤ 100000) :
    Calls Try.prog 46 #[v] w (TwoRows w (l.take ((l.length + 1) / 2)) (l.drop ((l.length + 1) / 2))) := by
  obtain ⟨a, cap, rfl, k1, k2, k3, _⟩ := id h
  have H := Hidden.mk h
  have hnone := Hidden.mk k3
  clear h k3
  obtain ⟨r, hr⟩ : ∃ r, (l.length + 1) / 2 = r := ⟨_, rfl⟩
  have hrk : r ≤ l.length := by omega
  have hrd : ((l.length : Int) + 1) / 2 = (r : Int) := by omega
  have hrt : Int.tdiv ((l.length : Int) + 1) 2 = (r : Int) := by rw [Int.tdiv_eq_ediv_of_nonneg (by omega)]; exact hrd
  rw [hr]
  have r0 : (0 : Int) ≤ (r : Int) := by omega
  have r1 : (r : Int) ≤ (l.length : Int) := by omega
  have r2 : (l.length : Int) ≤ (cap : Int) := by omega
  have r3 : (r : Int) ≤ (cap : Int) := by omega
  rcases Nat.eq_zero_or_pos l.length with hz | hpos
  · have hl0 : l = [] := List.eq_nil_of_length_eq_zero hz
    obtain rfl : r = 0 := by omega
    subst hl0
    clear r0 r1 k1 hrk hl hz hr
    cases a with
    | none =>
      have hc0 := hnone.out rfl
      subst hc0
      clear r2 r3 k2
      have HT : Hidden (∀ W, Mod [] w W → ISl .u64 W (.slice none 0 0) []) := ⟨fun W _ => ISl.nil_ _ _⟩
      have HL : Hidden (∀ W, Mod [] w W → ISl .u64 W (.slice none 0 0) []) := ⟨fun W _ => ISl.nil_ _ _⟩
      go_enter Try.func46, Try.ntmps46
      go_wp2_with fail
      go_region_held3 (fun _ => True) (trivial)
          (first
            | (go_at_call 86; refine (clone64 (HT.out _ (by (repeat (first | (with_reducible refine Mod.drew ?_) | (with_reducible refine Mod.drewN ?_ _) | (with_reducible refine Mod.alloc ?_ _))); exact Mod.refl [] w)) (by first | (simp; done) | (simp; omega))).mono ?_; rintro e wa ⟨va, rfl, hW⟩; have HA := Hidden.mk hW.isl.2; have HM := Hidden.mk (Mod.trans (a := w) (S := []) (T := []) (by (repeat (first | (with_reducible refine Mod.drew ?_) | (with_reducible refine Mod.drewN ?_ _) | (with_reducible refine Mod.alloc ?_ _))); exact Mod.refl [] w) hW.mod (by simp)); clear hW)
            | (go_at_call 86; refine (clone64 (HL.out _ (by (repeat (first | (with_reducible refine Mod.drew ?_) | (with_reducible refine Mod.drewN ?_ _) | (with_reducible refine Mod.alloc ?_ _))); exact HM.out)) (by first | (simp; done) | (simp; omega))).mono ?_; rintro e wb ⟨vb, rfl, hW⟩; have HB := Hidden.mk hW.isl.2; have HA2 := Hidden.mk (HA.out.news (Mod.trans (S := []) (T := []) (by (repeat (first | (with_reducible refine Mod.drew ?_) | (with_reducible refine Mod.drewN ?_ _) | (with_reducible refine Mod.alloc ?_ _))); exact Mod.refl [] _) hW.mod (by simp))); have HM2 := Hidden.mk (Mod.trans (a := w) (S := []) (T := []) (by (repeat (first | (with_reducible refine Mod.drew ?_) | (with_reducible refine Mod.drewN ?_ _) | (with_reducible refine Mod.alloc ?_ _))); exact HM.out) hW.mod (by simp)); clear hW)
            | fail)
      all_goals
        go_wp2_with fail
        go_ret2
        exact ⟨_, _, rfl, HA2.out, HB.out, HM2.out⟩
    | some ad =>
      have HT : Hidden (∀ W, Mod [] w W → ISl .u64 W (.slice (some ad) 0 cap) []) := ⟨fun W _ => ISl.end_ _ _ _ _ k2 (by simp)⟩
      have HL : Hidden (∀ W, Mod [] w W → ISl .u64 W (.slice (some ad) 0 cap) []) := ⟨fun W _ => ISl.end_ _ _ _ _ k2 (by simp)⟩
      go_enter Try.func46, Try.ntmps46
      go_wp2_with fail
      go_region_held3 (fun _ => True) (trivial)
          (first
            | (go_at_call 86; refine (clone64 (HT.out _ (by (repeat (first | (with_reducible refine Mod.drew ?_) | (with_reducible refine Mod.drewN ?_ _) | (with_reducible refine Mod.alloc ?_ _))); exact Mod.refl [] w)) (by first | (simp; done) | (simp; omega))).mono ?_; rintro e wa ⟨va, rfl, hW⟩; have HA := Hidden.mk hW.isl.2; have HM := Hidden.mk (Mod.trans (a := w) (S := []) (T := []) (by (repeat (first | (with_reducible refine Mod.drew ?_) | (with_reducible refine Mod.drewN ?_ _) | (with_reducible refine Mod.alloc ?_ _))); exact Mod.refl [] w) hW.mod (by simp)); clear hW)
            | (go_at_call 86; refine (clone64 (HL.out _ (by (repeat (first | (with_reducible refine Mod.drew ?_) | (with_reducible refine Mod.drewN ?_ _) | (with_reducible refine Mod.alloc ?_ _))); exact HM.out)) (by first | (simp; done) | (simp; omega))).mono ?_; rintro e wb ⟨vb, rfl, hW⟩; have HB := Hidden.mk hW.isl.2; have HA2 := Hidden.mk (HA.out.news (Mod.trans (S := []) (T := []) (by (repeat (first | (with_reducible refine Mod.drew ?_) | (with_reducible refine Mod.drewN ?_ _) | (with_reducible refine Mod.alloc ?_ _))); exact Mod.refl [] _) hW.mod (by simp))); have HM2 := Hidden.mk (Mod.trans (a := w) (S := []) (T := []) (by (repeat (first | (with_reducible refine Mod.drew ?_) | (with_reducible refine Mod.drewN ?_ _) | (with_reducible refine Mod.alloc ?_ _))); exact HM.out) hW.mod (by simp)); clear hW)
            | fail)
      all_goals
        go_wp2_with fail
        go_ret2
        exact ⟨_, _, rfl, HA2.out, HB.out, HM2.out⟩
  · obtain ⟨b, off, cap', he, _, _, _, _⟩ := H.out.at_ hpos
    injection he with he he2 he3
    subst he he3
    clear he2
    have HT : Hidden (∀ W, Mod [] w W → ISl .u64 W (.slice (some ⟨b, off, none⟩) r cap) (l.take r)) := ⟨fun W hW => (H.out.news hW).take hrk⟩
    rcases Nat.lt_or_ge r cap with hrc | hrc
    · have hrz : ¬ cap = r := by omega
      have HL : Hidden (∀ W, Mod [] w W → ISl .u64 W (.slice (some ⟨b, off + r, none⟩) (l.length - r) (cap - r)) (l.drop r)) := ⟨fun W hW => (H.out.news hW).drop hrk⟩
      clear hr
      go_enter Try.func46, Try.ntmps46
      go_wp2_with fail
      go_region_held3 (fun _ => True) (trivial)
          (first
            | (go_at_call 86; refine (clone64 (HT.out _ (by (repeat (first | (with_reducible refine Mod.drew ?_) | (with_reducible refine Mod.drewN ?_ _) | (with_reducible refine Mod.alloc ?_ _))); exact Mod.refl [] w)) (by first | (simp; done) | (simp; omega))).mono ?_; rintro e wa ⟨va, rfl, hW⟩; have HA := Hidden.mk hW.isl.2; have HM := Hidden.mk (Mod.trans (a := w) (S := []) (T := []) (by (repeat (first | (with_reducible refine Mod.drew ?_) | (with_reducible refine Mod.drewN ?_ _) | (with_reducible refine Mod.alloc ?_ _))); exact Mod.refl [] w) hW.mod (by simp)); clear hW)
            | (go_at_call 86; refine (clone64 (HL.out _ (by (repeat (first | (with_reducible refine Mod.drew ?_) | (with_reducible refine Mod.drewN ?_ _) | (with_reducible refine Mod.alloc ?_ _))); exact HM.out)) (by first | (simp; done) | (simp; omega))).mono ?_; rintro e wb ⟨vb, rfl, hW⟩; have HB := Hidden.mk hW.isl.2; have HA2 := Hidden.mk (HA.out.news (Mod.trans (S := []) (T := []) (by (repeat (first | (with_reducible refine Mod.drew ?_) | (with_reducible refine Mod.drewN ?_ _) | (with_reducible refine Mod.alloc ?_ _))); exact Mod.refl [] _) hW.mod (by simp))); have HM2 := Hidden.mk (Mod.trans (a := w) (S := []) (T := []) (by (repeat (first | (with_reducible refine Mod.drew ?_) | (with_reducible refine Mod.drewN ?_ _) | (with_reducible refine Mod.alloc ?_ _))); exact HM.out) hW.mod (by simp)); clear hW)
            | fail)
      all_goals
        go_wp2_with fail
        go_ret2
        exact ⟨_, _, rfl, HA2.out, HB.out, HM2.out⟩
    · have hl1 : l.drop r = [] := by rw [List.drop_eq_nil_iff]; omega
      have HL : Hidden (∀ W, Mod [] w W → ISl .u64 W (.slice (some ⟨b, off, none⟩) 0 0) (l.drop r)) := ⟨fun W _ => by rw [hl1]; exact ISl.end_ _ _ _ _ (by omega) (by simp)⟩
      obtain rfl : cap = r := by omega
      have hlr : l.length = cap := by omega
      clear hrc r2 r3 hl1 hr hnone
      rw [hlr] at hrd hrt r1 H ⊢
      clear hlr hrk k1 hpos
      go_enter Try.func46, Try.ntmps46
      go_wp2_with fail
      go_region_held3 (fun _ => True) (trivial)
          (first
            | (go_at_call 86; refine (clone64 (HT.out _ (by (repeat (first | (with_reducible refine Mod.drew ?_) | (with_reducible refine Mod.drewN ?_ _) | (with_reducible refine Mod.alloc ?_ _))); exact Mod.refl [] w)) (by first | (simp; done) | (simp; omega))).mono ?_; rintro e wa ⟨va, rfl, hW⟩; have HA := Hidden.mk hW.isl.2; have HM := Hidden.mk (Mod.trans (a := w) (S := []) (T := []) (by (repeat (first | (with_reducible refine Mod.drew ?_) | (with_reducible refine Mod.drewN ?_ _) | (with_reducible refine Mod.alloc ?_ _))); exact Mod.refl [] w) hW.mod (by simp)); clear hW)
            | (go_at_call 86; refine (clone64 (HL.out _ (by (repeat (first | (with_reducible refine Mod.drew ?_) | (with_reducible refine Mod.drewN ?_ _) | (with_reducible refine Mod.alloc ?_ _))); exact HM.out)) (by first | (simp; done) | (simp; omega))).mono ?_; rintro e wb ⟨vb, rfl, hW⟩; have HB := Hidden.mk hW.isl.2; have HA2 := Hidden.mk (HA.out.news (Mod.trans (S := []) (T := []) (by (repeat (first | (with_reducible refine Mod.drew ?_) | (with_reducible refine Mod.drewN ?_ _) | (with_reducible refine Mod.alloc ?_ _))); exact Mod.refl [] _) hW.mod (by simp))); have HM2 := Hidden.mk (Mod.trans (a := w) (S := []) (T := []) (by (repeat (first | (with_reducible refine Mod.drew ?_) | (with_reducible refine Mod.drewN ?_ _) | (with_reducible refine Mod.alloc ?_ _))); exact HM.out) hW.mod (by simp)); clear hW)
            | fail)
      all_goals
        go_wp2_with fail
        go_ret2
        exact ⟨_, _, rfl, HA2.out, HB.out, HM2.out⟩
end Go.Proofs.Ythcjnijggebcaaa
