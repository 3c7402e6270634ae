/- runs.Is. -/
import Derived.Test.YthcjnijggebcaaaRuns1
namespace Go.Proofs.Ythcjnijggebcaaa
open Go.RowKit
set_option linter.unusedVariables false
set_option linter.unusedSimpArgs false
/-- The i-th is a run and stands two or more behind the one before it. -/
def okAt (l : List (Int × Int)) (i : Nat) : Prop := ∀ p q, l[i]? = some (p, q) → p ≤ q ∧ (0 < i → ∀ p' q', l[i - 1]? = some (p', q') → q' + 2 ≤ p)
/-- Runs: all are so. -/
def OkRuns (l : List (Int × Int)) : Prop := ∀ i, i < l.length → okAt l i
/-- What Is tells. -/
def IsRuns (w : World) (l : List (Int × Int)) (e : Ending) (w' : World) : Prop := ∃ g : Bool, e = .returned (.bool g) ∧ (g = true ↔ OkRuns l) ∧ Mod [] w w'
set_option maxHeartbeats 2000000 in
set_option maxRecDepth 100000 in
theorem is_runs {w : World} {v : Value} {l : List (Int × Int)} (h : RSl w v l) (hr : R16 l) (hl : l.length ≤ 1000000) :
    Calls Try.prog 24 #[v] w (IsRuns w l) := by
  obtain ⟨a, cap, rfl, _⟩ := h.slice_
  have H := Hidden.mk h
  have HR := Hidden.mk hr
  clear h hr
  go_enter Try.func24, Try.ntmps24
  go_wp2_with fail
  go_loopw [7] (fun vi wr => ∃ i : Nat, i ≤ l.length ∧ vi = .int .i64 i ∧ (∀ j, j < i → okAt l j) ∧ Mod [] w wr) (fun vi _ => l.length - (intOf vi).toNat)
  case atStart => exact ⟨0, by omega, rfl, fun j h => by omega, Mod.refl [] w⟩
  case round =>
    obtain ⟨i, hi, rfl, hok, hm⟩ := hrel
    by_cases hin : i < l.length
    · obtain ⟨b, off, p, q, rfl, hbl, hx, hc1, hc2⟩ := (H.out.news hm).get hin
      have hb := HR.out (p, q) (List.mem_of_getElem? hx)
      have HX := Hidden.mk hx
      have HO := Hidden.mk hok
      have HM := Hidden.mk (hm.alloc (.cells #[.int .u16 p, .int .u16 q] 34))
      have hG := Hidden.mk (fun (hi0 : 0 < i) => (H.out.news hm).get (i := i - 1) (by omega))
      clear hx hok hm
      by_cases hpq : p ≤ q
      · have hpqd : decide (q < p) = false := decide_eq_false (by omega)
        rcases Nat.eq_zero_or_pos i with hi0 | hi0
        · subst hi0
          rw [Nat.zero_mul, Nat.add_zero] at hc1 hc2
          go_wp2_with fail
          go_quiet (fail)
          go_wp2_with fail
          go_roundw
          case rel => exact ⟨1, by omega, by go_num, fun j hj => by
            have : j = 0 := by omega
            subst this
            intro p2 q2 h2
            rw [HX.out] at h2; injection h2 with h2; injection h2 with h2 h3; subst h2 h3
            exact ⟨hpq, fun h => by omega⟩, HM.out.drewN _⟩
          case measure => simp [intOf]; omega
        · obtain ⟨b2, off2, p2, q2, he, _, hx2, hd1, hd2⟩ := hG.out hi0
          injection he with he
          injection he with e1 e2
          subst e1 e2
          have hb2 := HR.out (p2, q2) (List.mem_of_getElem? hx2)
          have HX2 := Hidden.mk hx2
          have hiz : decide ((0 : Int) < (i : Int)) = true := decide_eq_true (by omega)
          have hin1 : decide (0 < i) = true := decide_eq_true hi0
          have hw1 : IntKind.i64.wrap p = p := IntWalk.i64_in _ (by simp at hb; omega)
          have hw2 : IntKind.i64.wrap q2 = q2 := IntWalk.i64_in _ (by simp at hb2; omega)
          have hw3 : IntKind.i64.wrap (q2 + 2) = q2 + 2 := IntWalk.i64_in _ (by simp at hb2; omega)
          clear hx2 hb hb2 hd1
          by_cases hg : p < q2 + 2
          · have hgd : decide (p < q2 + 2) = true := decide_eq_true hg
            go_wp2_with fail
            go_quiet (fail)
            go_wp2_with fail
            go_ret
            refine ⟨false, rfl, ⟨fun h => Bool.noConfusion h, fun h => ?_⟩, HM.out.drewN _⟩
            have := (h i hin p q HX.out).2 hi0 p2 q2 HX2.out
            omega
          · have hgd : decide (p < q2 + 2) = false := decide_eq_false hg
            go_wp2_with fail
            go_quiet (fail)
            go_wp2_with fail
            go_roundw
            case rel => exact ⟨i + 1, by omega, by go_num, fun j hj => by
              rcases Nat.lt_or_ge j i with h1 | h1
              · exact HO.out j h1
              · have : j = i := by omega
                subst this
                intro p3 q3 h3
                rw [HX.out] at h3; injection h3 with h3; injection h3 with h3 h4; subst h3 h4
                refine ⟨hpq, fun _ p4 q4 h4 => ?_⟩
                rw [HX2.out] at h4; injection h4 with h4; injection h4 with h4 h5; subst h4 h5
                omega, HM.out.drewN _⟩
            case measure => simp [intOf]; omega
      · have hpqd : decide (q < p) = true := decide_eq_true (by omega)
        go_wp2_with fail
        go_quiet (fail)
        go_wp2_with fail
        go_ret
        refine ⟨false, rfl, ⟨fun h => Bool.noConfusion h, fun h => ?_⟩, HM.out.drewN _⟩
        have := (h i hin p q HX.out).1
        omega
    · have e : i = l.length := by omega
      subst e
      have HO := Hidden.mk hok
      have HM := Hidden.mk hm
      clear hok hm
      go_wp2_with fail
      go_ret
      exact ⟨true, rfl, ⟨fun _ => HO.out, fun _ => rfl⟩, HM.out⟩
end Go.Proofs.Ythcjnijggebcaaa
