/- runs.Rank. -/
import Derived.Test.YthcjnijggebcaaaRuns1
namespace Go.Proofs.Ythcjnijggebcaaa
open Go.RowKit
set_option linter.unusedVariables false
set_option linter.unusedSimpArgs false
/-- How many are below t, as runs tell it. -/
def rrank (t : Int) : List (Int × Int) → Int
  | [] => 0
  | r :: l => if r.2 < t then (r.2 - r.1 + 1) + rrank t l else if r.1 < t then t - r.1 else 0
theorem drop_get {l : List (Int × Int)} {i : Nat} {r : Int × Int} (h : l[i]? = some r) : l.drop i = r :: l.drop (i + 1) := by
  obtain ⟨h1, h2⟩ := List.getElem?_eq_some_iff.1 h
  rw [List.drop_eq_getElem_cons h1, h2]
set_option maxHeartbeats 1000000 in
theorem rank_runs {w : World} {v : Value} {l : List (Int × Int)} (t : Int) (ht : 0 ≤ t ∧ t < 65536) (h : RSl w v l) (hr : R16 l) (hl : l.length ≤ 1000000) :
    Calls Try.prog 74 #[v, .int .u16 t] w fun e w' => e = .returned (.int .i64 (rrank t l)) ∧ Mod [] w w' := by
  obtain ⟨a, cap, rfl, _⟩ := h.slice_
  have H := Hidden.mk h
  have HR := Hidden.mk hr
  obtain ⟨ht0, ht1⟩ := ht
  have etw : IntKind.i64.wrap t = t := IntWalk.i64_in _ (by omega)
  clear h hr
  go_enter Try.func74, Try.ntmps74
  go_wp2_with fail
  go_loopw [5, 10] (fun vn vi wr => ∃ i : Nat, i ≤ l.length ∧ vi = .int .i64 i ∧ vn = .int .i64 (rlen (l.take i)) ∧ rlen (l.take i) + rrank t (l.drop i) = rrank t l ∧ Mod [] w wr) (fun _ vi _ => l.length - (intOf vi).toNat)
  case atStart => exact ⟨0, by omega, rfl, rfl, by simp [rlen], Mod.refl [] w⟩
  case round =>
    obtain ⟨i, hi, rfl, rfl, hk, hm⟩ := hrel
    by_cases hin : i < l.length
    · obtain ⟨b, off, p, q, rfl, _, hx, hc1, hc2⟩ := (H.out.news hm).get hin
      have hb := HR.out (p, q) (List.mem_of_getElem? hx)
      have e := Hidden.mk (rlen_step hx)
      obtain ⟨b1, b2⟩ := rlen_bnd HR.out i hi
      rw [drop_get hx] at hk
      rw [show rrank t ((p, q) :: l.drop (i + 1)) = (if q < t then (q - p + 1) + rrank t (l.drop (i + 1)) else if p < t then t - p else 0) from rfl] at hk
      have HKK := Hidden.mk hk
      clear hk
      generalize rlen (l.take i) = s at *
      obtain ⟨hp0, hp1, hq0, hq1⟩ : 0 ≤ p ∧ p < 65536 ∧ 0 ≤ q ∧ q < 65536 := hb
      have e1 : IntKind.i64.wrap (s + (q - p + 1)) = s + (q - p + 1) := IntWalk.i64_in _ (by omega)
      have e2 : IntKind.i64.wrap (s + t) = s + t := IntWalk.i64_in _ (by omega)
      have e3 : IntKind.i64.wrap (s + t - p) = s + t - p := IntWalk.i64_in _ (by omega)
      have e4 : IntKind.i64.wrap p = p := IntWalk.i64_in _ (by omega)
      have HK := Hidden.mk (count_run (w := (wr.alloc (.cells #[.int .u16 p, .int .u16 q] 34))) p q ⟨hp0, hp1, hq0, hq1⟩)
      have HM := Hidden.mk (hm.alloc (.cells #[.int .u16 p, .int .u16 q] 34))
      clear hx hm b1 b2
      by_cases hqt : q < t
      · have HK2 : Hidden (s + (q - p + 1) + rrank t (l.drop (i + 1)) = rrank t l) := ⟨by have := HKK.out; rw [if_pos hqt] at this; rw [← this]; omega⟩
        go_wp2_with fail
        refine HK.out.mono ?_
        rintro e' w2 ⟨rfl, hm2⟩
        have HM2 := Hidden.mk (HM.out.trans hm2 (by simp))
        clear hm2 HK HM
        go_wp2_with fail
        go_roundw
        case rel => exact ⟨i + 1, by omega, by go_num, by rw [e.out], by rw [e.out]; exact HK2.out, HM2.out⟩
        case measure => simp [intOf]; omega
      · have hqd : decide (q < t) = false := decide_eq_false hqt
        by_cases hpt : p < t
        · have HK2 : Hidden (s + t - p = rrank t l) := ⟨by have := HKK.out; rw [if_neg hqt, if_pos hpt] at this; rw [← this]; omega⟩
          go_wp2_with fail
          go_ret
          exact ⟨by rw [← HK2.out]; rfl, HM.out⟩
        · have hpd : decide (p < t) = false := decide_eq_false hpt
          have HK2 : Hidden (s = rrank t l) := ⟨by have := HKK.out; rw [if_neg hqt, if_neg hpt] at this; rw [← this]; omega⟩
          go_wp2_with fail
          go_ret
          exact ⟨by rw [← HK2.out]; rfl, HM.out⟩
    · have e : i = l.length := by omega
      subst e
      have HK2 : Hidden (rlen (l.take l.length) = rrank t l) := ⟨by rw [← hk, List.drop_length]; simp [rrank]⟩
      have HM := Hidden.mk hm
      clear hm hk
      go_wp2_with fail
      go_ret
      exact ⟨by rw [← HK2.out]; rfl, HM.out⟩
end Go.Proofs.Ythcjnijggebcaaa
