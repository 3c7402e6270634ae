/- runs: count, Len. -/
import Derived.Test.YthcjnijggebcaaaRuns
namespace Go.Proofs.Ythcjnijggebcaaa
open Go.RowKit
set_option linter.unusedVariables false
set_option linter.unusedSimpArgs false
/-- Numbers of sixteen bits. -/
def R16 (l : List (Int × Int)) : Prop := ∀ p ∈ l, 0 ≤ p.1 ∧ p.1 < 65536 ∧ 0 ≤ p.2 ∧ p.2 < 65536
/-- How many numbers runs have, so far as their ends tell. -/
def rlen (l : List (Int × Int)) : Int := (l.map (fun p => p.2 - p.1 + 1)).sum
theorem rlen_step {l : List (Int × Int)} {i : Nat} {p : Int × Int} (h : l[i]? = some p) : rlen (l.take (i + 1)) = rlen (l.take i) + (p.2 - p.1 + 1) := by
  unfold rlen; rw [List.take_add_one, h]; simp
set_option maxHeartbeats 400000 in
theorem count_run {w : World} (f t : Int) (h : 0 ≤ f ∧ f < 65536 ∧ 0 ≤ t ∧ t < 65536) :
    Calls Try.prog 82 #[.agg #[.int .u16 f, .int .u16 t]] w fun e w' => e = .returned (.int .i64 (t - f + 1)) ∧ Mod [] w w' := by
  obtain ⟨h1, h2, h3, h4⟩ := h
  have e1 : IntKind.i64.wrap f = f := IntWalk.i64_in _ (by omega)
  have e2 : IntKind.i64.wrap t = t := IntWalk.i64_in _ (by omega)
  have e3 : IntKind.i64.wrap (t - f) = t - f := IntWalk.i64_in _ (by omega)
  have e4 : IntKind.i64.wrap (t - f + 1) = t - f + 1 := IntWalk.i64_in _ (by omega)
  go_enter Try.func82, Try.ntmps82
  go_wp2_with fail
  go_ret
  exact ⟨rfl, (Mod.refl [] w).alloc _⟩
theorem rlen_bnd {l : List (Int × Int)} (h : R16 l) : ∀ i, i ≤ l.length → -(65536 * (i : Int)) ≤ rlen (l.take i) ∧ rlen (l.take i) ≤ 65536 * (i : Int) := by
  intro i
  induction i with
  | zero => intro _; simp [rlen]
  | succ i ih =>
    intro hi
    obtain ⟨h1, h2⟩ := ih (by omega)
    have hx : l[i]? = some l[i] := List.getElem?_eq_getElem (by omega)
    obtain ⟨h3, h4, h5, h6⟩ := h l[i] (List.getElem_mem _)
    rw [rlen_step hx]
    constructor
    · omega
    · omega
set_option maxHeartbeats 1000000 in
theorem len_runs {w : World} {v : Value} {l : List (Int × Int)} (h : RSl w v l) (hr : R16 l) (hl : l.length ≤ 1000000) :
    Calls Try.prog 26 #[v] w fun e w' => e = .returned (.int .i64 (rlen l)) ∧ Mod [] w w' := by
  obtain ⟨a, cap, rfl, _⟩ := h.slice_
  have H := Hidden.mk h
  have HR := Hidden.mk hr
  clear h hr
  go_enter Try.func26, Try.ntmps26
  go_wp2_with fail
  go_loopw [3, 8] (fun vn vi wr => ∃ i : Nat, i ≤ l.length ∧ vi = .int .i64 i ∧ vn = .int .i64 (rlen (l.take i)) ∧ Mod [] w wr) (fun _ vi _ => l.length - (intOf vi).toNat)
  case atStart => exact ⟨0, by omega, rfl, rfl, Mod.refl [] w⟩
  case round =>
    obtain ⟨i, hi, rfl, rfl, hm⟩ := hrel
    by_cases hin : i < l.length
    · obtain ⟨b, off, p, q, rfl, _, hx, hc1, hc2⟩ := (H.out.news hm).get hin
      have hb := HR.out (p, q) (List.mem_of_getElem? hx)
      have e := Hidden.mk (rlen_step hx)
      obtain ⟨b1, b2⟩ := rlen_bnd HR.out i hi
      generalize rlen (l.take i) = s at *
      have e1 : IntKind.i64.wrap (s + (q - p + 1)) = s + (q - p + 1) := IntWalk.i64_in _ (by simp at hb; omega)
      have HK := Hidden.mk (count_run (w := (wr.alloc (.cells #[.int .u16 p, .int .u16 q] 34))) p q hb)
      have HM := Hidden.mk (hm.alloc (.cells #[.int .u16 p, .int .u16 q] 34))
      clear hx hm b1 b2
      go_wp2_with fail
      refine HK.out.mono ?_
      rintro e' w2 ⟨rfl, hm2⟩
      have HM2 := Hidden.mk (HM.out.trans hm2 (by simp))
      clear hm2 HK HM
      go_wp2_with fail
      go_roundw
      case rel => exact ⟨i + 1, by omega, by go_num, by rw [e.out], HM2.out⟩
      case measure => simp [intOf]; omega
    · have e : i = l.length := by omega
      subst e
      rw [List.take_length]
      have HM := Hidden.mk hm
      clear hm
      go_wp2_with fail
      go_ret
      exact ⟨rfl, HM.out⟩
end Go.Proofs.Ythcjnijggebcaaa
