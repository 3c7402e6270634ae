/- The k-th, the next, the last, how many are below (lists of uint64 that rise). -/
import Derived.Test.YthcjnijggebcaaaBucA
import Derived.Test.YthcjnijggebcaaaPart
namespace Go.Proofs.Ythcjnijggebcaaa
open Go.RowKit
set_option linter.unusedVariables false
set_option linter.unusedSimpArgs false

set_option maxHeartbeats 400000 in
theorem sel64 {w : World} {v : Value} {l : List Int} (i : Int) (h : ISl .u64 w v l) (hl : l.length ≤ 1000000000) :
    Calls Try.prog 92 #[v, .int .i64 i] w fun e w' => IntBool .u64 (selL l i) e ∧ w = w' := by
  obtain ⟨a, cap, rfl, k1, k2⟩ := h.slice_
  rcases Int.lt_or_le i 0 with hi | hi
  · rw [selL_no (by omega)]
    have hiz : decide (i < 0) = true := decide_eq_true hi
    clear h
    go_enter Try.func92, Try.ntmps92
    go_wp2
    go_ret2
    exact ⟨rfl, rfl⟩
  · obtain ⟨j, rfl⟩ := Int.eq_ofNat_of_zero_le hi
    have hiz : decide ((j : Int) < 0) = false := decide_eq_false (by omega)
    rcases Nat.lt_or_ge j l.length with hj | hj
    · rw [selL_yes hj]
      obtain ⟨b, off, x, rfl, _, hx, hc⟩ := h.get hj
      have e : l.getD j 0 = x := by rw [List.getD_eq_getElem?_getD, hx]; rfl
      rw [e]
      have hjz : decide ((l.length : Int) ≤ (j : Int)) = false := decide_eq_false (by omega)
      have hjn : decide (l.length ≤ j) = false := decide_eq_false (by omega)
      clear e hx h
      go_enter Try.func92, Try.ntmps92
      go_wp2
      go_ret2
      exact ⟨rfl, rfl⟩
    · rw [selL_no (by omega)]
      have hjz : decide ((l.length : Int) ≤ (j : Int)) = true := decide_eq_true (by omega)
      have hjn : decide (l.length ≤ j) = true := decide_eq_true hj
      clear h
      go_enter Try.func92, Try.ntmps92
      go_wp2
      go_ret2
      exact ⟨rfl, rfl⟩
set_option maxHeartbeats 400000 in
theorem next64 {w : World} {v : Value} {l : List Int} (t : Int) (h : ISl .u64 w v l) (hl : l.length ≤ 1000000000) (hs : l.Pairwise (· ≤ ·)) :
    Calls Try.prog 61 #[v, .int .u64 t] w fun e w' => IntBool .u64 (selL l (rk l t)) e ∧ w = w' := by
  have hb := Hidden.mk (bin64 t h hl hs)
  have hse := Hidden.mk (sel64 (rk l t) h hl)
  obtain ⟨a, cap, rfl, _⟩ := h.slice_
  clear h hs
  generalize selL l (rk l t) = r at *
  generalize decide (t ∈ l) = d at *
  obtain ⟨x, y⟩ := r
  go_enter Try.func61, Try.ntmps61
  go_wp2_with fail
  refine hb.out.mono ?_
  rintro e w' ⟨rfl, rfl⟩
  go_wp2_with fail
  refine hse.out.mono ?_
  rintro e w' ⟨hr, rfl⟩
  unfold IntBool at hr
  subst hr
  go_wp2_with fail
  go_ret2
  exact ⟨rfl, rfl⟩
/-- The greatest up to there. -/
def prevL64 (l : List Int) (t : Int) : Int × Bool := if t ∈ l then (t, true) else selL l ((rk l t : Int) - 1)

set_option maxHeartbeats 400000 in
theorem prev64 {w : World} {v : Value} {l : List Int} (t : Int) (h : ISl .u64 w v l) (hl : l.length ≤ 1000000000) (hs : l.Pairwise (· ≤ ·)) :
    Calls Try.prog 63 #[v, .int .u64 t] w fun e w' => IntBool .u64 (prevL64 l t) e ∧ w = w' := by
  have hb := Hidden.mk (bin64 t h hl hs)
  have hse := Hidden.mk (sel64 ((rk l t : Int) - 1) h hl)
  have hrk := rk_le l t
  obtain ⟨a, cap, rfl, _⟩ := h.slice_
  have hy := h
  clear h
  unfold prevL64
  by_cases ht : t ∈ l
  · rw [decide_eq_true ht] at hb
    rw [if_pos ht]
    have hsr := Hidden.mk (sel64 (rk l t) hy hl)
    obtain ⟨e1, e2⟩ := (mem_rk hs).1 ht
    rw [selL_yes e1, e2] at hsr
    clear hse ht e1 e2 hs
    generalize rk l t = q at *
    go_enter Try.func63, Try.ntmps63
    go_wp2_with fail
    refine hb.out.mono ?_
    rintro e w' ⟨rfl, rfl⟩
    go_wp2_with fail
    refine hsr.out.mono ?_
    rintro e w' ⟨hr, rfl⟩
    unfold IntBool at hr
    subst hr
    go_wp2_with fail
    go_ret2
    exact ⟨rfl, rfl⟩
  · rw [decide_eq_false ht] at hb
    clear hs hy
    rw [if_neg ht]
    clear ht
    generalize selL l ((rk l t : Int) - 1) = r at *
    generalize rk l t = q at *
    obtain ⟨x, y⟩ := r
    go_enter Try.func63, Try.ntmps63
    go_wp2_with fail
    refine hb.out.mono ?_
    rintro e w' ⟨rfl, rfl⟩
    go_wp2_with fail
    refine hse.out.mono ?_
    rintro e w' ⟨hr, rfl⟩
    unfold IntBool at hr
    subst hr
    go_wp2_with fail
    go_ret2
    exact ⟨rfl, rfl⟩
end Go.Proofs.Ythcjnijggebcaaa
