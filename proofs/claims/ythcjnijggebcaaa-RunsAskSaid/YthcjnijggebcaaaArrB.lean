/- The k-th, the next, the last, how many are below (lists of uint16 that rise). -/
import Derived.Test.YthcjnijggebcaaaArrA
import Derived.Test.YthcjnijggebcaaaPart
namespace Go.Proofs.Ythcjnijggebcaaa
open Go.RowKit
set_option linter.unusedVariables false
set_option linter.unusedSimpArgs false

set_option maxHeartbeats 400000 in
theorem sel16 {w : World} {v : Value} {l : List Int} (i : Int) (h : ISl .u16 w v l) (hl : l.length ≤ 1000000000) :
    Calls Try.prog 32 #[v, .int .i64 i] w fun e w' => IntBool .u16 (selL l i) e ∧ w = w' := by
  obtain ⟨a, cap, rfl, k1, k2⟩ := h.slice_
  rcases Int.lt_or_le i 0 with hi | hi
  · rw [selL_no (by omega)]
    have hiz : decide (i < 0) = true := decide_eq_true hi
    clear h
    go_enter Try.func32, Try.ntmps32
    go_wp2
    go_ret2
    exact ⟨rfl, rfl⟩
  · obtain ⟨j, rfl⟩ := Int.eq_ofNat_of_zero_le hi
    have hiz : decide ((j : Int) < 0) = false := decide_eq_false (by omega)
    rcases Nat.lt_or_ge j l.length with hj | hj
    · rw [selL_yes hj]
      obtain ⟨b, off, x, rfl, _, hx, hc⟩ := h.get hj
      have e : l.getD j 0 = x := by rw [List.getD_eq_getElem?_getD, hx]; rfl
      rw [e]
      have hjz : decide ((l.length : Int) ≤ (j : Int)) = false := decide_eq_false (by omega)
      have hjn : decide (l.length ≤ j) = false := decide_eq_false (by omega)
      clear e hx h
      go_enter Try.func32, Try.ntmps32
      go_wp2
      go_ret2
      exact ⟨rfl, rfl⟩
    · rw [selL_no (by omega)]
      have hjz : decide ((l.length : Int) ≤ (j : Int)) = true := decide_eq_true (by omega)
      have hjn : decide (l.length ≤ j) = true := decide_eq_true hj
      clear h
      go_enter Try.func32, Try.ntmps32
      go_wp2
      go_ret2
      exact ⟨rfl, rfl⟩
set_option maxHeartbeats 400000 in
theorem next16 {w : World} {v : Value} {l : List Int} (t : Int) (h : ISl .u16 w v l) (hl : l.length ≤ 1000000000) (hs : l.Pairwise (· ≤ ·)) :
    Calls Try.prog 38 #[v, .int .u16 t] w fun e w' => IntBool .u16 (selL l (rk l t)) e ∧ w = w' := by
  have hb := Hidden.mk (bin16 t h hl hs)
  have hse := Hidden.mk (sel16 (rk l t) h hl)
  obtain ⟨a, cap, rfl, _⟩ := h.slice_
  clear h hs
  generalize selL l (rk l t) = r at *
  generalize decide (t ∈ l) = d at *
  obtain ⟨x, y⟩ := r
  go_enter Try.func38, Try.ntmps38
  go_wp2_with fail
  refine hb.out.mono ?_
  rintro e w' ⟨rfl, rfl⟩
  go_wp2_with fail
  refine hse.out.mono ?_
  rintro e w' ⟨hr, rfl⟩
  unfold IntBool at hr
  subst hr
  go_wp2_with fail
  go_ret2
  exact ⟨rfl, rfl⟩
/-- The greatest up to there. -/
def prevL16 (l : List Int) (t : Int) : Int × Bool := if t ∈ l then (t, true) else selL l ((rk l t : Int) - 1)

set_option maxHeartbeats 400000 in
theorem prev16 {w : World} {v : Value} {l : List Int} (t : Int) (h : ISl .u16 w v l) (hl : l.length ≤ 1000000000) (hs : l.Pairwise (· ≤ ·)) :
    Calls Try.prog 40 #[v, .int .u16 t] w fun e w' => IntBool .u16 (prevL16 l t) e ∧ w = w' := by
  have hb := Hidden.mk (bin16 t h hl hs)
  have hse := Hidden.mk (sel16 ((rk l t : Int) - 1) h hl)
  have hrk := rk_le l t
  obtain ⟨a, cap, rfl, _⟩ := h.slice_
  clear h hs
  unfold prevL16
  by_cases ht : t ∈ l
  · rw [decide_eq_true ht] at hb
    rw [if_pos ht]
    clear hse ht
    go_enter Try.func40, Try.ntmps40
    go_wp2_with fail
    refine hb.out.mono ?_
    rintro e w' ⟨rfl, rfl⟩
    go_wp2_with fail
    go_ret2
    exact ⟨rfl, rfl⟩
  · rw [decide_eq_false ht] at hb
    rw [if_neg ht]
    clear ht
    generalize selL l ((rk l t : Int) - 1) = r at *
    generalize rk l t = q at *
    obtain ⟨x, y⟩ := r
    go_enter Try.func40, Try.ntmps40
    go_wp2_with fail
    refine hb.out.mono ?_
    rintro e w' ⟨rfl, rfl⟩
    go_wp2_with fail
    refine hse.out.mono ?_
    rintro e w' ⟨hr, rfl⟩
    unfold IntBool at hr
    subst hr
    go_wp2_with fail
    go_ret2
    exact ⟨rfl, rfl⟩
set_option maxHeartbeats 400000 in
theorem rank16 {w : World} {v : Value} {l : List Int} (t : Int) (h : ISl .u16 w v l) (hl : l.length ≤ 1000000000) (hs : l.Pairwise (· ≤ ·)) :
    Calls Try.prog 33 #[v, .int .u16 t] w fun e w' => e = .returned (.int .i64 (rk l t)) ∧ w = w' := by
  have hb := Hidden.mk (bin16 t h hl hs)
  obtain ⟨a, cap, rfl, _⟩ := h.slice_
  clear h hs
  generalize decide (t ∈ l) = d at *
  go_enter Try.func33, Try.ntmps33
  go_wp2_with fail
  refine hb.out.mono ?_
  rintro e w' ⟨rfl, rfl⟩
  go_wp2_with fail
  go_ret
  exact ⟨rfl, rfl⟩
set_option maxHeartbeats 1000000 in
theorem part_16 {w : World} {v : Value} {l : List Int} (p q : Int) (h : ISl .u16 w v l) (hl : l.length ≤ 100000) (hs : l.Pairwise (· ≤ ·)) :
    Calls Try.prog 70 #[v, .int .u16 p, .int .u16 q] w (RowOnly .u16 24 w ((l.take (rk l q + (if q ∈ l then 1 else 0))).drop (rk l p))) := by
  have h1 := Hidden.mk (rank16 p h (by omega) hs)
  have h2 := Hidden.mk (rank16 q h (by omega) hs)
  have h3 := Hidden.mk (has16 q h (by omega) hs)
  have hj : rk l q + (if q ∈ l then 1 else 0) ≤ l.length := by
    have := rk_le l q
    split
    · rename_i hm
      have := ((mem_rk hs).1 hm).1; omega
    · omega
  have hi0 := rk_le l p
  obtain ⟨a, cap, rfl, k1, k2, k3, _⟩ := id h
  have H := Hidden.mk h
  have K3 := Hidden.mk k3
  clear h hs k3
  generalize rk l p = i at *
  have hfin : ∀ (d : Bool), decide (q ∈ l) = d → rk l q + (if q ∈ l then 1 else 0) = rk l q + (if d = true then 1 else 0) := fun d hd => by rw [← hd]; by_cases hm : q ∈ l <;> simp [hm]
  have HF := Hidden.mk hfin
  clear hfin
  generalize hd : decide (q ∈ l) = d at h3
  rw [HF.out d hd] at hj ⊢
  clear hd HF
  generalize rk l q = j at *
  have done_ : ∀ (J : Nat), J ≤ i → (l.take J).drop i = [] := fun J hJ => List.drop_eq_nil_iff.2 (by rw [List.length_take]; omega)
  have DONE := Hidden.mk done_
  clear done_
  cases d
  · rw [show j + (if false = true then 1 else 0) = j from by simp] at hj ⊢
    by_cases hij : i < j
    · have hij1 : (i : Int) < (j : Int) := by omega
      have hpos : 0 < l.length := by omega
      obtain ⟨b, off, cap', he, _, _, _, _⟩ := H.out.at_ hpos
      injection he with he he2 he3
      subst he he3
      clear he2
      have HCL := Hidden.mk (clone16 (l := (l.take j).drop i) ((H.out.take hj).drop (i := i) (by omega)) (by simp; omega))
      have hne : ¬ cap = i := by omega
      have hcj : (j : Int) ≤ (cap : Int) := by omega
      go_enter Try.func70, Try.ntmps70
      go_wp2_with fail
      refine h1.out.mono ?_
      rintro e w' ⟨rfl, rfl⟩
      go_wp2_with fail
      refine h2.out.mono ?_
      rintro e w' ⟨rfl, rfl⟩
      go_wp2_with fail
      refine h3.out.mono ?_
      rintro e w' ⟨rfl, rfl⟩
      go_wp2_with fail
      refine HCL.out.mono ?_
      rintro e w1 ⟨v1, rfl, hW⟩
      have HW := Hidden.mk hW
      clear hW
      go_wp2_with fail
      go_ret
      exact ⟨_, rfl, HW.out⟩
    · have hij1 : ¬ (i : Int) < (j : Int) := by omega
      rw [DONE.out j (by omega)]
      go_enter Try.func70, Try.ntmps70
      go_wp2_with fail
      refine h1.out.mono ?_
      rintro e w' ⟨rfl, rfl⟩
      go_wp2_with fail
      refine h2.out.mono ?_
      rintro e w' ⟨rfl, rfl⟩
      go_wp2_with fail
      refine h3.out.mono ?_
      rintro e w' ⟨rfl, rfl⟩
      go_wp2_with fail
      go_ret
      exact ⟨_, rfl, WayI.nil_ (Mod.refl [] w)⟩
  · rw [show j + (if true = true then 1 else 0) = j + 1 from by simp] at hj ⊢
    by_cases hij : i < j + 1
    · have hij1 : (i : Int) < (j : Int) + 1 := by omega
      have hpos : 0 < l.length := by omega
      obtain ⟨b, off, cap', he, _, _, _, _⟩ := H.out.at_ hpos
      injection he with he he2 he3
      subst he he3
      clear he2
      have HCL := Hidden.mk (clone16 (l := (l.take (j + 1)).drop i) ((H.out.take hj).drop (i := i) (by omega)) (by simp; omega))
      have hne : ¬ cap = i := by omega
      have hcj : (j : Int) + 1 ≤ (cap : Int) := by omega
      go_enter Try.func70, Try.ntmps70
      go_wp2_with fail
      refine h1.out.mono ?_
      rintro e w' ⟨rfl, rfl⟩
      go_wp2_with fail
      refine h2.out.mono ?_
      rintro e w' ⟨rfl, rfl⟩
      go_wp2_with fail
      refine h3.out.mono ?_
      rintro e w' ⟨rfl, rfl⟩
      go_wp2_with fail
      refine HCL.out.mono ?_
      rintro e w1 ⟨v1, rfl, hW⟩
      have HW := Hidden.mk hW
      clear hW
      go_wp2_with fail
      go_ret
      exact ⟨_, rfl, HW.out⟩
    · have hij1 : ¬ (i : Int) < (j : Int) + 1 := by omega
      rw [DONE.out (j + 1) (by omega)]
      go_enter Try.func70, Try.ntmps70
      go_wp2_with fail
      refine h1.out.mono ?_
      rintro e w' ⟨rfl, rfl⟩
      go_wp2_with fail
      refine h2.out.mono ?_
      rintro e w' ⟨rfl, rfl⟩
      go_wp2_with fail
      refine h3.out.mono ?_
      rintro e w' ⟨rfl, rfl⟩
      go_wp2_with fail
      go_ret
      exact ⟨_, rfl, WayI.nil_ (Mod.refl [] w)⟩
end Go.Proofs.Ythcjnijggebcaaa
