/- ArrayInverse: the walk. -/
import Derived.Test.YthcjnijggebcaaaArrB
import Derived.Test.YthcjnijggebcaaaFew06
import Derived.Test.YthcjnijggebcaaaAw06
import Derived.Test.YthcjnijggebcaaaMw
namespace Go.Proofs.Ythcjnijggebcaaa
open Go.RowKit
set_option linter.unusedVariables false
set_option linter.unusedSimpArgs false
/-- Plain: a number's rank leads to it. -/
theorem rk_self {l : List Int} (hl : l.Pairwise (· < ·)) {i : Nat} (hi : i < l.length) : rk l (l.getD i 0) = i := by
  have hle := rises_le hl
  refine rk_at (by omega) (fun p hp => ?_) (fun p hp hp2 => ?_)
  · rw [get_at (by omega), get_at hi]; exact List.pairwise_iff_getElem.1 hl p i (by omega) hi hp
  · rcases Nat.eq_or_lt_of_le hp with h | h
    · subst h; exact Int.le_refl _
    · rw [get_at hi, get_at hp2]; exact Int.le_of_lt (List.pairwise_iff_getElem.1 hl i p hi hp2 h)
theorem mem_at_rk {l : List Int} (hl : l.Pairwise (· ≤ ·)) {v : Int} : decide (v ∈ l) = (decide (rk l v < l.length) && decide (l.getD (rk l v) 0 = v)) := by
  rw [Bool.eq_iff_iff, Bool.and_eq_true, decide_eq_true_iff, decide_eq_true_iff, decide_eq_true_iff]
  constructor
  · intro h
    obtain ⟨p, hp, he⟩ := List.getElem_of_mem h
    have h1 : rk l v ≤ p := by
      rcases Nat.lt_or_ge p (rk l v) with h2 | h2
      · have := (rk_lt hl h2).1; rw [get_at hp] at this; omega
      · exact h2
    have h3 := rk_ge hl (t := v) (Nat.le_refl _) (by omega)
    refine ⟨by omega, ?_⟩
    rcases Nat.eq_or_lt_of_le h1 with h2 | h2
    · rw [h2, get_at hp, he]
    · have := List.pairwise_iff_getElem.1 hl (rk l v) p (by omega) hp h2
      rw [get_at (by omega)] at h3 ⊢
      omega
  · rintro ⟨h, he⟩
    rw [get_at h] at he
    rw [← he]; exact List.getElem_mem h
set_option maxHeartbeats 4000000 in
set_option maxRecDepth 100000 in
theorem arrayInverse_walk {w : World} (a0 : Option Addr) (len0 cap0 : Nat) (z0 : List Int) (a1 : Int) (w0 : IntRow .u16 w a0 len0 cap0 z0) (y0 : len0 * 2 ≤ 140737488351232) (w1 : (Lit.int .u16 a1).wf = true) :
    Calls Try.prog 6 #[.slice a0 len0 cap0, .int .u16 a1] w fun e w' => e = .returned (.bool true) ∧ Below w.heap.size w w' := by
  obtain ⟨hsl, hlen⟩ := w0.isl
  have HSL := Hidden.mk (And.intro hsl hlen)
  obtain ⟨hv0, hv1⟩ := wf_u16 w1
  obtain ⟨v, rfl⟩ := Int.eq_ofNat_of_zero_le hv0
  have HLN : Hidden (((z0.take len0).take 300).length ≤ 300) := ⟨by simp; omega⟩
  have e1 : (z0.take len0).length = len0 := hlen
  clear hsl hlen w0 w1
  go_enter Try.func6, Try.ntmps6
  go_wp2_with fail
  refine (awake06 _).mono ?_
  rintro e w1 ⟨rfl, hm1⟩
  have H1 : Hidden (∀ W, Mod [] w W → _) := ⟨fun W hW => few06_call 300 (by decide) _ _ W (HSL.out.1.news hW)⟩
  rw [e1] at H1
  obtain ⟨L, hL⟩ : ∃ L, (z0.take len0).take 300 = L := ⟨_, rfl⟩
  rw [hL] at H1 HLN
  have HM1 := Hidden.mk hm1
  clear hL e1 hm1 HSL
  go_wp2_with fail
  refine (H1.out _ HM1.out).mono ?_
  rintro e w2 ⟨v2, rfl, hW2⟩
  have hM2 := Hidden.mk (HM1.out.trans hW2.mod (by simp))
  obtain ⟨hn2, hi2⟩ := hW2.isl
  have H2 := Hidden.mk (of16 hi2 (by have := HLN.out; omega))
  obtain ⟨a2', c2, rfl, _⟩ := hi2.slice_
  clear hW2 hn2 hi2
  go_wp2_with fail
  refine H2.out.mono ?_
  rintro e w3 ⟨v3, rfl, hW3⟩
  have hM3 := Hidden.mk (hM2.out.trans hW3.mod (by simp))
  have hi3 := hW3.isl.2
  obtain ⟨l, hl⟩ : ∃ l, asc L = l := ⟨_, rfl⟩
  have hri : l.Pairwise (· < ·) := by rw [← hl]; exact asc_rises L
  have hln : l.length ≤ 300 := by rw [← hl]; have := asc_le L; have := HLN.out; omega
  rw [hl] at hi3
  clear hW3 H2 H1 hl HLN HM1 hM2 y0
  obtain ⟨a3, c3, rfl, _⟩ := hi3.slice_
  have HI := Hidden.mk hi3
  have HRI := Hidden.mk hri
  have HRL := Hidden.mk (rises_le hri)
  clear hi3 hri
  have HLN := Hidden.mk hln
  generalize hn : l.length = n at *
  have HN := Hidden.mk hn
  clear hn
  -- what the calls say, in every world in which nothing old has turned
  have C1 := Hidden.mk (fun (i : Nat) (hi : i < n) (x : MW w3) => x.same (sel16 (i : Int) (HI.out.news x.m) (by rw [HN.out]; omega)))
  have C2 := Hidden.mk (fun (t : Int) (x : MW w3) => x.same (rank16 t (HI.out.news x.m) (by rw [HN.out]; omega) HRL.out))
  have C3 := Hidden.mk (fun (i : Int) (x : MW w3) => x.same (sel16 i (HI.out.news x.m) (by rw [HN.out]; omega)))
  have C4 := Hidden.mk (fun (t : Int) (x : MW w3) => x.same (has16 t (HI.out.news x.m) (by rw [HN.out]; omega) HRL.out))
  go_wp2_with fail
  go_loopw [22] (fun vi wr => ∃ (i : Nat) (x : MW w3), i ≤ n ∧ vi = .int .i64 i ∧ wr = x.w) (fun vi _ => n - (intOf vi).toNat)
  case atStart => exact ⟨0, ⟨w3, Mod.refl [] w3⟩, by omega, rfl, rfl⟩
  case round =>
    obtain ⟨i, x, hi, rfl, rfl⟩ := hrel
    by_cases hin : i < n
    · obtain ⟨g, off, t, rfl, _, ht, hc⟩ := (HI.out.news x.m).get hin
      have htd : l.getD i 0 = t := by rw [List.getD_eq_getElem?_getD, ht]; rfl
      have hrk : rk l t = i := by rw [← htd]; exact rk_self HRI.out (by rw [HN.out]; exact hin)
      have hse : selL l (i : Int) = (t, true) := by rw [selL_yes (by rw [HN.out]; exact hin), htd]
      have D1 := Hidden.mk (fun y : MW w3 => C3.out i y)
      rw [hse] at D1
      have D2 := Hidden.mk (fun y : MW w3 => C2.out t y)
      rw [hrk] at D2
      clear ht htd hrk hse
      have hq1 : (t != t) = false := by simp
      have hq2 : ((i : Int) != (i : Int)) = false := by simp
      go_wp2_with fail
      refine (D1.out x).mono ?_
      rintro e w' ⟨rfl, x2, rfl⟩
      go_wp2_with fail
      refine (D2.out x2).mono ?_
      rintro e w' ⟨rfl, x3, rfl⟩
      go_wp2_with fail
      go_roundw
      case rel => exact ⟨i + 1, x3, by omega, by go_num, rfl⟩
      case measure => simp [intOf]; omega
    · have hie : i = n := by omega
      subst hie
      clear hi hin C1
      obtain ⟨k, hk⟩ : ∃ k, rk l v = k := ⟨_, rfl⟩
      have hkn : k ≤ i := by rw [← hk, ← HN.out]; exact rk_le l v
      have E1 := Hidden.mk (fun y : MW w3 => C2.out v y)
      have E2 := Hidden.mk (fun y : MW w3 => C3.out ((k : Int) - 1) y)
      have E3 := Hidden.mk (fun y : MW w3 => C3.out (k : Int) y)
      have E4 := Hidden.mk (fun y : MW w3 => C4.out v y)
      rw [hk] at E1
      rw [mem_at_rk HRL.out, hk, HN.out] at E4
      clear C2 C3 C4
      obtain ⟨r1, hr1⟩ : ∃ r, selL l ((k : Int) - 1) = r := ⟨_, rfl⟩
      obtain ⟨r2, hr2⟩ : ∃ r, selL l (k : Int) = r := ⟨_, rfl⟩
      rw [hr1] at E2
      rw [hr2] at E3
      have P1 : Hidden (r1.2 = decide (0 < (k : Int)) ∧ (0 < k → r1.1 < v)) := ⟨by
        rcases Nat.eq_zero_or_pos k with h | h
        · rw [← hr1, selL_no (by omega)]; exact ⟨by subst h; rfl, fun hh => by omega⟩
        · obtain ⟨j, rfl⟩ : ∃ j, k = j + 1 := ⟨k - 1, by omega⟩
          have : ((j + 1 : Nat) : Int) - 1 = (j : Int) := by omega
          rw [← hr1, this, selL_yes (by rw [HN.out]; omega)]
          exact ⟨by simp, fun _ => (rk_lt HRL.out (t := v) (p := j) (by omega)).1⟩⟩
      have P2 : Hidden (r2.2 = decide ((k : Int) < i) ∧ (k < i → (v : Int) ≤ r2.1 ∧ l.getD k 0 = r2.1)) := ⟨by
        rcases Nat.lt_or_ge k i with h | h
        · rw [← hr2, selL_yes (by rw [HN.out]; exact h)]
          exact ⟨by simp [h], fun _ => ⟨rk_ge HRL.out (by omega) (by rw [HN.out]; exact h), rfl⟩⟩
        · rw [← hr2, selL_no (by rw [HN.out]; omega)]; exact ⟨by simp; omega, fun hh => by omega⟩⟩
      clear hr1 hr2 hk
      obtain ⟨lo, is⟩ := r1
      obtain ⟨hh, there⟩ := r2
      have Q1 := P1.out.1
      have Q2 := P2.out.1
      simp only at Q1 Q2
      subst Q1
      subst Q2
      obtain ⟨m, hm⟩ : ∃ m, (decide (k < i) && decide (l.getD k 0 = (v : Int))) = m := ⟨_, rfl⟩
      rw [hm] at E4
      have HM := Hidden.mk hm
      clear hm
      by_cases p1 : 0 < k <;> by_cases p2 : k < i
      · have a1 : decide (0 < (k : Int)) = true := decide_eq_true (by omega)
        have a2 : decide ((k : Int) < (i : Int)) = true := decide_eq_true (by omega)
        have a3 : decide (lo < (v : Int)) = true := decide_eq_true (P1.out.2 p1)
        have a4 : decide ((v : Int) ≤ hh) = true := decide_eq_true (P2.out.2 p2).1
        have a5 : (hh == (v : Int)) = m := by rw [← HM.out, (P2.out.2 p2).2, decide_eq_true p2, Bool.true_and]; rfl
        have a6 : (m == m) = true := by simp
        go_wp2_with fail
        refine (E1.out x).mono ?_
        rintro e w' ⟨rfl, x2, rfl⟩
        go_wp2_with fail
        refine (E2.out x2).mono ?_
        rintro e w' ⟨rfl, x3, rfl⟩
        go_wp2_with fail
        refine (E3.out x3).mono ?_
        rintro e w' ⟨rfl, x4, rfl⟩
        go_wp2_with fail
        refine (E4.out x4).mono ?_
        rintro e w' ⟨rfl, x5, rfl⟩
        go_wp2_with fail
        go_ret
        exact ⟨by rfl, ((hM3.out.trans x5.m (by simp)).below (Nat.le_refl _) (by simp))⟩
      · have a1 : decide (0 < (k : Int)) = true := decide_eq_true (by omega)
        have a2 : decide ((k : Int) < (i : Int)) = false := decide_eq_false (by omega)
        have a3 : decide (lo < (v : Int)) = true := decide_eq_true (P1.out.2 p1)
        have a5 : m = false := by rw [← HM.out, decide_eq_false p2, Bool.false_and]
        rw [a5] at E4
        go_wp2_with fail
        refine (E1.out x).mono ?_
        rintro e w' ⟨rfl, x2, rfl⟩
        go_wp2_with fail
        refine (E2.out x2).mono ?_
        rintro e w' ⟨rfl, x3, rfl⟩
        go_wp2_with fail
        refine (E3.out x3).mono ?_
        rintro e w' ⟨rfl, x4, rfl⟩
        go_wp2_with fail
        refine (E4.out x4).mono ?_
        rintro e w' ⟨rfl, x5, rfl⟩
        go_wp2_with fail
        go_ret
        exact ⟨by rfl, ((hM3.out.trans x5.m (by simp)).below (Nat.le_refl _) (by simp))⟩
      · have a1 : decide (0 < (k : Int)) = false := decide_eq_false (by omega)
        have a2 : decide ((k : Int) < (i : Int)) = true := decide_eq_true (by omega)
        have a4 : decide ((v : Int) ≤ hh) = true := decide_eq_true (P2.out.2 p2).1
        have a5 : (hh == (v : Int)) = m := by rw [← HM.out, (P2.out.2 p2).2, decide_eq_true p2, Bool.true_and]; rfl
        have a6 : (m == m) = true := by simp
        go_wp2_with fail
        refine (E1.out x).mono ?_
        rintro e w' ⟨rfl, x2, rfl⟩
        go_wp2_with fail
        refine (E2.out x2).mono ?_
        rintro e w' ⟨rfl, x3, rfl⟩
        go_wp2_with fail
        refine (E3.out x3).mono ?_
        rintro e w' ⟨rfl, x4, rfl⟩
        go_wp2_with fail
        refine (E4.out x4).mono ?_
        rintro e w' ⟨rfl, x5, rfl⟩
        go_wp2_with fail
        go_ret
        exact ⟨by rfl, ((hM3.out.trans x5.m (by simp)).below (Nat.le_refl _) (by simp))⟩
      · have a1 : decide (0 < (k : Int)) = false := decide_eq_false (by omega)
        have a2 : decide ((k : Int) < (i : Int)) = false := decide_eq_false (by omega)
        have a5 : m = false := by rw [← HM.out, decide_eq_false p2, Bool.false_and]
        rw [a5] at E4
        go_wp2_with fail
        refine (E1.out x).mono ?_
        rintro e w' ⟨rfl, x2, rfl⟩
        go_wp2_with fail
        refine (E2.out x2).mono ?_
        rintro e w' ⟨rfl, x3, rfl⟩
        go_wp2_with fail
        refine (E3.out x3).mono ?_
        rintro e w' ⟨rfl, x4, rfl⟩
        go_wp2_with fail
        refine (E4.out x4).mono ?_
        rintro e w' ⟨rfl, x5, rfl⟩
        go_wp2_with fail
        go_ret
        exact ⟨by rfl, ((hM3.out.trans x5.m (by simp)).below (Nat.le_refl _) (by simp))⟩
end Go.Proofs.Ythcjnijggebcaaa
