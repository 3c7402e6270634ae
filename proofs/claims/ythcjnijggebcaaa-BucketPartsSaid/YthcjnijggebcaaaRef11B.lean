/- ref11.Of: the keys of a list, rising, each once. -/
import Derived.Test.YthcjnijggebcaaaRef11A
namespace Go.Proofs.Ythcjnijggebcaaa
open Go.RowKit
set_option linter.unusedVariables false
set_option linter.unusedSimpArgs false
theorem asc_step {l : List Int} {i : Nat} {x : Int} (h : l[i]? = some x) : (if x ∈ asc (l.take i) then asc (l.take i) else insL (asc (l.take i)) x) = asc (l.take (i + 1)) := by
  refine rise_ext ?_ (asc_rises _) (fun y => ?_)
  · by_cases hx : x ∈ asc (l.take i)
    · rw [if_pos hx]; exact asc_rises _
    · rw [if_neg hx]; exact insL_rises (asc_rises _) hx
  · by_cases hx : x ∈ asc (l.take i)
    · rw [if_pos hx, asc_mem, asc_mem, List.take_add_one, h]
      rw [asc_mem] at hx
      simp only [List.mem_append, Option.toList_some, List.mem_singleton]
      constructor
      · exact .inl
      · rintro (h1 | rfl)
        · exact h1
        · exact hx
    · rw [if_neg hx, insL_mem, asc_mem, asc_mem, List.take_add_one, h]
      simp only [List.mem_append, Option.toList_some, List.mem_singleton]
      exact or_comm
set_option maxHeartbeats 1000000 in
set_option maxRecDepth 100000 in
theorem of11 {w : World} {v : Value} {l : List Int} (h : ISl .u64 w v l) (hl : l.length ≤ 10000) :
    Calls Try.prog 45 #[v] w (SomeRow w (asc l)) := by
  obtain ⟨a, cap, rfl, _⟩ := h.slice_
  have H := Hidden.mk h
  clear h
  go_enter Try.func45, Try.ntmps45
  go_wp2_with fail
  go_loopw [3, 8] (fun vo vi wr => ∃ i : Nat, i ≤ l.length ∧ vi = .int .i64 i ∧ ISl .u64 wr vo (asc (l.take i)) ∧ Mod [] w wr) (fun _ vi _ => l.length - (intOf vi).toNat)
  case atStart => exact ⟨0, by omega, rfl, by rw [List.take_zero, show asc ([] : List Int) = [] from asc_self List.Pairwise.nil]; exact ISl.nil_ _ _, Mod.refl [] w⟩
  case round =>
    obtain ⟨i, hi, rfl, ho, hm⟩ := hrel
    by_cases hin : i < l.length
    · obtain ⟨b, off, x, rfl, _, hx, hc⟩ := (H.out.news hm).get hin
      have hle : (asc (l.take i)).length ≤ 10000 := by have := asc_le (l.take i); rw [List.length_take] at this; omega
      have HA := Hidden.mk (add11 x ho (Nat.le_trans hle (by decide)) (rises_le (asc_rises _)))
      rw [asc_step hx] at HA
      obtain ⟨p, c, rfl, _⟩ := ho.slice_
      have HM := Hidden.mk hm
      clear ho hx hm hle
      go_wp2_with fail
      refine HA.out.mono ?_
      rintro e w2 ⟨v2, rfl, h2, hm2⟩
      have H2 := Hidden.mk (And.intro h2 (HM.out.trans hm2 (by simp)))
      obtain ⟨p2, c2, rfl, _⟩ := h2.slice_
      clear h2 hm2 HM HA
      go_wp2_with fail
      go_roundw
      case rel => exact ⟨i + 1, by omega, by go_num, H2.out.1, H2.out.2⟩
      case measure => simp [intOf]; omega
    · have e : i = l.length := by omega
      subst e
      rw [List.take_length] at ho
      obtain ⟨p, c, rfl, _⟩ := ho.slice_
      have H2 := Hidden.mk (And.intro ho hm)
      clear ho hm
      go_wp2_with fail
      go_ret
      exact ⟨_, rfl, H2.out.1, H2.out.2⟩
end Go.Proofs.Ythcjnijggebcaaa
