/- XfastPlays: what an act does, told twice; the steps; two answers compared. -/
import Derived.Test.YtfioekkegihkoaaDo14
import Derived.Test.YtfioekkegihkoaaKinds
import Derived.Test.YtfioekkegihkoaaStRow
namespace Go.Proofs.Ytfioekkegihkoaa
open Go.RowKit
set_option linter.unusedVariables false
set_option linter.unusedSimpArgs false
theorem ans_eq (x : Int × (Int × Bool)) (w : World) : (Op.equalIn 10000 72 (ansV x) (ansV x)).run Try.prog w = .ok true w := by
  obtain ⟨a, b, c⟩ := x
  have hS : Try.prog.underlying 72 = some (.struct (Try.prog.fieldsOf 72)) := by kernel_rfl
  have hp : Try.prog.stoodInHeld 72 = false := by kernel_rfl
  rw [show (10000 : Nat) = 9999 + 1 from rfl, run_equalIn_agg w 9999 72 _ _ hS hp]
  simp only [Program.fieldsOf, Try.underlying72]
  go_simp
theorem ans_guard (op : BinOp) (A B : Operand) (x y : Array Value) (w : World) : (eqGuard op 72 A B (.agg x) (.agg y)).run Try.prog w = .ok () w := run_eqGuard_agg w op _ A B x y (by kernel_rfl)
theorem rk_zero {l : List Int} (hb : ∀ x ∈ l, 0 ≤ x) : rk l 0 = 0 := by
  unfold rk
  rw [List.countP_eq_zero]; intro x hx; have := hb x hx; simp; omega
theorem prev_max {l : List Int} (hl : l.Pairwise (· < ·)) (hb : ∀ x ∈ l, 0 ≤ x ∧ x < 18446744073709551616) : prevL64 l 18446744073709551615 = selL l ((l.length : Int) - 1) := by
  unfold prevL64
  obtain ⟨t, ht⟩ : ∃ t : Int, t = 18446744073709551615 := ⟨_, rfl⟩
  have hb2 : ∀ x ∈ l, x ≤ t := fun x hx => by have := (hb x hx).2; omega
  rw [← ht]
  clear ht hb
  by_cases hm : t ∈ l
  · rw [if_pos hm]
    obtain ⟨h1, h2⟩ := (mem_rk (rises_le hl)).1 hm
    have h3 : rk l t + 1 = l.length := by
      rcases Nat.lt_or_ge (rk l t + 1) l.length with h | h
      · have h4 := (List.pairwise_iff_getElem.1 hl) (rk l t) (rk l t + 1) h1 h (by omega)
        rw [List.getD_eq_getElem?_getD, List.getElem?_eq_getElem h1] at h2
        simp only [Option.getD_some] at h2
        have h5 := hb2 _ (List.getElem_mem h)
        omega
      · omega
    rw [show ((l.length : Int) - 1) = ((rk l t : Nat) : Int) from by omega, selL_yes h1, h2]
  · rw [if_neg hm]
    have h1 : rk l t = l.length := by
      unfold rk
      rw [List.countP_eq_length]
      intro x hx
      have h2 := hb2 x hx
      have h3 : x ≠ t := fun h => hm (h ▸ hx)
      simp; omega
    rw [h1]
/-- What the law awaits of an act: the document's, but for a key that does not fit. -/
def noFit (Y : List Int) (M : Nat) (d k : Int) : Bool := decide (d % 9 < 2) && decide (k ∉ Y) && decide (M < useK (insL Y k))
theorem act_fit {Y : List Int} {M : Nat} {d k : Int} (hY : Y.Pairwise (· < ·)) (hB : ∀ x ∈ Y, 0 ≤ x ∧ x < 18446744073709551616) (hd : 0 ≤ d) (h : noFit Y M d k = false) : act14 Y M d k = actL Y d k := by
  have hz := rk_zero (fun x hx => (hB x hx).1)
  have hp := prev_max hY hB
  unfold noFit at h
  simp only [Bool.and_eq_false_iff, decide_eq_false_iff_not, Classical.not_not] at h
  unfold act14 actL insK insE
  by_cases h0 : d % 9 = 0 ∨ d % 9 = 1
  · rw [if_pos h0, if_pos h0]
    by_cases hk : k ∈ Y
    · simp [hk]
    · have h1 : useK (insL Y k) ≤ M := by
        rcases h with (h | h) | h
        · omega
        · exact absurd h hk
        · omega
      simp [hk, h1]
  · rw [if_neg h0, if_neg h0]
    by_cases h2 : d % 9 = 2
    · rw [if_pos h2, if_pos h2]
      by_cases hk : k ∈ Y <;> simp [hk]
    · rw [if_neg h2, if_neg h2, hz, hp]
      rfl
theorem act_nofit {Y : List Int} {M : Nat} {d k : Int} (hd : 0 ≤ d) (h : noFit Y M d k = true) : act14 Y M d k = (Y, 5, 0, false) ∧ actL Y d k = (insL Y k, 0, 0, false) ∧ d % 9 < 2 ∧ M < useK (insL Y k) := by
  unfold noFit at h
  simp only [Bool.and_eq_true, decide_eq_true_eq] at h
  obtain ⟨⟨h1, h2⟩, h3⟩ := h
  unfold act14 actL insK insE
  by_cases h0 : d % 9 = 0 ∨ d % 9 = 1
  · rw [if_pos h0, if_pos h0, if_neg h2, if_neg h2, if_neg h2, if_neg (by omega), if_neg (by omega)]
    exact ⟨rfl, rfl, h1, h3⟩
  · exact absurd h1 (by omega)
/-- The steps that a law lets an act take. -/
def stepsN (d : Int) : Int := if d % 9 = 3 then 1 else if d % 9 = 4 ∨ d % 9 = 5 then 9 else if d % 9 = 6 ∨ d % 9 = 7 then 1 else 1073741824
theorem cap_steps (d : Int) (c : Nat) (hc : c ≤ 1000) (hd : 0 ≤ d) : ((cap14 d c : Nat) : Int) ≤ stepsN d ∧ cap14 d c ≤ 1000 := by
  unfold cap14 stepsN
  split
  · rw [if_neg (by omega), if_neg (by omega), if_neg (by omega)]; exact ⟨by decide, by decide⟩
  · split
    · exact ⟨by decide, by decide⟩
    · split
      · exact ⟨by decide, by decide⟩
      · split
        · exact ⟨by decide, by decide⟩
        · exact ⟨by omega, hc⟩
set_option maxHeartbeats 1000000 in
theorem steps14 (d : Int) (w : World) (hd : 0 ≤ d ∧ d ≤ 255) : Calls Try.prog 51 #[.int .u8 d] w fun e w' => e = .returned (.int .i64 (stepsN d)) ∧ w = w' := by
  obtain ⟨hd0, hd1⟩ := hd
  unfold stepsN
  rcases (show d % 9 = 3 ∨ d % 9 = 4 ∨ d % 9 = 5 ∨ d % 9 = 6 ∨ d % 9 = 7 ∨ d % 9 = 0 ∨ d % 9 = 1 ∨ d % 9 = 2 ∨ d % 9 = 8 by omega) with hm | hm | hm | hm | hm | hm | hm | hm | hm
  all_goals
    simp only [hm]
    go_enter Try.func51, Try.ntmps51
    go_wp2_with fail
    go_ret
    exact ⟨rfl, rfl⟩
theorem xm_taken {w0 w : World} {xb limit c : Nat} {ks : List Int} {P : List Nat} (h : XM w0 w xb limit ks c P) : ∃ mb c' : Nat, c' ≤ c ∧ ∀ W, Mod [] w W → W.cell? ⟨xb, 0, none⟩ = some (.pointer (some ⟨mb, 0, none⟩)) ∧
    Calls Try.prog 50 #[.pointer (some ⟨mb, 0, none⟩)] W fun e w' => e = .returned (.int .i64 (c' : Nat)) ∧ Mod [] W w' := by
  obtain ⟨mb, F, L, m, c', h1, h2, h3, h4, h5, h6, h7, rfl⟩ := h
  refine ⟨mb, c', h5, fun W hW => ⟨?_, ?_⟩⟩
  · obtain ⟨tb, cb, b0, FT, FC, pr, l, rfl, hI, -⟩ := h1
    exact (hI.blk.mod hW (by simp)).cell 0
  · have := meter_Taken mb m W (h3.mod hW (by simp))
    rw [h4] at this
    exact this
end Go.Proofs.Ytfioekkegihkoaa
