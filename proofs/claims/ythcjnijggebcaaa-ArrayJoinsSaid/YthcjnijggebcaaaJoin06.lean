/- ref06.Join: of two sets. -/
import Derived.Test.YthcjnijggebcaaaRef06A
namespace Go.Proofs.Ythcjnijggebcaaa
open Go.RowKit
set_option linter.unusedVariables false
set_option linter.unusedSimpArgs false
/-- What Join tells of one number. -/
def joinB (op : Nat) (x y : Bool) : Bool := if op = 0 then x || y else if op = 1 then x && y else if op = 2 then x && !y else (x != y)
set_option maxHeartbeats 2000000 in
set_option maxRecDepth 100000 in
theorem join06z {w : World} {v1 v2 : Value} {f g : Nat → Bool} (h1 : BS 4 w v1 f) (h2 : BS 4 w v2 g) (op : Nat) (hop : op < 4) (oz : Int) (hoz : oz = op) :
    Calls Try.prog 51 #[v1, v2, .int .i64 oz] w (SetOnly w (fun i => joinB op (f i) (g i))) := by
  obtain ⟨ba, rfl, hra, hla, _, _⟩ := h1.at_
  obtain ⟨bb, rfl, hrb, hlb, _, _⟩ := h2.at_
  have H := Hidden.mk (And.intro h1 h2)
  have HOZ := Hidden.mk hoz
  clear h1 h2 hra hrb hoz
  go_enter Try.func51, Try.ntmps51
  go_wp2_with fail
  refine (new06 _).mono ?_
  rintro e w1 ⟨v, rfl, hs, hm1, hnew⟩
  obtain ⟨sb, rfl, hrs, hls, _, _⟩ := hs.at_
  have hsb : w.heap.size ≤ sb := hnew sb (by rw [hrs]; simp)
  have HS := Hidden.mk hs
  have HM1 := Hidden.mk hm1
  clear hs hnew hrs hm1
  go_wp2_with fail
  go_loopw [12] (fun vi wr => ∃ (i : Nat), i ≤ 65536 ∧ vi = .int .i64 i ∧ BS 4 wr (.slice (some ⟨sb, 0, none⟩) 65536 65536) (fun j => if j < i then joinB op (f j) (g j) else false) ∧ Mod [] w wr) (fun vi _ => 65536 - (intOf vi).toNat)
  case atStart => exact ⟨0, by omega, rfl, HS.out.congr (fun j _ => by rw [if_neg (by omega)]), HM1.out⟩
  case round =>
    obtain ⟨i, hi, rfl, hs, hm⟩ := hrel
    by_cases hin : i < 65536
    · have hiz : (i : Int) < 65536 := by omega
      obtain ⟨_, he, _, hlt2, hcw, hfw⟩ := hs.at_
      injection he with he
      injection he with he
      injection he with he
      subst he
      have hc := hcw i hin
      have hf := hfw i
      obtain ⟨_, he, _, hlt3, hca, _⟩ := (H.out.1.news hm).at_
      injection he with he
      injection he with he
      injection he with he
      subst he
      obtain ⟨_, he, _, hlt4, hcb, _⟩ := (H.out.2.news hm).at_
      injection he with he
      injection he with he
      injection he with he
      subst he
      have hca := hca i hin
      have hcb := hcb i hin
      have hna : ba ≠ sb := by omega
      have hnb : bb ≠ sb := by omega
      rw [Nat.zero_add] at hc hca hcb
      have HSB := Hidden.mk (And.intro hsb (And.intro hs hm))
      have HC : Hidden (∀ j, j ≠ i → (if j < i then joinB op (f j) (g j) else false) = (if j < i + 1 then joinB op (f j) (g j) else false)) := ⟨fun j hji => by
        by_cases h1 : j < i
        · rw [if_pos h1, if_pos (by omega)]
        · rw [if_neg h1, if_neg (by omega)]⟩
      have hfi : f i = f i := rfl
      obtain ⟨x, hx⟩ : ∃ x, f i = x := ⟨_, rfl⟩
      obtain ⟨y, hy⟩ : ∃ y, g i = y := ⟨_, rfl⟩
      have HR : Hidden (∀ W, W = wr.setCell ⟨sb, i, none⟩ (.bool (joinB op x y)) → BS 4 W (.slice (some ⟨sb, 0, none⟩) 65536 65536) (fun j => if j < i + 1 then joinB op (f j) (g j) else false) ∧ Mod [] w W) := ⟨by
        rintro W rfl
        refine ⟨(HSB.out.2.1.set i _).congr (fun j hj => ?_), HSB.out.2.2.set (p := ⟨sb, i, none⟩) (.inr HSB.out.1) _⟩
        by_cases hji : j = i
        · subst hji; rw [if_pos rfl, if_pos (by omega), hx, hy]
        · rw [if_neg hji]; exact HC.out j hji⟩
      rw [hx] at hca
      rw [hy] at hcb
      clear hx hy hs hm hsb hcw HC HSB hfw hfi hlt2 hlt3 hlt4
      generalize (if i < i then joinB op (f i) (g i) else false) = old at hc
      obtain rfl | rfl | rfl | rfl : op = 0 ∨ op = 1 ∨ op = 2 ∨ op = 3 := by omega
      · have hoz3 : oz = 0 := HOZ.out
        subst hoz3
        clear HOZ
        cases x <;> cases y
        all_goals
          go_wp2_with fail
          go_roundw
          case rel => exact ⟨i + 1, by omega, by go_num, HR.out _ rfl⟩
          case measure => simp [intOf]; omega
      · have hoz3 : oz = 1 := HOZ.out
        subst hoz3
        clear HOZ
        cases x <;> cases y
        all_goals
          go_wp2_with fail
          go_roundw
          case rel => exact ⟨i + 1, by omega, by go_num, HR.out _ rfl⟩
          case measure => simp [intOf]; omega
      · have hoz3 : oz = 2 := HOZ.out
        subst hoz3
        clear HOZ
        cases x <;> cases y
        all_goals
          go_wp2_with fail
          go_roundw
          case rel => exact ⟨i + 1, by omega, by go_num, HR.out _ rfl⟩
          case measure => simp [intOf]; omega
      · have hoz3 : oz = 3 := HOZ.out
        subst hoz3
        clear HOZ
        cases x <;> cases y
        all_goals
          go_wp2_with fail
          obtain ⟨N, hN⟩ : ∃ N : Nat, N = 65536 := ⟨_, rfl⟩
          have hiN : i < N := by omega
          have hiNz : (i : Int) < (N : Int) := by omega
          rw [← hN]
          have HN := Hidden.mk hN
          have HIN := Hidden.mk hin
          clear hN hiz hin hi
          refine wp_tail 12 (by kernel_rfl) (by kernel_rfl) ?_
          simp only [List.take_succ_cons, List.take_zero, List.drop_succ_cons, List.drop_zero]
          repeat still_step
          refine wpStill_nil ?_
          have hin := HIN.out
          go_wp2_with fail
          have hN := HN.out
          subst hN
          go_roundw
          case rel =>
            exact ⟨i + 1, Nat.succ_le_of_lt HIN.out, by go_num, by first | exact HR.out _ rfl | (obtain ⟨k1, k2⟩ := HR.out _ rfl; exact ⟨k1, k2.drew⟩)⟩
          case measure => simp [intOf]; omega
    · have e : i = 65536 := by omega
      subst e
      have HSB := Hidden.mk (And.intro hs (And.intro hm hsb))
      clear hs hm hsb
      go_wp2_with fail
      go_ret
      exact ⟨_, rfl, HSB.out.1.congr (fun j hj => by unfold Most at hj; rw [if_pos (by omega)]), HSB.out.2.1, fun b hb => by simp [rb, Value.ownBlock] at hb; subst hb; exact HSB.out.2.2⟩
theorem join06 {w : World} {v1 v2 : Value} {f g : Nat → Bool} (h1 : BS 4 w v1 f) (h2 : BS 4 w v2 g) (op : Nat) (hop : op < 4) :
    Calls Try.prog 51 #[v1, v2, .int .i64 op] w (SetOnly w (fun i => joinB op (f i) (g i))) := join06z h1 h2 op hop op rfl
end Go.Proofs.Ythcjnijggebcaaa
