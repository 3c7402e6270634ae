/- The document's sets (stepstoneref06): Select, Fill, Same, At, Join, Runs. -/
import Derived.Test.YthcjnijggebcaaaRef06B
namespace Go.Proofs.Ythcjnijggebcaaa
open Go.RowKit
set_option linter.unusedVariables false
set_option linter.unusedSimpArgs false
set_option maxHeartbeats 1000000 in
theorem sel06 {w : World} {v : Value} {f : Nat → Bool} (h : BS 4 w v f) (k : Nat) (hk : k ≤ 1000000) :
    Calls Try.prog 36 #[v, .int .i64 k] w fun e w' => (∃ r, e = .returned (.int .i64 r) ∧ IsSel f k r) ∧ w = w' := by
  obtain ⟨sb, rfl, _, hlt, hcw0, _⟩ := h.at_
  have hcw := Hidden.mk hcw0
  clear h hcw0
  go_enter Try.func36, Try.ntmps36
  go_wp2_with fail
  go_loop [1, 5, 8] (fun vk _ vi => ∃ (i : Nat) (r : Int), i ≤ 65536 ∧ vi = .int .i64 i ∧ vk = .int .i64 r ∧ (r : Int) = (k : Int) - cntN f i ∧ (0 ≤ r ∨ r < 0) ∧ (∀ j : Nat, j < i → f j = true → (cntN f j : Int) ≠ k)) (fun _ _ vi => 65536 - (intOf vi).toNat)
  case atStart => exact ⟨0, k, by omega, rfl, rfl, by simp [cntN], by omega, by omega⟩
  case round =>
    obtain ⟨i, r, hi, rfl, rfl, hr, _, hno⟩ := hrel
    have HNO := Hidden.mk hno
    clear hno
    have hle := cntN_le (f := f) i
    by_cases hin : i < 65536
    · have h65 : (i : Int) < 65536 := by omega
      have hc := hcw.out i hin
      rw [Nat.zero_add] at hc
      have hr1 : -65536 ≤ r := by omega
      have hr2 : r ≤ 1000000 := by omega
      have HR := Hidden.mk hr
      clear hr
      cases hfi : f i with
      | true =>
        have e := Hidden.mk hfi
        have e2 := Hidden.mk (cntN_yes hfi)
        rw [hfi] at hc
        clear hfi
        by_cases hr0 : r = 0
        · have hb : (r == 0) = true := by simp [hr0]
          have hsel : Hidden ((cntN f i : Int) = k) := ⟨by have := HR.out; omega⟩
          clear hr0
          go_wp2_with fail
          go_ret
          exact ⟨⟨_, rfl, .inr ⟨i, rfl, hin, e.out, hsel.out⟩⟩, rfl⟩
        · have hb : (r == 0) = false := by simp [hr0]
          go_wp2_with fail
          go_round
          case rel =>
            refine ⟨i + 1, r - 1, by omega, by go_num, rfl, by rw [e2.out]; have := HR.out; omega, by omega, fun j h1 h2 => ?_⟩
            rcases Nat.lt_or_ge j i with h3 | h3
            · exact HNO.out j h3 h2
            · have : j = i := by omega
              subst this; have := HR.out; omega
          case measure => simp [intOf]; omega
      | false =>
        have e := Hidden.mk hfi
        have e2 := Hidden.mk (cntN_no hfi)
        rw [hfi] at hc
        clear hfi
        go_wp2_with fail
        go_round
        case rel =>
          refine ⟨i + 1, r, by omega, by go_num, rfl, by rw [e2.out]; exact HR.out, by omega, fun j h1 h2 => ?_⟩
          rcases Nat.lt_or_ge j i with h3 | h3
          · exact HNO.out j h3 h2
          · have : j = i := by omega
            subst this; rw [e.out] at h2; cases h2
        case measure => simp [intOf]; omega
    · have e : i = 65536 := by omega
      subst e
      clear hr
      go_wp2_with fail
      go_ret
      exact ⟨⟨_, rfl, .inl ⟨rfl, fun j h1 h2 => HNO.out j h1 h2⟩⟩, rfl⟩
theorem at06 (x : Int) (ok : Bool) (w : World) (hx : 0 ≤ x ∧ x < 65536) :
    Calls Try.prog 37 #[.int .u16 x, .bool ok] w fun e w' => e = .returned (.int .i64 (if ok then x else -1)) ∧ w = w' := by
  obtain ⟨h1, h2⟩ := hx
  have hw : IntKind.i64.wrap x = x := IntWalk.i64_in _ (by omega)
  cases ok
  · go_enter Try.func37, Try.ntmps37
    go_wp2
    go_ret
    exact ⟨rfl, rfl⟩
  · go_enter Try.func37, Try.ntmps37
    go_wp2
    go_ret
    exact ⟨rfl, rfl⟩
/-- How many were changed (only whether any was is told). -/
def FillPost (w : World) (v : Value) (f : Nat → Bool) (p q : Nat) (is : Bool) (e : Ending) (w' : World) : Prop :=
  ∃ n : Nat, e = .returned (.int .i64 n) ∧ n ≤ 65536 ∧ (n = 0 ↔ ∀ j, p ≤ j → j ≤ q → f j = is) ∧ BS 4 w' v (fun j => if p ≤ j ∧ j ≤ q then is else f j) ∧ Mod (rb v) w w'
set_option maxHeartbeats 1000000 in
theorem fill06 {w : World} {v : Value} {f : Nat → Bool} (h : BS 4 w v f) (p q : Nat) (hp : p < 65536) (hq : q < 65536) (is : Bool) :
    Calls Try.prog 67 #[v, .int .u16 p, .int .u16 q, .bool is] w (FillPost w v f p q is) := by
  obtain ⟨sb, rfl, hrb, hlt, _, _⟩ := h.at_
  have H := Hidden.mk h
  clear h
  have hpw : IntKind.i64.wrap (p : Int) = p := IntWalk.i64_in _ (by omega)
  have hqw : IntKind.i64.wrap (q : Int) = q := IntWalk.i64_in _ (by omega)
  have hrb' := Hidden.mk hrb
  clear hrb
  go_enter Try.func67, Try.ntmps67
  go_wp2_with fail
  go_loopw [9, 10] (fun vn vi wr => ∃ (i n : Nat), p ≤ i ∧ i ≤ max (q + 1) p ∧ vi = .int .i64 i ∧ vn = .int .i64 n ∧ n ≤ i - p ∧ (n = 0 ↔ ∀ j, p ≤ j → j < i → f j = is) ∧ BS 4 wr (.slice (some ⟨sb, 0, none⟩) 65536 65536) (fun j => if p ≤ j ∧ j < i then is else f j) ∧ Mod [sb] w wr) (fun _ vi _ => q + 1 - (intOf vi).toNat)
  case atStart => exact ⟨p, 0, Nat.le_refl _, by omega, rfl, rfl, by omega, by simp; intro j h1 h2; omega, H.out.congr (fun j _ => by rw [if_neg (by omega)]), Mod.refl _ _⟩
  case round =>
    obtain ⟨i, n, hpi, hi, rfl, rfl, hn, hzero, hs, hm⟩ := hrel
    by_cases hiq : i ≤ q
    · have hiqz : (i : Int) ≤ (q : Int) := by omega
      obtain ⟨_, he, _, hlt2, hcw, hfw⟩ := hs.at_
      injection he with he
      injection he with he
      injection he with he
      subst he
      have hc := hcw i (by omega)
      have hf := hfw i
      rw [Nat.zero_add, if_neg (by omega)] at hc
      have h65 : (i : Int) < 65536 := by omega
      have HM := Hidden.mk (hm.set (p := ⟨sb, i, none⟩) (by simp) (.bool is))
      have HS2 := Hidden.mk ((hs.set i is).congr (g := fun j => if p ≤ j ∧ j < i + 1 then is else f j) (fun j hj => by
        by_cases hji : j = i
        · subst hji; rw [if_pos rfl, if_pos (by omega)]
        · rw [if_neg hji]
          by_cases h1 : p ≤ j ∧ j < i
          · rw [if_pos h1, if_pos (by omega)]
          · rw [if_neg h1, if_neg (by omega)]))
      have HZ := Hidden.mk hzero
      clear hs hm hcw hfw hzero
      by_cases hfi : f i = is
      · rw [hfi] at hc
        have hb : (is != is) = false := by simp
        have HF := Hidden.mk hfi
        clear hfi
        go_wp2_with fail
        go_roundw
        case rel =>
          refine ⟨i + 1, n, by omega, by omega, by go_num, rfl, by omega, ?_, HS2.out, HM.out⟩
          rw [HZ.out]
          constructor
          · intro h j h1 h2
            rcases Nat.lt_or_ge j i with h3 | h3
            · exact h j h1 h3
            · have : j = i := by omega
              subst this; exact HF.out
          · exact fun h j h1 h2 => h j h1 (by omega)
        case measure => simp [intOf]; omega
      · have HF := Hidden.mk hfi
        have hfn : f i = !is := by cases hx : f i <;> cases is <;> simp_all
        rw [hfn] at hc
        clear hfi hfn
        cases is
        all_goals
          go_wp2_with fail
          go_roundw
          case rel =>
            refine ⟨i + 1, n + 1, by omega, by omega, by go_num, by go_num, by omega, ?_, HS2.out, HM.out⟩
            constructor
            · intro h; omega
            · intro h; exact absurd (h i hpi (by omega)) HF.out
          case measure => simp [intOf]; omega
    · have hiqz : ¬ (i : Int) ≤ (q : Int) := by omega
      have HM := Hidden.mk hm
      have HZ := Hidden.mk hzero
      have HS2 := Hidden.mk hs
      clear hs hm hzero
      go_wp2_with fail
      go_ret
      refine ⟨n, rfl, by omega, ?_, HS2.out.congr (fun j _ => ?_), by rw [hrb'.out]; exact HM.out⟩
      · rw [HZ.out]
        exact ⟨fun h j h1 h2 => h j h1 (by omega), fun h j h1 h2 => h j h1 (by omega)⟩
      · by_cases h1 : p ≤ j ∧ j < i
        · rw [if_pos h1, if_pos (by omega)]
        · rw [if_neg h1, if_neg (by omega)]
end Go.Proofs.Ythcjnijggebcaaa
