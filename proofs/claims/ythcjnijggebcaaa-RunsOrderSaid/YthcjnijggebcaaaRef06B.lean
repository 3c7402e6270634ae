/- The document's sets (stepstoneref06): Rank, Len, Next, Prev, Select, Fill, Same, At. -/
import Derived.Test.YthcjnijggebcaaaRef06A
import Derived.WalkLawsBesides
namespace Go.Proofs.Ythcjnijggebcaaa
open Go.RowKit
set_option linter.unusedVariables false
set_option linter.unusedSimpArgs false
/-- The least from there on. -/
def IsNext (f : Nat → Bool) (v : Int) (r : Int) : Prop :=
  (r = -1 ∧ ∀ j : Nat, v ≤ j → j < 65536 → f j = false) ∨ ∃ i : Nat, r = i ∧ i < 65536 ∧ v ≤ i ∧ f i = true ∧ ∀ j : Nat, v ≤ j → j < i → f j = false
/-- The greatest up to there. -/
def IsPrev (f : Nat → Bool) (v : Int) (r : Int) : Prop :=
  (r = -1 ∧ ∀ j : Nat, (j : Int) ≤ v → j < 65536 → f j = false) ∨ ∃ i : Nat, r = i ∧ i < 65536 ∧ (i : Int) ≤ v ∧ f i = true ∧ ∀ j : Nat, (j : Int) ≤ v → i < j → j < 65536 → f j = false
/-- The one below which there are k. -/
def IsSel (f : Nat → Bool) (k : Int) (r : Int) : Prop :=
  (r = -1 ∧ ∀ j : Nat, j < 65536 → f j = true → (cntN f j : Int) ≠ k) ∨ ∃ i : Nat, r = i ∧ i < 65536 ∧ f i = true ∧ (cntN f i : Int) = k
theorem IsNext.one {f : Nat → Bool} {v r s : Int} (h1 : IsNext f v r) (h2 : IsNext f v s) : r = s := by
  rcases h1 with ⟨rfl, a⟩ | ⟨i, rfl, a1, a2, a3, a4⟩
  · rcases h2 with ⟨rfl, b⟩ | ⟨j, rfl, b1, b2, b3, b4⟩
    · rfl
    · rw [a j b2 b1] at b3; cases b3
  · rcases h2 with ⟨rfl, b⟩ | ⟨j, rfl, b1, b2, b3, b4⟩
    · rw [b i a2 a1] at a3; cases a3
    · have : i = j := by
        rcases Nat.lt_trichotomy i j with h | h | h
        · rw [b4 i a2 h] at a3; cases a3
        · exact h
        · rw [a4 j b2 h] at b3; cases b3
      rw [this]
theorem IsPrev.one {f : Nat → Bool} {v r s : Int} (h1 : IsPrev f v r) (h2 : IsPrev f v s) : r = s := by
  rcases h1 with ⟨rfl, a⟩ | ⟨i, rfl, a1, a2, a3, a4⟩
  · rcases h2 with ⟨rfl, b⟩ | ⟨j, rfl, b1, b2, b3, b4⟩
    · rfl
    · rw [a j b2 b1] at b3; cases b3
  · rcases h2 with ⟨rfl, b⟩ | ⟨j, rfl, b1, b2, b3, b4⟩
    · rw [b i a2 a1] at a3; cases a3
    · have : i = j := by
        rcases Nat.lt_trichotomy i j with h | h | h
        · rw [a4 j b2 h b1] at b3; cases b3
        · exact h
        · rw [b4 i a2 h a1] at a3; cases a3
      rw [this]
theorem cntN_step {f : Nat → Bool} {i j : Nat} (h : i < j) (hi : f i = true) : cntN f i < cntN f j := by
  induction j with
  | zero => omega
  | succ j ih =>
    rcases Nat.lt_or_ge i j with h1 | h1
    · have := ih h1
      cases hj : f j with
      | true => rw [cntN_yes hj]; omega
      | false => rw [cntN_no hj]; exact this
    · have : i = j := by omega
      subst this
      rw [cntN_yes hi]; omega
theorem IsSel.one {f : Nat → Bool} {k r s : Int} (h1 : IsSel f k r) (h2 : IsSel f k s) : r = s := by
  rcases h1 with ⟨rfl, a⟩ | ⟨i, rfl, a1, a2, a3⟩
  · rcases h2 with ⟨rfl, b⟩ | ⟨j, rfl, b1, b2, b3⟩
    · rfl
    · exact absurd b3 (a j b1 b2)
  · rcases h2 with ⟨rfl, b⟩ | ⟨j, rfl, b1, b2, b3⟩
    · exact absurd a3 (b i a1 a2)
    · have : i = j := by
        rcases Nat.lt_trichotomy i j with h | h | h
        · have := cntN_step h a2; omega
        · exact h
        · have := cntN_step h b2; omega
      rw [this]
set_option maxHeartbeats 1000000 in
theorem rank06 {w : World} {v : Value} {f : Nat → Bool} (h : BS 4 w v f) (n : Nat) (hn : n ≤ 65536) :
    Calls Try.prog 42 #[v, .int .i64 n] w fun e w' => e = .returned (.int .i64 (cntN f n)) ∧ w = w' := by
  obtain ⟨sb, rfl, _, hlt, hcw0, _⟩ := h.at_
  have hcw := Hidden.mk hcw0
  clear h hcw0
  go_enter Try.func42, Try.ntmps42
  go_wp2_with fail
  go_loop [5, 6] (fun vn vi => ∃ i : Nat, i ≤ n ∧ vi = .int .i64 i ∧ vn = .int .i64 (cntN f i)) (fun _ vi => n - (intOf vi).toNat)
  case atStart => exact ⟨0, by omega, rfl, rfl⟩
  case round =>
    obtain ⟨i, hi, rfl, rfl⟩ := hrel
    by_cases hin : i < n
    · have hinz : (i : Int) < (n : Int) := by omega
      have hind : decide (i < n) = true := decide_eq_true hin
      have h65 : (i : Int) < 65536 := by omega
      have hc := hcw.out i (by omega)
      have hle := cntN_le (f := f) i
      rw [Nat.zero_add] at hc
      cases hfi : f i with
      | true =>
        have e := Hidden.mk (cntN_yes hfi)
        rw [hfi] at hc
        clear hfi
        go_wp2_with fail
        go_round
        case rel => exact ⟨i + 1, by omega, by go_num, by rw [e.out]; go_num⟩
        case measure => simp [intOf]; omega
      | false =>
        have e := Hidden.mk (cntN_no hfi)
        rw [hfi] at hc
        clear hfi
        go_wp2_with fail
        go_round
        case rel => exact ⟨i + 1, by omega, by go_num, by rw [e.out]⟩
        case measure => simp [intOf]; omega
    · have hinz : decide ((i : Int) < (n : Int)) = false := decide_eq_false (by omega)
      have hind : decide (i < n) = false := decide_eq_false hin
      have e : i = n := by omega
      subst e
      go_wp2_with fail
      go_ret
      exact ⟨rfl, rfl⟩
set_option maxHeartbeats 400000 in
theorem len06 {w : World} {v : Value} {f : Nat → Bool} (h : BS 4 w v f) :
    Calls Try.prog 76 #[v] w fun e w' => e = .returned (.int .i64 (cntN f Most)) ∧ w = w' := by
  have hr := Hidden.mk (rank06 h Most (Nat.le_refl _))
  obtain ⟨sb, rfl, _⟩ := h.at_
  clear h
  go_enter Try.func76, Try.ntmps76
  go_wp2_with fail
  refine hr.out.mono ?_
  rintro e w1 ⟨rfl, rfl⟩
  go_wp2_with fail
  go_ret
  exact ⟨rfl, rfl⟩
set_option maxHeartbeats 1000000 in
theorem next06 {w : World} {v : Value} {f : Nat → Bool} (h : BS 4 w v f) (n : Nat) (hn : n ≤ 65536) :
    Calls Try.prog 39 #[v, .int .i64 n] w fun e w' => (∃ r, e = .returned (.int .i64 r) ∧ IsNext f n r) ∧ w = w' := by
  obtain ⟨sb, rfl, _, hlt, hcw0, _⟩ := h.at_
  have hcw := Hidden.mk hcw0
  clear h hcw0
  have hmx : (0 : Int) ≤ (n : Int) := by omega
  go_enter Try.func39, Try.ntmps39
  go_wp2_with fail
  go_loop [5] (fun vi => ∃ i : Nat, n ≤ i ∧ i ≤ 65536 ∧ vi = .int .i64 i ∧ ∀ j : Nat, (n : Int) ≤ j → j < i → f j = false) (fun vi => 65536 - (intOf vi).toNat)
  case atStart => exact ⟨n, by omega, hn, (by first | rfl | (congr 1; omega)), by omega⟩
  case round =>
    obtain ⟨i, hni, hi, rfl, hno⟩ := hrel
    have HNO := Hidden.mk hno
    clear hno
    by_cases hin : i < 65536
    · have h65 : (i : Int) < 65536 := by omega
      have hc := hcw.out i hin
      rw [Nat.zero_add] at hc
      cases hfi : f i with
      | true =>
        have e := Hidden.mk hfi
        rw [hfi] at hc
        clear hfi
        go_wp2_with fail
        go_ret
        exact ⟨⟨_, rfl, .inr ⟨i, rfl, hin, by omega, e.out, HNO.out⟩⟩, rfl⟩
      | false =>
        have e := Hidden.mk hfi
        rw [hfi] at hc
        clear hfi
        go_wp2_with fail
        go_round
        case rel => exact ⟨i + 1, by omega, by omega, by go_num, fun j h1 h2 => by rcases Nat.lt_or_ge j i with h3 | h3; exact HNO.out j h1 h3; (have : j = i := by omega); subst this; exact e.out⟩
        case measure => simp [intOf]; omega
    · have e : i = 65536 := by omega
      subst e
      go_wp2_with fail
      go_ret
      exact ⟨⟨_, rfl, .inl ⟨rfl, fun j h1 h2 => HNO.out j h1 h2⟩⟩, rfl⟩
set_option maxHeartbeats 1000000 in
theorem prev06 {w : World} {v : Value} {f : Nat → Bool} (h : BS 4 w v f) (n : Nat) (hn : n ≤ 65535) :
    Calls Try.prog 41 #[v, .int .i64 n] w fun e w' => (∃ r, e = .returned (.int .i64 r) ∧ IsPrev f n r) ∧ w = w' := by
  obtain ⟨sb, rfl, _, hlt, hcw0, _⟩ := h.at_
  have hcw := Hidden.mk hcw0
  clear h hcw0
  have hmx : (n : Int) ≤ 65535 := by omega
  go_enter Try.func41, Try.ntmps41
  go_wp2_with fail
  go_loop [5] (fun vi => ∃ k : Nat, k ≤ n + 1 ∧ vi = .int .i64 ((k : Int) - 1) ∧ ∀ j : Nat, (j : Int) ≤ n → k ≤ j → f j = false) (fun vi => (intOf vi + 1).toNat)
  case atStart => exact ⟨n + 1, by omega, (by first | rfl | (congr 1; omega)), fun j h1 h2 => by omega⟩
  case round =>
    obtain ⟨k, hk, rfl, hno⟩ := hrel
    have HNO := Hidden.mk hno
    clear hno
    rcases k with _ | i
    · go_wp2_with fail
      go_ret
      exact ⟨⟨_, rfl, .inl ⟨rfl, fun j h1 h2 => HNO.out j h1 (by omega)⟩⟩, rfl⟩
    · have hi65 : (i : Int) < 65536 := by omega
      have hi0 : (0 : Int) ≤ (i : Int) := by omega
      rw [show ((i + 1 : Nat) : Int) - 1 = (i : Int) from by omega]
      have hc := hcw.out i (by omega)
      rw [Nat.zero_add] at hc
      cases hfi : f i with
      | true =>
        have e := Hidden.mk hfi
        rw [hfi] at hc
        clear hfi
        go_wp2_with fail
        go_ret
        exact ⟨⟨_, rfl, .inr ⟨i, rfl, by omega, by omega, e.out, fun j h1 h2 h3 => HNO.out j h1 h2⟩⟩, rfl⟩
      | false =>
        have e := Hidden.mk hfi
        rw [hfi] at hc
        clear hfi
        go_wp2_with fail
        go_round
        case rel => exact ⟨i, by omega, (by first | rfl | go_num), fun j h1 h2 => by rcases Nat.lt_or_ge i j with h3 | h3; exact HNO.out j h1 h3; (have : j = i := by omega); subst this; exact e.out⟩
        case measure => (simp [intOf] <;> omega)
end Go.Proofs.Ythcjnijggebcaaa
