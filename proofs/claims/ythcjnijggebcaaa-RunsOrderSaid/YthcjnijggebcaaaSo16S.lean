/- slices.Sort at uint16: the row, sorted. -/
import Derived.Test.YthcjnijggebcaaaSo16G
import Derived.Test.YthcjnijggebcaaaSrt
import Derived.Test.YthcjnijggebcaaaSl
namespace Go.Proofs.Ythcjnijggebcaaa
open Go.RowKit
set_option linter.unusedVariables false
set_option linter.unusedSimpArgs false

theorem ins016 (a : Option Addr) (cap : Nat) (w : World) :
    Calls Try.prog 108 #[.slice a 0 cap, .int .i64 0, .int .i64 0] w fun e w' => e = .returned (.tuple #[]) ∧ w' = w := by
  go_enter Try.func108, Try.ntmps108
  go_wp2
  go_loopw [6] (fun vi wr => vi = .int .i64 1 ∧ wr = w) (fun vi _ => 1)
  case atStart => exact ⟨rfl, rfl⟩
  case round =>
    obtain ⟨rfl, rfl⟩ := hrel
    go_wp2_with fail
    go_end0
    exact ⟨rfl, rfl⟩
set_option maxHeartbeats 400000 in
theorem pdq016 (a : Option Addr) (cap lim : Nat) (w : World) :
    Calls Try.prog 95 #[.slice a 0 cap, .int .i64 0, .int .i64 0, .int .i64 lim] w fun e w' => e = .returned (.tuple #[]) ∧ w' = w := by
  go_enter Try.func95, Try.ntmps95
  go_wp2_with fail
  go_loopw [1, 2] (fun va vc wr => va = .int .i64 0 ∧ vc = .int .i64 0 ∧ wr = w) (fun va _ _ => 1)
  case atStart => exact ⟨rfl, rfl, rfl⟩
  case round =>
    obtain ⟨rfl, rfl, rfl⟩ := hrel
    go_wp2_with fail
    refine (ins016 _ _ _).mono ?_
    rintro e w1 ⟨rfl, rfl⟩
    go_wp2_with fail
    (try simp only [Exit.inBlock, Exit.then])
    refine bodyPost_ret (results_none rfl _ _ _) rfl ?_
    exact ⟨rfl, rfl⟩
set_option maxHeartbeats 1000000 in
/-- The row of l, sorted in place. -/
theorem sort16 {w : World} {v : Value} {l : List Int} (h : Row w 24 1 v l.length (icells .u16 l)) (hl : l.length ≤ 1000000000) :
    Calls Try.prog 79 #[v] w fun e w' => e = .returned (.tuple #[]) ∧ Row w' 24 1 v l.length (icells .u16 (srt l)) ∧ Mod (rb v) w w' := by
  rcases Nat.eq_zero_or_pos l.length with h0 | hpos
  · have hnil : l = [] := List.eq_nil_of_length_eq_zero h0
    subst hnil
    obtain ⟨a, cap, rfl, _⟩ := h.slice_
    have H := Hidden.mk h
    clear h
    have hlen := fun w => bits_Len 0 w (by omega) (by omega)
    go_enter Try.func79, Try.ntmps79
    go_wp2_with fail
    refine (hlen _).mono ?_
    rintro e w1 ⟨rfl, rfl⟩
    go_wp2_with fail
    refine (pdq016 _ _ _ _).mono ?_
    rintro e w1 ⟨rfl, rfl⟩
    go_wp2_with fail
    go_end0
    exact ⟨rfl, by simpa [srt] using H.out, Mod.refl _ _⟩
  · obtain ⟨g, cap, rfl, hrb, hS, _⟩ := SR.of_row h hpos
    have H := Hidden.mk (And.intro h hrb)
    have HS := Hidden.mk hS
    clear h hS hrb
    obtain ⟨hb1, hb2⟩ := len_bound hpos hl
    have hlen := fun w => bits_Len (l.length : Int) w (by omega) (by omega)
    simp only [Int.toNat_natCast] at hlen
    generalize Lib.bitLen l.length = k at hlen hb2
    clear hb1
    have HL := Hidden.mk hlen
    clear hlen
    go_enter Try.func79, Try.ntmps79
    go_wp2_with fail
    refine (HL.out _).mono ?_
    rintro e w1 ⟨rfl, rfl⟩
    go_wp2_with fail
    refine (pdq16 (o := 0) hl l.length 0 l.length k l.toArray _ rfl (Nat.zero_le _) (Nat.le_refl _) (by omega) HS.out (Or.inl rfl)).mono ?_
    rintro e w2 ⟨rfl, d', q1, q2, hS2⟩
    have HS2 := Hidden.mk hS2
    have Q := Hidden.mk (And.intro q1 q2)
    clear hS2 q1 q2
    go_wp2_with fail
    go_end0
    obtain ⟨q1, q2⟩ := Q.out
    refine ⟨rfl, ?_, by rw [H.out.2]; exact HS2.out.mod⟩
    have e : d'.toList = srt l := srt_of q1 q2
    rw [← e]
    exact SR.to_row HS2.out H.out.1
end Go.Proofs.Ythcjnijggebcaaa
