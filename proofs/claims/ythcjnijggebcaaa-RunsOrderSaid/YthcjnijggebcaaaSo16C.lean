/- order2Ordered, medianOrdered, medianAdjacentOrdered, choosePivotOrdered at uint16: the pivot lies inside. -/
import Derived.Test.YthcjnijggebcaaaSo16A
namespace Go.Proofs.Ythcjnijggebcaaa
open Go.RowKit
set_option linter.unusedVariables false
set_option linter.unusedSimpArgs false

set_option maxHeartbeats 1000000 in
theorem ord216 {b o n sz cap s m lo hi : Nat} {w0 w : World} {d : Array Int} (x y : Nat) (h : SP .u16 24 sz b o n w0 w d s m) (hx1 : lo ≤ x) (hx2 : x < hi) (hy1 : lo ≤ y) (hy2 : y < hi) (hh : hi ≤ n) (hn : n ≤ 1000000000) (hm : m ≤ 1000) :
    Calls Try.prog 136 #[.slice (some ⟨b, o, none⟩) n cap, .int .i64 x, .int .i64 y, .pointer (some ⟨s, 0, none⟩)] w fun e w' =>
      ∃ p q m' : Nat, e = .returned (.tuple #[.int .i64 p, .int .i64 q]) ∧ lo ≤ p ∧ p < hi ∧ lo ≤ q ∧ q < hi ∧ m' ≤ m + 1 ∧ SP .u16 24 sz b o n w0 w' d s m' := by
  obtain ⟨G, hG, hcw, hfw⟩ := h.row.fam
  have hc := h.cell
  have hf := h.free
  have hl := h.lt
  have HS := Hidden.mk h
  clear h hG
  go_enter Try.func136, Try.ntmps136
  go_wp2
  go_quiet (first | (go_at_call 97; refine Calls.quiet_of_same (less16 _ _ _)))
  go_wp2_with fail
  · go_ret2
    exact ⟨y, x, m + 1, rfl, hy1, hy2, hx1, hx2, Nat.le_refl _, (HS.out.drewN _).put (m + 1)⟩
  · go_ret2
    exact ⟨x, y, m, rfl, hx1, hx2, hy1, hy2, by omega, HS.out.drewN _⟩
set_option maxHeartbeats 1000000 in
theorem med16 {b o n sz cap s m lo hi : Nat} {w0 w : World} {d : Array Int} (x y z : Nat) (h : SP .u16 24 sz b o n w0 w d s m) (hx1 : lo ≤ x) (hx2 : x < hi) (hy1 : lo ≤ y) (hy2 : y < hi) (hz1 : lo ≤ z) (hz2 : z < hi) (hh : hi ≤ n) (hn : n ≤ 1000000000) (hm : m ≤ 900) :
    Calls Try.prog 132 #[.slice (some ⟨b, o, none⟩) n cap, .int .i64 x, .int .i64 y, .int .i64 z, .pointer (some ⟨s, 0, none⟩)] w fun e w' =>
      ∃ p m' : Nat, e = .returned (.int .i64 p) ∧ lo ≤ p ∧ p < hi ∧ m' ≤ m + 3 ∧ SP .u16 24 sz b o n w0 w' d s m' := by
  go_enter Try.func132, Try.ntmps132
  go_wp2_with fail
  refine (ord216 x y h hx1 hx2 hy1 hy2 hh hn (by omega)).mono ?_
  rintro e w1 ⟨p1, q1, m1, rfl, a1, a2, a3, a4, hm1, h1⟩
  have H1 := Hidden.mk h1
  clear h1 h
  go_wp2_with fail
  refine (ord216 q1 z H1.out a3 a4 hz1 hz2 hh hn (by omega)).mono ?_
  rintro e w2 ⟨p2, q2, m2, rfl, b1, b2, b3, b4, hm2, h2⟩
  have H2 := Hidden.mk h2
  clear h2
  go_wp2_with fail
  refine (ord216 p1 p2 H2.out a1 a2 b1 b2 hh hn (by omega)).mono ?_
  rintro e w3 ⟨p3, q3, m3, rfl, c1, c2, c3, c4, hm3, h3⟩
  have H3 := Hidden.mk h3
  clear h3
  go_wp2_with fail
  go_ret
  exact ⟨q3, m3, rfl, c3, c4, by omega, H3.out⟩
set_option maxHeartbeats 1000000 in
theorem meda16 {b o n sz cap s m lo hi : Nat} {w0 w : World} {d : Array Int} (x : Nat) (h : SP .u16 24 sz b o n w0 w d s m) (hx1 : lo + 1 ≤ x) (hx2 : x + 1 < hi) (hh : hi ≤ n) (hn : n ≤ 1000000000) (hm : m ≤ 900) :
    Calls Try.prog 131 #[.slice (some ⟨b, o, none⟩) n cap, .int .i64 x, .pointer (some ⟨s, 0, none⟩)] w fun e w' =>
      ∃ p m' : Nat, e = .returned (.int .i64 p) ∧ lo ≤ p ∧ p < hi ∧ m' ≤ m + 3 ∧ SP .u16 24 sz b o n w0 w' d s m' := by
  have H := Hidden.mk (med16 (cap := cap) (lo := lo) (hi := hi) (x - 1) x (x + 1) h (by omega) (by omega) (by omega) (by omega) (by omega) hx2 hh hn hm)
  clear h
  go_enter Try.func131, Try.ntmps131
  go_wp2_with fail
  rw [show ((x : Int) - 1) = ((x - 1 : Nat) : Int) by omega, show ((x : Int) + 1) = ((x + 1 : Nat) : Int) by omega]
  refine H.out.mono ?_
  rintro e w1 ⟨p1, m1, rfl, a1, a2, hm1, h1⟩
  have H1 := Hidden.mk h1
  clear h1
  go_wp2_with fail
  go_ret
  exact ⟨p1, m1, rfl, a1, a2, hm1, H1.out⟩
theorem medI16 {b o n sz cap s m lo hi : Nat} {w0 w : World} {d : Array Int} (x y z : Int) (h : SP .u16 24 sz b o n w0 w d s m) (hx1 : (lo : Int) ≤ x) (hx2 : x < (hi : Int)) (hy1 : (lo : Int) ≤ y) (hy2 : y < (hi : Int)) (hz1 : (lo : Int) ≤ z) (hz2 : z < (hi : Int)) (hh : hi ≤ n) (hn : n ≤ 1000000000) (hm : m ≤ 900) :
    Calls Try.prog 132 #[.slice (some ⟨b, o, none⟩) n cap, .int .i64 x, .int .i64 y, .int .i64 z, .pointer (some ⟨s, 0, none⟩)] w fun e w' =>
      ∃ p m' : Nat, e = .returned (.int .i64 p) ∧ lo ≤ p ∧ p < hi ∧ m' ≤ m + 3 ∧ SP .u16 24 sz b o n w0 w' d s m' := by
  obtain ⟨x, rfl⟩ := Int.eq_ofNat_of_zero_le (show 0 ≤ x by omega)
  obtain ⟨y, rfl⟩ := Int.eq_ofNat_of_zero_le (show 0 ≤ y by omega)
  obtain ⟨z, rfl⟩ := Int.eq_ofNat_of_zero_le (show 0 ≤ z by omega)
  exact med16 x y z h (by omega) (by omega) (by omega) (by omega) (by omega) (by omega) hh hn hm
theorem medaI16 {b o n sz cap s m lo hi : Nat} {w0 w : World} {d : Array Int} (x : Int) (h : SP .u16 24 sz b o n w0 w d s m) (hx1 : (lo : Int) + 1 ≤ x) (hx2 : x + 1 < (hi : Int)) (hh : hi ≤ n) (hn : n ≤ 1000000000) (hm : m ≤ 900) :
    Calls Try.prog 131 #[.slice (some ⟨b, o, none⟩) n cap, .int .i64 x, .pointer (some ⟨s, 0, none⟩)] w fun e w' =>
      ∃ p m' : Nat, e = .returned (.int .i64 p) ∧ lo ≤ p ∧ p < hi ∧ m' ≤ m + 3 ∧ SP .u16 24 sz b o n w0 w' d s m' := by
  obtain ⟨x, rfl⟩ := Int.eq_ofNat_of_zero_le (show 0 ≤ x by omega)
  exact meda16 x h (by omega) (by omega) hh hn hm
set_option maxHeartbeats 2000000 in
theorem piv16 {b o n sz cap : Nat} {w0 w : World} {d : Array Int} (a c : Nat) (h : SR .u16 24 sz b o n w0 w d) (hac : a < c) (hc : c ≤ n) (hn : n ≤ 1000000000) :
    Calls Try.prog 111 #[.slice (some ⟨b, o, none⟩) n cap, .int .i64 a, .int .i64 c] w fun e w' =>
      ∃ (p : Nat) (t : Int), e = .returned (.tuple #[.int .i64 p, .int .i64 t]) ∧ a ≤ p ∧ p < c ∧ SR .u16 24 sz b o n w0 w' d := by
  have hP : SP .u16 24 sz b o n w0 (w.alloc (.cells #[.int .i64 0] 3)) d w.heap.size 0 := by
    have hB := Blk.new w 3 #[.int .i64 0]
    exact ⟨h.alloc _, ⟨_, hB⟩, by have := h.lt; omega, h.mod.size⟩
  have HP := Hidden.mk hP
  clear hP h
  have FIN : ∀ (p m : Nat) (W : World), a ≤ p → p < c → SP .u16 24 sz b o n w0 W d w.heap.size m → ∀ t : Int, ∃ (p' : Nat) (t' : Int), Ending.returned (.tuple #[.int .i64 p, .int .i64 t]) = .returned (.tuple #[.int .i64 p', .int .i64 t']) ∧ a ≤ p' ∧ p' < c ∧ SR .u16 24 sz b o n w0 W d :=
    fun p m W h1 h2 h3 t => ⟨p, t, rfl, h1, h2, h3.row⟩
  have FIN' := Hidden.mk FIN
  clear FIN
  by_cases h8 : 8 ≤ c - a
  · have h8z : (8 : Int) ≤ (c : Int) - (a : Int) := by omega
    by_cases h50 : 50 ≤ c - a
    · have h50z : (50 : Int) ≤ (c : Int) - (a : Int) := by omega
      go_enter Try.func111, Try.ntmps111
      go_wp2_with fail
      refine (medaI16 (lo := a) (hi := c) _ HP.out (by omega) (by omega) hc hn (by omega)).mono ?_
      rintro e w1 ⟨p1, m1, rfl, a1, a2, hm1, h1⟩
      have H1 := Hidden.mk h1
      clear h1
      go_wp2_with fail
      refine (medaI16 (lo := a) (hi := c) _ H1.out (by omega) (by omega) hc hn (by omega)).mono ?_
      rintro e w2 ⟨p2, m2, rfl, b1, b2, hm2, h2⟩
      have H2 := Hidden.mk h2
      clear h2
      go_wp2_with fail
      refine (medaI16 (lo := a) (hi := c) _ H2.out (by omega) (by omega) hc hn (by omega)).mono ?_
      rintro e w3 ⟨p3, m3, rfl, c1, c2, hm3, h3⟩
      have H3 := Hidden.mk h3
      clear h3
      go_wp2_with fail
      refine (med16 (lo := a) (hi := c) _ _ _ H3.out a1 a2 b1 b2 c1 c2 hc hn (by omega)).mono ?_
      rintro e w4 ⟨p4, m4, rfl, d1, d2, hm4, h4⟩
      have hcl := h4.cell
      have H4 := Hidden.mk h4
      clear h4
      go_wp2_with fail
      all_goals
        go_ret2
        exact FIN'.out _ _ _ d1 d2 H4.out _
    · have h50z : ¬ (50 : Int) ≤ (c : Int) - (a : Int) := by omega
      go_enter Try.func111, Try.ntmps111
      go_wp2_with fail
      refine (medI16 (lo := a) (hi := c) _ _ _ HP.out (by omega) (by omega) (by omega) (by omega) (by omega) (by omega) hc hn (by omega)).mono ?_
      rintro e w4 ⟨p4, m4, rfl, d1, d2, hm4, h4⟩
      have hcl := h4.cell
      have H4 := Hidden.mk h4
      clear h4
      go_wp2_with fail
      all_goals
        go_ret2
        exact FIN'.out _ _ _ d1 d2 H4.out _
  · have h8z : ¬ (8 : Int) ≤ (c : Int) - (a : Int) := by omega
    have hcl := HP.out.cell
    go_enter Try.func111, Try.ntmps111
    go_wp2_with fail
    obtain ⟨p, hp⟩ : ∃ p : Nat, (a : Int) + ((c : Int) - (a : Int)) / 4 * 2 = p := ⟨a + (c - a) / 4 * 2, by omega⟩
    all_goals
      go_ret2
      exact ⟨p, ⟨1, by rw [← hp]; rfl⟩, by omega, by omega, HP.out.row⟩
end Go.Proofs.Ythcjnijggebcaaa
