/- The chain: the laws' example, Line. -/
import Derived.Test.YtnbanbfnabhjjaaChain4
import Derived.Test.YtnbanbfnabhjjaaWords
namespace Go.Proofs.Ytnbanbfnabhjjaa
open Go.RowKit
set_option linter.unusedVariables false
set_option linter.unusedSimpArgs false
theorem cm_behind_at {w0 w : World} {cb limit : Nat} {A B : CL} (k i n : Int) (hn : n = ((A ++ B).length : Nat)) (h : CM w0 w cb limit true (A ++ B)) (hi : i = lsC A (-1)) (hl : (A ++ B).length < limit) :
    Calls Try.prog 51 #[.pointer (some ⟨cb, 0, none⟩), .int .i64 i, .int .u64 k] w fun e w' => e = .returned (.tuple #[.int .i64 n, .bool true]) ∧ CM w0 w' cb limit true (A ++ (n.toNat, k) :: B) := by
  refine (cm_behind k i h hi hl).mono ?_
  rintro e w' ⟨a, rfl, h1, h2⟩
  have h2 := h2 rfl
  subst hn
  rw [h2] at h1 ⊢
  exact ⟨rfl, h1⟩
set_option maxRecDepth 100000 in
set_option maxHeartbeats 1000000 in
theorem awake13 (w : World) :
    Calls Try.prog 41 #[] w fun e w' => e = .returned (.bool true) ∧ Below w.heap.size w w' := by
  go_enter Try.func41, Try.ntmps41
  go_wp2_with fail
  refine (cm_new (w0 := w) 9 (Below.refl _ _) (by omega)).mono ?_; rintro e w1 ⟨cb, rfl, hS⟩
  go_wp2_with fail
  refine (cm_behind_at (A := []) (B := []) 5 (-1) 0 rfl hS rfl (by simp)).mono ?_; clear hS; rintro e w2 ⟨rfl, hS⟩
  go_wp2_with fail
  refine (cm_behind_at (A := [(0, 5)]) (B := []) 9 0 1 rfl hS rfl (by simp)).mono ?_; clear hS; rintro e w2 ⟨rfl, hS⟩
  go_wp2_with fail
  refine (cm_behind_at (A := [(0, 5)]) (B := [(1, 9)]) 7 0 2 rfl hS rfl (by simp)).mono ?_; clear hS; rintro e w2 ⟨rfl, hS⟩
  go_wp2_with fail
  refine (cm_next (A := []) (a := 0) (k := 5) (B := [(2, 7), (1, 9)]) hS).mono ?_; clear hS; rintro e w2 ⟨rfl, hS⟩
  have e1 : hdC [((2 : Nat), (7 : Int)), (1, 9)] (-1) = 2 := rfl
  rw [e1]
  clear e1
  go_wp2_with fail
  refine (cm_prev (A := [(0, 5), (2, 7)]) (a := 1) (k := 9) (B := []) hS).mono ?_; clear hS; rintro e w2 ⟨rfl, hS⟩
  have e1 : lsC [((0 : Nat), (5 : Int)), (2, 7)] (-1) = 2 := rfl
  rw [e1]
  clear e1
  have HS := Hidden.mk hS
  clear hS
  go_wp2_with fail
  go_ret
  exact ⟨rfl, HS.out.below⟩
def pkeys (L : CL) : List Int := L.map (·.2)
/-- What Line leaves. -/
def LinePost (w0 : World) (cb limit : Nat) (l : List Int) (e : Ending) (w' : World) : Prop :=
  e = .returned (.int .i64 ((min limit l.length : Nat) : Int)) ∧ ∃ L, CM w0 w' cb limit true L ∧ pkeys L = l.take (min limit l.length)
set_option maxRecDepth 100000 in
set_option maxHeartbeats 1000000 in
theorem cm_line (w0 : World) (cb limit : Nat) (l : List Int) (v : Value) (w : World) (h : CM w0 w cb limit true []) (hl : ISl .u64 w0 v l) (hv : ∀ b ∈ rb v, b < w0.heap.size) (hlen : l.length ≤ 1000) :
    Calls Try.prog 44 #[.pointer (some ⟨cb, 0, none⟩), v] w (LinePost w0 cb limit l) := by
  obtain ⟨a, cap, rfl, k1, k2⟩ := hl.slice_
  have hwl : Hidden (∀ W : World, Below w0.heap.size w0 W → ISl .u64 W (.slice a l.length cap) l) := ⟨fun W hW => hl.below hW hv⟩
  clear hl hv
  go_enter Try.func44, Try.ntmps44
  go_wp2_with fail
  go_loopw [11] (fun iv wr => ∃ (j : Nat) (L : CL), j ≤ l.length ∧ j ≤ limit ∧ iv = .int .i64 j ∧ CM w0 wr cb limit true L ∧ pkeys L = l.take j) (fun iv _ => l.length - (intOf iv).toNat)
  case atStart => exact ⟨0, [], by omega, by omega, rfl, h, rfl⟩
  case round =>
    clear h
    obtain ⟨j, L, hj, hjl, rfl, hS, hL⟩ := hrel
    have hLj : L.length = j := by have := congrArg List.length hL; simp [pkeys] at this; omega
    by_cases hlt : j < l.length
    · obtain ⟨g, off, x, rfl, hg, hx, hc⟩ := (hwl.out _ hS.below).get hlt
      have hlast := cm_last hS
      by_cases hroom : j < limit
      · have hb := cm_behind (A := L) (B := []) x (lsC L (-1)) (by simpa using hS) rfl (by simp; omega)
        have hd := Hidden.mk (show ∀ a : Nat, pkeys (L ++ [(a, x)]) = l.take (j + 1) from fun a => by unfold pkeys at *; rw [List.map_append, hL, List.take_add_one, hx]; rfl)
        generalize lsC L (-1) = la at *
        clear hS hL hx hLj
        go_wp2_with fail
        refine hlast.mono ?_; clear hlast; rintro e w1 ⟨rfl, rfl⟩
        go_wp2_with fail
        refine hb.mono ?_; clear hb; rintro e w1 ⟨a, rfl, hS, _⟩
        have HS := Hidden.mk hS
        clear hS
        go_wp2_with fail
        go_roundw
        case rel => exact ⟨j + 1, _, by omega, by omega, by go_num, HS.out, hd.out a⟩
        case measure => simp [intOf]; omega
      · obtain rfl : j = limit := by omega
        have hb := cm_full (A := L) (B := []) x (lsC L (-1)) (by simpa using hS) rfl (by simp; omega)
        have hd := Hidden.mk hL
        generalize lsC L (-1) = la at *
        clear hS hL hx hLj
        go_wp2_with fail
        refine hlast.mono ?_; clear hlast; rintro e w1 ⟨rfl, rfl⟩
        go_wp2_with fail
        refine hb.mono ?_; clear hb; rintro e w1 ⟨rfl, hS⟩
        have HS := Hidden.mk hS
        clear hS
        go_wp2_with fail
        go_ret
        have e1 : min j l.length = j := by omega
        exact ⟨by rw [e1]; rfl, L, by simpa using HS.out, by rw [e1]; exact hd.out⟩
    · obtain rfl : j = l.length := by omega
      have HS := Hidden.mk (And.intro hS hL)
      clear hS hL hlt hLj
      go_wp2_with fail
      go_ret
      have e1 : min limit l.length = l.length := by omega
      exact ⟨by rw [e1]; rfl, L, HS.out.1, by rw [e1]; exact HS.out.2⟩
end Go.Proofs.Ytnbanbfnabhjjaa
