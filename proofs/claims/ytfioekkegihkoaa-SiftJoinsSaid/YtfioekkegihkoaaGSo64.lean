/- Texts joined: So64A, So64C, So64B, So64D, So64E, SoNext, So64F, So64G, So64S. -/
import Derived.Test.YtfioekkegihkoaaGOrd
import Derived.Test.YtfioekkegihkoaaProg
import Derived.Test.YtfioekkegihkoaaGHash
import Derived.Laws.Closers25b
import Derived.Laws.Bits64b
import Derived.Test.YtfioekkegihkoaaGSl
set_option linter.unusedVariables false
set_option linter.unusedSimpArgs false
/- cmp.Less, insertionSortOrdered, reverseRangeOrdered at uint64. -/
namespace Go.Proofs.Ytfioekkegihkoaa
open Go.RowKit
set_option linter.unusedVariables false
set_option linter.unusedSimpArgs false

theorem less64 (x y : Int) (w : World) : Calls Try.prog 133 #[.int .u64 x, .int .u64 y] w fun e w' => e = .returned (.bool (Sort.ltInt x y)) ∧ w' = w := by
  have hnan : ∀ (z : Int) (w : World), Calls Try.prog 151 #[.int .u64 z] w fun e w' => e = .returned (.bool false) ∧ w' = w := by
    intro z w
    go_enter Try.func151, Try.ntmps151
    go_wp2
    go_ret
    exact ⟨by simp, rfl⟩
  go_enter Try.func133, Try.ntmps133
  go_wp2_with (go_at_call 151; refine (hnan _ _).mono ?_; rintro e w' ⟨rfl, rfl⟩)
  go_ret
  exact ⟨rfl, rfl⟩

set_option maxHeartbeats 1000000 in
theorem ins64 {b o n sz cap : Nat} {w0 w : World} {d : Array Int} (a c : Nat) (h : SR .u64 22 sz b o n w0 w d) (hac : a ≤ c) (hc : c ≤ n) (hn : n ≤ 1000000000) :
    Calls Try.prog 127 #[.slice (some ⟨b, o, none⟩) n cap, .int .i64 a, .int .i64 c] w fun e w' => e = .returned (.tuple #[]) ∧ SR .u64 22 sz b o n w0 w' (Sort.insertionSort Sort.ltInt d a c) := by
  go_enter Try.func127, Try.ntmps127
  go_wp2
  go_loopw [6] (fun vi wr => ∃ (i : Nat) (dk : Array Int), vi = .int .i64 i ∧ a < i ∧ i ≤ c + 1 ∧ SR .u64 22 sz b o n w0 wr dk ∧ Sort.insOuter Sort.ltInt a c i dk = Sort.insOuter Sort.ltInt a c (a + 1) d) (fun vi _ => c + 1 - (intOf vi).toNat)
  case atStart => exact ⟨a + 1, d, by go_num, by omega, by omega, h, rfl⟩
  case round =>
    obtain ⟨i, dk, rfl, hai, hic, hS, hO⟩ := hrel
    have HO := Hidden.mk hO
    have HS := Hidden.mk hS
    clear hO hS h
    by_cases hlt : i < c
    · go_wp2_with fail
      go_loopw [7] (fun vj wr => ∃ (j : Nat) (dj : Array Int), vj = .int .i64 j ∧ a ≤ j ∧ j ≤ i ∧ SR .u64 22 sz b o n w0 wr dj ∧ Sort.insInner Sort.ltInt a j dj = Sort.insInner Sort.ltInt a i dk) (fun vj _ => (intOf vj).toNat)
      case atStart => exact ⟨i, dk, rfl, by omega, Nat.le_refl _, HS.out, rfl⟩
      case round =>
        obtain ⟨j, dj, rfl, haj, hji, hS, hI⟩ := hrel
        obtain ⟨G, hG, hcw, hfw⟩ := hS.fam
        have HG := Hidden.mk hG
        have HI := Hidden.mk hI
        have HS2 := Hidden.mk hS
        clear hG hI hS
        have out : (j ≤ a ∨ Sort.ltInt (G j) (G (j - 1)) = false) → ∀ q, ∃ i' dk', Value.int .i64 ((i : Int) + 1) = .int .i64 (i' : Nat) ∧ a < i' ∧ i' ≤ c + 1 ∧ SR .u64 22 sz b o n w0 (wr.drewN q) dk' ∧ Sort.insOuter Sort.ltInt a c i' dk' = Sort.insOuter Sort.ltInt a c (a + 1) d := fun hs q => by
          refine ⟨i + 1, dj, by go_num, by omega, by omega, HS2.out.drewN q, ?_⟩
          rw [← HO.out, Sort.insOuter.eq_def Sort.ltInt a c i dk, if_pos hlt, ← HI.out]
          rw [ins_stop (by rw [← HG.out _ _ rfl, ← HG.out _ _ rfl]; exact hs)]
        have OUT := Hidden.mk out
        clear out
        by_cases hja : a < j
        · go_wp2_with fail
          go_quiet (first | (go_at_call 133; refine Calls.quiet_of_same (less64 _ _ _)))
          go_wp2_with fail
          · have hl : Sort.ltInt (G j) (G (j - 1)) = true := by assumption
            go_region
            all_goals go_wp2_with fail
            go_roundw
            case rel =>
              refine ⟨j - 1, Sort.swp dj j (j - 1), by congr 1; omega, by omega, by omega, ?_, ?_⟩
              · exact (HS2.out.drewN _).swp' (by omega) (by omega) (HG.out _ _ rfl) (HG.out _ _ rfl)
              · rw [← HI.out, ins_go hja (by rw [← HG.out _ _ rfl, ← HG.out _ _ rfl]; exact hl)]
            case measure => simp [intOf]; omega
          · have hl : Sort.ltInt (G j) (G (j - 1)) = false := by assumption
            go_roundw
            case rel => exact OUT.out (Or.inr hl) _
            case measure => simp [intOf]; omega
        · go_wp2_with fail
          go_quiet (first | (go_at_call 133; refine Calls.quiet_of_same (less64 _ _ _)))
          go_wp2_with fail
          go_roundw
          case rel => exact OUT.out (Or.inl (by omega)) _
          case measure => simp [intOf]; omega
    · go_wp2_with fail
      go_end0
      refine ⟨rfl, ?_⟩
      have e : Sort.insertionSort Sort.ltInt d a c = dk := by unfold Sort.insertionSort; rw [← HO.out, Sort.insOuter.eq_def, if_neg hlt]
      rw [e]; exact HS.out
end Go.Proofs.Ytfioekkegihkoaa

/- order2Ordered, medianOrdered, medianAdjacentOrdered, choosePivotOrdered at uint64: the pivot lies inside. -/
namespace Go.Proofs.Ytfioekkegihkoaa
open Go.RowKit
set_option linter.unusedVariables false
set_option linter.unusedSimpArgs false

set_option maxHeartbeats 1000000 in
theorem ord264 {b o n sz cap s m lo hi : Nat} {w0 w : World} {d : Array Int} (x y : Nat) (h : SP .u64 22 sz b o n w0 w d s m) (hx1 : lo ≤ x) (hx2 : x < hi) (hy1 : lo ≤ y) (hy2 : y < hi) (hh : hi ≤ n) (hn : n ≤ 1000000000) (hm : m ≤ 1000) :
    Calls Try.prog 153 #[.slice (some ⟨b, o, none⟩) n cap, .int .i64 x, .int .i64 y, .pointer (some ⟨s, 0, none⟩)] w fun e w' =>
      ∃ p q m' : Nat, e = .returned (.tuple #[.int .i64 p, .int .i64 q]) ∧ lo ≤ p ∧ p < hi ∧ lo ≤ q ∧ q < hi ∧ m' ≤ m + 1 ∧ SP .u64 22 sz b o n w0 w' d s m' := by
  obtain ⟨G, hG, hcw, hfw⟩ := h.row.fam
  have hc := h.cell
  have hf := h.free
  have hl := h.lt
  have HS := Hidden.mk h
  clear h hG
  go_enter Try.func153, Try.ntmps153
  go_wp2
  go_quiet (first | (go_at_call 133; refine Calls.quiet_of_same (less64 _ _ _)))
  go_wp2_with fail
  · go_ret2
    exact ⟨y, x, m + 1, rfl, hy1, hy2, hx1, hx2, Nat.le_refl _, (HS.out.drewN _).put (m + 1)⟩
  · go_ret2
    exact ⟨x, y, m, rfl, hx1, hx2, hy1, hy2, by omega, HS.out.drewN _⟩
set_option maxHeartbeats 1000000 in
theorem med64 {b o n sz cap s m lo hi : Nat} {w0 w : World} {d : Array Int} (x y z : Nat) (h : SP .u64 22 sz b o n w0 w d s m) (hx1 : lo ≤ x) (hx2 : x < hi) (hy1 : lo ≤ y) (hy2 : y < hi) (hz1 : lo ≤ z) (hz2 : z < hi) (hh : hi ≤ n) (hn : n ≤ 1000000000) (hm : m ≤ 900) :
    Calls Try.prog 150 #[.slice (some ⟨b, o, none⟩) n cap, .int .i64 x, .int .i64 y, .int .i64 z, .pointer (some ⟨s, 0, none⟩)] w fun e w' =>
      ∃ p m' : Nat, e = .returned (.int .i64 p) ∧ lo ≤ p ∧ p < hi ∧ m' ≤ m + 3 ∧ SP .u64 22 sz b o n w0 w' d s m' := by
  go_enter Try.func150, Try.ntmps150
  go_wp2_with fail
  refine (ord264 x y h hx1 hx2 hy1 hy2 hh hn (by omega)).mono ?_
  rintro e w1 ⟨p1, q1, m1, rfl, a1, a2, a3, a4, hm1, h1⟩
  have H1 := Hidden.mk h1
  clear h1 h
  go_wp2_with fail
  refine (ord264 q1 z H1.out a3 a4 hz1 hz2 hh hn (by omega)).mono ?_
  rintro e w2 ⟨p2, q2, m2, rfl, b1, b2, b3, b4, hm2, h2⟩
  have H2 := Hidden.mk h2
  clear h2
  go_wp2_with fail
  refine (ord264 p1 p2 H2.out a1 a2 b1 b2 hh hn (by omega)).mono ?_
  rintro e w3 ⟨p3, q3, m3, rfl, c1, c2, c3, c4, hm3, h3⟩
  have H3 := Hidden.mk h3
  clear h3
  go_wp2_with fail
  go_ret
  exact ⟨q3, m3, rfl, c3, c4, by omega, H3.out⟩
set_option maxHeartbeats 1000000 in
theorem meda64 {b o n sz cap s m lo hi : Nat} {w0 w : World} {d : Array Int} (x : Nat) (h : SP .u64 22 sz b o n w0 w d s m) (hx1 : lo + 1 ≤ x) (hx2 : x + 1 < hi) (hh : hi ≤ n) (hn : n ≤ 1000000000) (hm : m ≤ 900) :
    Calls Try.prog 149 #[.slice (some ⟨b, o, none⟩) n cap, .int .i64 x, .pointer (some ⟨s, 0, none⟩)] w fun e w' =>
      ∃ p m' : Nat, e = .returned (.int .i64 p) ∧ lo ≤ p ∧ p < hi ∧ m' ≤ m + 3 ∧ SP .u64 22 sz b o n w0 w' d s m' := by
  have H := Hidden.mk (med64 (cap := cap) (lo := lo) (hi := hi) (x - 1) x (x + 1) h (by omega) (by omega) (by omega) (by omega) (by omega) hx2 hh hn hm)
  clear h
  go_enter Try.func149, Try.ntmps149
  go_wp2_with fail
  rw [show ((x : Int) - 1) = ((x - 1 : Nat) : Int) by omega, show ((x : Int) + 1) = ((x + 1 : Nat) : Int) by omega]
  refine H.out.mono ?_
  rintro e w1 ⟨p1, m1, rfl, a1, a2, hm1, h1⟩
  have H1 := Hidden.mk h1
  clear h1
  go_wp2_with fail
  go_ret
  exact ⟨p1, m1, rfl, a1, a2, hm1, H1.out⟩
theorem medI64 {b o n sz cap s m lo hi : Nat} {w0 w : World} {d : Array Int} (x y z : Int) (h : SP .u64 22 sz b o n w0 w d s m) (hx1 : (lo : Int) ≤ x) (hx2 : x < (hi : Int)) (hy1 : (lo : Int) ≤ y) (hy2 : y < (hi : Int)) (hz1 : (lo : Int) ≤ z) (hz2 : z < (hi : Int)) (hh : hi ≤ n) (hn : n ≤ 1000000000) (hm : m ≤ 900) :
    Calls Try.prog 150 #[.slice (some ⟨b, o, none⟩) n cap, .int .i64 x, .int .i64 y, .int .i64 z, .pointer (some ⟨s, 0, none⟩)] w fun e w' =>
      ∃ p m' : Nat, e = .returned (.int .i64 p) ∧ lo ≤ p ∧ p < hi ∧ m' ≤ m + 3 ∧ SP .u64 22 sz b o n w0 w' d s m' := by
  obtain ⟨x, rfl⟩ := Int.eq_ofNat_of_zero_le (show 0 ≤ x by omega)
  obtain ⟨y, rfl⟩ := Int.eq_ofNat_of_zero_le (show 0 ≤ y by omega)
  obtain ⟨z, rfl⟩ := Int.eq_ofNat_of_zero_le (show 0 ≤ z by omega)
  exact med64 x y z h (by omega) (by omega) (by omega) (by omega) (by omega) (by omega) hh hn hm
theorem medaI64 {b o n sz cap s m lo hi : Nat} {w0 w : World} {d : Array Int} (x : Int) (h : SP .u64 22 sz b o n w0 w d s m) (hx1 : (lo : Int) + 1 ≤ x) (hx2 : x + 1 < (hi : Int)) (hh : hi ≤ n) (hn : n ≤ 1000000000) (hm : m ≤ 900) :
    Calls Try.prog 149 #[.slice (some ⟨b, o, none⟩) n cap, .int .i64 x, .pointer (some ⟨s, 0, none⟩)] w fun e w' =>
      ∃ p m' : Nat, e = .returned (.int .i64 p) ∧ lo ≤ p ∧ p < hi ∧ m' ≤ m + 3 ∧ SP .u64 22 sz b o n w0 w' d s m' := by
  obtain ⟨x, rfl⟩ := Int.eq_ofNat_of_zero_le (show 0 ≤ x by omega)
  exact meda64 x h (by omega) (by omega) hh hn hm
set_option maxHeartbeats 2000000 in
theorem piv64 {b o n sz cap : Nat} {w0 w : World} {d : Array Int} (a c : Nat) (h : SR .u64 22 sz b o n w0 w d) (hac : a < c) (hc : c ≤ n) (hn : n ≤ 1000000000) :
    Calls Try.prog 130 #[.slice (some ⟨b, o, none⟩) n cap, .int .i64 a, .int .i64 c] w fun e w' =>
      ∃ (p : Nat) (t : Int), e = .returned (.tuple #[.int .i64 p, .int .i64 t]) ∧ a ≤ p ∧ p < c ∧ SR .u64 22 sz b o n w0 w' d := by
  have hP : SP .u64 22 sz b o n w0 (w.alloc (.cells #[.int .i64 0] 3)) d w.heap.size 0 := by
    have hB := Blk.new w 3 #[.int .i64 0]
    exact ⟨h.alloc _, ⟨_, hB⟩, by have := h.lt; omega, h.mod.size⟩
  have HP := Hidden.mk hP
  clear hP h
  have FIN : ∀ (p m : Nat) (W : World), a ≤ p → p < c → SP .u64 22 sz b o n w0 W d w.heap.size m → ∀ t : Int, ∃ (p' : Nat) (t' : Int), Ending.returned (.tuple #[.int .i64 p, .int .i64 t]) = .returned (.tuple #[.int .i64 p', .int .i64 t']) ∧ a ≤ p' ∧ p' < c ∧ SR .u64 22 sz b o n w0 W d :=
    fun p m W h1 h2 h3 t => ⟨p, t, rfl, h1, h2, h3.row⟩
  have FIN' := Hidden.mk FIN
  clear FIN
  by_cases h8 : 8 ≤ c - a
  · have h8z : (8 : Int) ≤ (c : Int) - (a : Int) := by omega
    by_cases h50 : 50 ≤ c - a
    · have h50z : (50 : Int) ≤ (c : Int) - (a : Int) := by omega
      go_enter Try.func130, Try.ntmps130
      go_wp2_with fail
      refine (medaI64 (lo := a) (hi := c) _ HP.out (by omega) (by omega) hc hn (by omega)).mono ?_
      rintro e w1 ⟨p1, m1, rfl, a1, a2, hm1, h1⟩
      have H1 := Hidden.mk h1
      clear h1
      go_wp2_with fail
      refine (medaI64 (lo := a) (hi := c) _ H1.out (by omega) (by omega) hc hn (by omega)).mono ?_
      rintro e w2 ⟨p2, m2, rfl, b1, b2, hm2, h2⟩
      have H2 := Hidden.mk h2
      clear h2
      go_wp2_with fail
      refine (medaI64 (lo := a) (hi := c) _ H2.out (by omega) (by omega) hc hn (by omega)).mono ?_
      rintro e w3 ⟨p3, m3, rfl, c1, c2, hm3, h3⟩
      have H3 := Hidden.mk h3
      clear h3
      go_wp2_with fail
      refine (med64 (lo := a) (hi := c) _ _ _ H3.out a1 a2 b1 b2 c1 c2 hc hn (by omega)).mono ?_
      rintro e w4 ⟨p4, m4, rfl, d1, d2, hm4, h4⟩
      have hcl := h4.cell
      have H4 := Hidden.mk h4
      clear h4
      go_wp2_with fail
      all_goals
        go_ret2
        exact FIN'.out _ _ _ d1 d2 H4.out _
    · have h50z : ¬ (50 : Int) ≤ (c : Int) - (a : Int) := by omega
      go_enter Try.func130, Try.ntmps130
      go_wp2_with fail
      refine (medI64 (lo := a) (hi := c) _ _ _ HP.out (by omega) (by omega) (by omega) (by omega) (by omega) (by omega) hc hn (by omega)).mono ?_
      rintro e w4 ⟨p4, m4, rfl, d1, d2, hm4, h4⟩
      have hcl := h4.cell
      have H4 := Hidden.mk h4
      clear h4
      go_wp2_with fail
      all_goals
        go_ret2
        exact FIN'.out _ _ _ d1 d2 H4.out _
  · have h8z : ¬ (8 : Int) ≤ (c : Int) - (a : Int) := by omega
    have hcl := HP.out.cell
    go_enter Try.func130, Try.ntmps130
    go_wp2_with fail
    obtain ⟨p, hp⟩ : ∃ p : Nat, (a : Int) + ((c : Int) - (a : Int)) / 4 * 2 = p := ⟨a + (c - a) / 4 * 2, by omega⟩
    all_goals
      go_ret2
      exact ⟨p, ⟨1, by rw [← hp]; rfl⟩, by omega, by omega, HP.out.row⟩
end Go.Proofs.Ytfioekkegihkoaa

/- reverseRangeOrdered, siftDownOrdered, heapSortOrdered at uint64. -/
namespace Go.Proofs.Ytfioekkegihkoaa
open Go.RowKit
set_option linter.unusedVariables false
set_option linter.unusedSimpArgs false

set_option maxHeartbeats 1000000 in
theorem rev64 {b o n sz cap : Nat} {w0 w : World} {d : Array Int} (a c : Nat) (h : SR .u64 22 sz b o n w0 w d) (hac : a < c) (hc : c ≤ n) (hn : n ≤ 1000000000) :
    Calls Try.prog 131 #[.slice (some ⟨b, o, none⟩) n cap, .int .i64 a, .int .i64 c] w fun e w' => e = .returned (.tuple #[]) ∧ SR .u64 22 sz b o n w0 w' (Sort.reverseRange d a c) := by
  go_enter Try.func131, Try.ntmps131
  go_wp2
  go_loopw [6, 7] (fun vi vj wr => ∃ (i j : Nat) (dk : Array Int), vi = .int .i64 i ∧ vj = .int .i64 j ∧ i ≤ c ∧ j < c ∧ SR .u64 22 sz b o n w0 wr dk ∧ Sort.reverseLoop i j dk = Sort.reverseLoop a (c - 1) d) (fun vi vj _ => c - (intOf vi).toNat)
  case atStart => exact ⟨a, c - 1, d, rfl, by congr 1; omega, by omega, by omega, h, rfl⟩
  case round =>
    obtain ⟨i, j, dk, rfl, rfl, hi, hj, hS, hE⟩ := hrel
    obtain ⟨G, hG, hcw, hfw⟩ := hS.fam
    have HG := Hidden.mk hG
    have HE := Hidden.mk hE
    have HS := Hidden.mk hS
    clear hG hE hS h
    by_cases hlt : i < j
    · go_wp2_with fail
      go_region
      all_goals go_wp2_with fail
      go_roundw
      case rel => exact ⟨i + 1, j - 1, Sort.swp dk i j, by go_num, by congr 1; omega, by omega, by omega, HS.out.drew.swpa (by omega) (by omega) (by omega) (by omega) (HG.out _ _ (by omega)) (HG.out _ _ (by omega)), by rw [← HE.out, rev_go hlt]⟩
      case measure => simp [intOf]; omega
    · go_wp2_with fail
      go_end0
      refine ⟨rfl, ?_⟩
      have e : Sort.reverseRange d a c = dk := by unfold Sort.reverseRange; rw [← HE.out, rev_stop hlt]
      rw [e]; exact HS.out

set_option maxHeartbeats 3200000 in
set_option maxRecDepth 100000 in
theorem sift64 {b o n sz cap : Nat} {w0 w : World} {d : Array Int} (lo hi F : Nat) (h : SR .u64 22 sz b o n w0 w d) (hlo : lo ≤ hi) (hc : F + hi ≤ n) (hn : n ≤ 1000000000) :
    Calls Try.prog 146 #[.slice (some ⟨b, o, none⟩) n cap, .int .i64 lo, .int .i64 hi, .int .i64 F] w fun e w' => e = .returned (.tuple #[]) ∧ SR .u64 22 sz b o n w0 w' (Sort.siftDown Sort.ltInt hi F lo d) := by
  go_enter Try.func146, Try.ntmps146
  go_wp2
  go_loopg [8] (hi - lo) (fun k s8 wr => ∃ (root : Nat) (dk : Array Int), s8 = .int .i64 root ∧ root ≤ hi ∧ hi - root ≤ k ∧ SR .u64 22 sz b o n w0 wr dk ∧ Sort.siftDown Sort.ltInt hi F root dk = Sort.siftDown Sort.ltInt hi F lo d)
  case atStart => exact ⟨lo, d, rfl, hlo, Nat.le_refl _, h, rfl⟩
  case round =>
    obtain ⟨root, dk, rfl, hr, hk, hS, hE⟩ := hrel
    obtain ⟨G, hG, hcw, hfw⟩ := hS.fam
    have HG := Hidden.mk hG
    have HE := Hidden.mk hE
    have HS := Hidden.mk hS
    clear hG hE hS h
    by_cases h0 : hi ≤ 2 * root + 1
    · have h0z : (hi : Int) ≤ 2 * (root : Int) + 1 := by omega
      go_wp2_with fail
      go_end0
      refine ⟨rfl, ?_⟩
      have e : Sort.siftDown Sort.ltInt hi F lo d = dk := by rw [← HE.out, sd_end dk h0]
      rw [e]; exact HS.out
    · have h0z : ¬ ((hi : Int) ≤ 2 * (root : Int) + 1) := by omega
      by_cases h1 : 2 * root + 2 < hi
      · have h1z : 2 * (root : Int) + 1 + 1 < (hi : Int) := by omega
        go_wp2_with fail
        go_quiet (first | (go_at_call 133; refine Calls.quiet_of_same (less64 _ _ _)))
        go_wp2_with fail
        · skip
          have hC : Child Sort.ltInt hi F root (2 * root + 2) dk := by
            exact .inl ⟨rfl, h1, by rw [← HG.out (F + 2 * root + 1) _ (by omega), ← HG.out (F + 2 * root + 2) _ (by omega)]; assumption⟩
          have HC := Hidden.mk hC
          clear hC
          revert nq; intro nq1
          have hcw2 : ∀ t, t < n → (wr.drewN nq1).cell? ⟨b, o + t, none⟩ = some (.int .u64 (G t)) := hcw
          have hfw2 : ∀ t, t < n → (wr.drewN nq1).frozen? ⟨b, o + t, none⟩ = false := hfw
          have HS2 := Hidden.mk (HS.out.drewN nq1)
          clear hcw hfw HS
          generalize wr.drewN nq1 = wr2 at hcw2 hfw2 HS2 ⊢
          go_quiet (first | (go_at_call 133; refine Calls.quiet_of_same (less64 _ _ _)))
          go_wp2_with fail
          · have hL : Sort.ltInt (G (F + root)) (G (F + 2 * root + 2)) = false := by
              have : (!Sort.ltInt (G (F + root)) (G (F + 2 * root + 2))) = true := by assumption
              simpa using this
            (try simp only [Exit.inBlock, Exit.then])
            refine bodyPost_ret (results_none rfl _ _ _) rfl ?_
            refine ⟨rfl, ?_⟩
            have e : Sort.siftDown Sort.ltInt hi F lo d = dk := by rw [← HE.out]; exact sd_stop HC.out (by rw [← HG.out (F + root) _ (by omega), ← HG.out (F + 2 * root + 2) _ (by omega)]; exact hL)
            rw [e]; exact HS2.out.drewN _
          · have hL : Sort.ltInt (G (F + root)) (G (F + 2 * root + 2)) = true := by
              have : (!Sort.ltInt (G (F + root)) (G (F + 2 * root + 2))) = false := by assumption
              simpa using this
            have hcw3 : ∀ t, t < n → (wr2.drewN nq).cell? ⟨b, o + t, none⟩ = some (.int .u64 (G t)) := hcw2
            have hfw3 : ∀ t, t < n → (wr2.drewN nq).frozen? ⟨b, o + t, none⟩ = false := hfw2
            have HS3 := Hidden.mk (HS2.out.drewN nq)
            clear hcw2 hfw2 HS2
            generalize wr2.drewN nq = wr3 at hcw3 hfw3 HS3 ⊢
            go_region
            go_wp2_with fail
            go_roundg (hi - (2 * root + 2))
            case measure => omega
            case rel =>
              refine ⟨2 * root + 2, Sort.swp dk (F + root) (F + (2 * root + 2)), by simp <;> omega, by omega, Nat.le_refl _, HS3.out.drew.swpa (by omega) (by omega) (by omega) (by omega) (HG.out _ _ (by omega)) (HG.out _ _ (by omega)), ?_⟩
              rw [← HE.out]; exact (sd_go HC.out (by rw [← HG.out (F + root) _ (by omega), ← HG.out (F + 2 * root + 2) _ (by omega)]; exact hL)).symm
        · skip
          have hC : Child Sort.ltInt hi F root (2 * root + 1) dk := by
            exact .inr ⟨rfl, by omega, fun _ => by rw [← HG.out (F + 2 * root + 1) _ (by omega), ← HG.out (F + 2 * root + 2) _ (by omega)]; assumption⟩
          have HC := Hidden.mk hC
          clear hC
          revert nq; intro nq1
          have hcw2 : ∀ t, t < n → (wr.drewN nq1).cell? ⟨b, o + t, none⟩ = some (.int .u64 (G t)) := hcw
          have hfw2 : ∀ t, t < n → (wr.drewN nq1).frozen? ⟨b, o + t, none⟩ = false := hfw
          have HS2 := Hidden.mk (HS.out.drewN nq1)
          clear hcw hfw HS
          generalize wr.drewN nq1 = wr2 at hcw2 hfw2 HS2 ⊢
          go_quiet (first | (go_at_call 133; refine Calls.quiet_of_same (less64 _ _ _)))
          go_wp2_with fail
          · have hL : Sort.ltInt (G (F + root)) (G (F + 2 * root + 1)) = false := by
              have : (!Sort.ltInt (G (F + root)) (G (F + 2 * root + 1))) = true := by assumption
              simpa using this
            (try simp only [Exit.inBlock, Exit.then])
            refine bodyPost_ret (results_none rfl _ _ _) rfl ?_
            refine ⟨rfl, ?_⟩
            have e : Sort.siftDown Sort.ltInt hi F lo d = dk := by rw [← HE.out]; exact sd_stop HC.out (by rw [← HG.out (F + root) _ (by omega), ← HG.out (F + 2 * root + 1) _ (by omega)]; exact hL)
            rw [e]; exact HS2.out.drewN _
          · have hL : Sort.ltInt (G (F + root)) (G (F + 2 * root + 1)) = true := by
              have : (!Sort.ltInt (G (F + root)) (G (F + 2 * root + 1))) = false := by assumption
              simpa using this
            have hcw3 : ∀ t, t < n → (wr2.drewN nq).cell? ⟨b, o + t, none⟩ = some (.int .u64 (G t)) := hcw2
            have hfw3 : ∀ t, t < n → (wr2.drewN nq).frozen? ⟨b, o + t, none⟩ = false := hfw2
            have HS3 := Hidden.mk (HS2.out.drewN nq)
            clear hcw2 hfw2 HS2
            generalize wr2.drewN nq = wr3 at hcw3 hfw3 HS3 ⊢
            go_region
            go_wp2_with fail
            go_roundg (hi - (2 * root + 1))
            case measure => omega
            case rel =>
              refine ⟨2 * root + 1, Sort.swp dk (F + root) (F + (2 * root + 1)), by simp <;> omega, by omega, Nat.le_refl _, HS3.out.drew.swpa (by omega) (by omega) (by omega) (by omega) (HG.out _ _ (by omega)) (HG.out _ _ (by omega)), ?_⟩
              rw [← HE.out]; exact (sd_go HC.out (by rw [← HG.out (F + root) _ (by omega), ← HG.out (F + 2 * root + 1) _ (by omega)]; exact hL)).symm
      · have h1z : decide (2 * (root : Int) + 1 + 1 < (hi : Int)) = false := decide_eq_false (by omega)
        go_wp2_with fail
        go_quiet (first | (go_at_call 133; refine Calls.quiet_of_same (less64 _ _ _)))
        go_wp2_with fail
        · skip
          have hC : Child Sort.ltInt hi F root (2 * root + 1) dk := by
            exact .inr ⟨rfl, by omega, fun h => absurd h h1⟩
          have HC := Hidden.mk hC
          clear hC
          revert nq; intro nq1
          have hcw2 : ∀ t, t < n → (wr.drewN nq1).cell? ⟨b, o + t, none⟩ = some (.int .u64 (G t)) := hcw
          have hfw2 : ∀ t, t < n → (wr.drewN nq1).frozen? ⟨b, o + t, none⟩ = false := hfw
          have HS2 := Hidden.mk (HS.out.drewN nq1)
          clear hcw hfw HS
          generalize wr.drewN nq1 = wr2 at hcw2 hfw2 HS2 ⊢
          go_quiet (first | (go_at_call 133; refine Calls.quiet_of_same (less64 _ _ _)))
          go_wp2_with fail
          · have hL : Sort.ltInt (G (F + root)) (G (F + 2 * root + 1)) = false := by
              have : (!Sort.ltInt (G (F + root)) (G (F + 2 * root + 1))) = true := by assumption
              simpa using this
            (try simp only [Exit.inBlock, Exit.then])
            refine bodyPost_ret (results_none rfl _ _ _) rfl ?_
            refine ⟨rfl, ?_⟩
            have e : Sort.siftDown Sort.ltInt hi F lo d = dk := by rw [← HE.out]; exact sd_stop HC.out (by rw [← HG.out (F + root) _ (by omega), ← HG.out (F + 2 * root + 1) _ (by omega)]; exact hL)
            rw [e]; exact HS2.out.drewN _
          · have hL : Sort.ltInt (G (F + root)) (G (F + 2 * root + 1)) = true := by
              have : (!Sort.ltInt (G (F + root)) (G (F + 2 * root + 1))) = false := by assumption
              simpa using this
            have hcw3 : ∀ t, t < n → (wr2.drewN nq).cell? ⟨b, o + t, none⟩ = some (.int .u64 (G t)) := hcw2
            have hfw3 : ∀ t, t < n → (wr2.drewN nq).frozen? ⟨b, o + t, none⟩ = false := hfw2
            have HS3 := Hidden.mk (HS2.out.drewN nq)
            clear hcw2 hfw2 HS2
            generalize wr2.drewN nq = wr3 at hcw3 hfw3 HS3 ⊢
            go_region
            go_wp2_with fail
            go_roundg (hi - (2 * root + 1))
            case measure => omega
            case rel =>
              refine ⟨2 * root + 1, Sort.swp dk (F + root) (F + (2 * root + 1)), by simp <;> omega, by omega, Nat.le_refl _, HS3.out.drew.swpa (by omega) (by omega) (by omega) (by omega) (HG.out _ _ (by omega)) (HG.out _ _ (by omega)), ?_⟩
              rw [← HE.out]; exact (sd_go HC.out (by rw [← HG.out (F + root) _ (by omega), ← HG.out (F + 2 * root + 1) _ (by omega)]; exact hL)).symm

set_option maxHeartbeats 3200000 in
set_option maxRecDepth 100000 in
theorem heap64 {b o n sz cap : Nat} {w0 w : World} {d : Array Int} (a c : Nat) (h : SR .u64 22 sz b o n w0 w d) (hac : a ≤ c) (hc : c ≤ n) (hn : n ≤ 1000000000) :
    Calls Try.prog 128 #[.slice (some ⟨b, o, none⟩) n cap, .int .i64 a, .int .i64 c] w fun e w' => e = .returned (.tuple #[]) ∧ SR .u64 22 sz b o n w0 w' (Sort.heapSort Sort.ltInt d a c) := by
  have ecast : ((c - a : Nat) : Int) = (c : Int) - (a : Int) := by omega
  go_enter Try.func128, Try.ntmps128
  go_wp2
  go_loopg [9] ((c - a - 1) / 2 + 1) (fun k s9 wr => s9 = .int .i64 ((k : Int) - 1) ∧ k ≤ (c - a - 1) / 2 + 1 ∧ ∃ dk : Array Int, SR .u64 22 sz b o n w0 wr dk ∧ Sort.heapBuild Sort.ltInt (c - a) a k dk = Sort.heapBuild Sort.ltInt (c - a) a ((c - a - 1) / 2 + 1) d)
  case atStart => exact ⟨by rw [half_at hac], Nat.le_refl _, d, h, rfl⟩
  case round =>
    obtain ⟨rfl, hkk, dk, hS, hE⟩ := hrel
    have HE := Hidden.mk hE
    have HS := Hidden.mk hS
    clear hE hS h
    cases gk with
    | zero =>
      have HB : Hidden (dk = Sort.heapBuild Sort.ltInt (c - a) a ((c - a - 1) / 2 + 1) d) := ⟨HE.out⟩
      go_wp2_with fail
      go_loopg [10] (c - a) (fun k s10 wr => s10 = .int .i64 ((k : Int) - 1) ∧ k ≤ c - a ∧ ∃ dj : Array Int, SR .u64 22 sz b o n w0 wr dj ∧ Sort.heapPop Sort.ltInt a k dj = Sort.heapPop Sort.ltInt a (c - a) dk)
      case atStart => exact ⟨by rw [ecast], Nat.le_refl _, dk, HS.out, rfl⟩
      case round =>
        obtain ⟨rfl, hkk, dj, hS, hE⟩ := hrel
        obtain ⟨G, hG, hcw, hfw⟩ := hS.fam
        have HG := Hidden.mk hG
        have HE := Hidden.mk hE
        have HS := Hidden.mk hS
        clear hG hE hS ecast
        cases gk with
        | zero =>
          go_wp2_with fail
          go_end0
          refine ⟨rfl, ?_⟩
          have e : Sort.heapSort Sort.ltInt d a c = dj := by rw [Sort.heapSort, ← HB.out, ← HE.out]; rfl
          rw [e]; exact HS.out
        | succ k =>
          rcases Nat.eq_zero_or_pos k with hk0 | hkp
          · subst hk0
            go_wp2_with fail
            go_region
            go_wp2_with fail
            have HS3 := Hidden.mk (HS.out.drew.swpa (i := a) (j := a) (p := o + a) (q := o + a) (x := G a) (y := G a) rfl rfl (by omega) (by omega) (HG.out _ _ rfl) (HG.out _ _ rfl))
            refine (sift64 0 0 a (HS.out.drew.swpa (i := a) (j := a) (by omega) (by omega) (by omega) (by omega) (HG.out _ _ (by omega)) (HG.out _ _ (by omega))) (Nat.le_refl _) (by omega) hn).mono ?_
            rintro e w1 ⟨rfl, hS1⟩
            have HS1 := Hidden.mk hS1
            clear hS1
            go_wp2_with fail
            go_roundg 0
            case measure => omega
            case rel => exact ⟨by simp, by omega, _, HS1.out, HE.out⟩
          · go_wp2_with fail
            go_region
            go_wp2_with fail
            refine (sift64 0 k a (HS.out.drew.swpa (i := a) (j := a + k) (by omega) (by omega) (by omega) (by omega) (HG.out _ _ (by omega)) (HG.out _ _ (by omega))) (by omega) (by omega) hn).mono ?_
            rintro e w1 ⟨rfl, hS1⟩
            have HS1 := Hidden.mk hS1
            clear hS1
            go_wp2_with fail
            go_roundg k
            case measure => omega
            case rel => exact ⟨by simp, by omega, _, HS1.out, HE.out⟩
    | succ k =>
      have hcall := fun cap => sift64 (cap := cap) k (c - a) a HS.out (by omega) (by omega) hn
      rw [ecast] at hcall
      have HCALL := Hidden.mk hcall
      clear hcall ecast
      go_wp2_with fail
      refine (HCALL.out _).mono ?_
      rintro e w1 ⟨rfl, hS1⟩
      have HS1 := Hidden.mk hS1
      clear hS1
      go_wp2_with fail
      go_roundg k
      case measure => omega
      case rel => exact ⟨by simp, by omega, _, HS1.out, HE.out⟩
end Go.Proofs.Ytfioekkegihkoaa

/- partitionOrdered, partitionEqualOrdered at uint64. -/
namespace Go.Proofs.Ytfioekkegihkoaa
open Go.RowKit
set_option linter.unusedVariables false
set_option linter.unusedSimpArgs false

set_option maxHeartbeats 3200000 in
set_option maxRecDepth 100000 in
theorem part64 {b o n sz cap : Nat} {w0 w : World} {d : Array Int} (a c p : Nat) (h : SR .u64 22 sz b o n w0 w d) (hap : a ≤ p) (hpc : p < c) (hc : c ≤ n) (hn : n ≤ 1000000000) :
    Calls Try.prog 135 #[.slice (some ⟨b, o, none⟩) n cap, .int .i64 a, .int .i64 c, .int .i64 p] w fun e w' => e = .returned (.tuple #[.int .i64 (Sort.partition Sort.ltInt d a c p).1, .bool (Sort.partition Sort.ltInt d a c p).2.1]) ∧ SR .u64 22 sz b o n w0 w' ((Sort.partition Sort.ltInt d a c p).2.2) := by
  obtain ⟨J, rfl⟩ : ∃ J, c = J + 1 := ⟨c - 1, by omega⟩
  obtain ⟨G, hG, hcw, hfw⟩ := h.fam
  have HG := Hidden.mk hG
  have HS := Hidden.mk h
  clear hG h
  go_enter Try.func135, Try.ntmps135
  go_upto_region 1 with fail
  go_cut [] from 10 to 25 (fun wx => SR .u64 22 sz b o n w0 wx (Sort.swp d a p))
  case first =>
    by_cases hEq : a = p
    · subst hEq
      go_region
      go_wp2_with fail
      go_meet
      exact HS.out.drew.swpa (by omega) (by omega) (by omega) (by omega) (HG.out _ _ (by omega)) (HG.out _ _ (by omega))
    · go_region
      go_wp2_with fail
      go_meet
      exact HS.out.drew.swpa (by omega) (by omega) (by omega) (by omega) (HG.out _ _ (by omega)) (HG.out _ _ (by omega))
  case rest =>
    obtain ⟨d1, hd1⟩ : ∃ d1, Sort.swp d a p = d1 := ⟨_, rfl⟩
    rw [hd1] at hcut
    have HD1 := Hidden.mk hd1
    have HS := Hidden.mk hcut
    clear hd1 hcut hcw hfw HG
    go_upto_block 0 with fail
    go_cut [10] from 30 to 45 (fun vi wx => ∃ i : Nat, vi = .int .i64 i ∧ a + 1 ≤ i ∧ i ≤ J + 1 ∧ SR .u64 22 sz b o n w0 wx d1 ∧ Sort.scanUp (fun x => Sort.ltInt x d1[a]!) d1 (J) (a + 1) = i)
    case first =>
      go_wp2_with fail
      go_loopw [10] (fun vi wr => ∃ i : Nat, vi = .int .i64 i ∧ a + 1 ≤ i ∧ i ≤ J + 1 ∧ SR .u64 22 sz b o n w0 wr d1 ∧ Sort.scanUp (fun x => Sort.ltInt x d1[a]!) d1 (J) (i) = Sort.scanUp (fun x => Sort.ltInt x d1[a]!) d1 (J) (a + 1)) (fun vi _ => J + 1 - (intOf vi).toNat)
      case atStart => exact ⟨a + 1, (by first | rfl | go_num | (congr 1; omega)), by omega, by omega, HS.out, rfl⟩
      case round =>
        obtain ⟨i, rfl, h1, h2, hS, hE⟩ := hrel
        obtain ⟨G, hG, hcw, hfw⟩ := hS.fam
        have HG := Hidden.mk hG
        have HE := Hidden.mk hE
        have HS := Hidden.mk hS
        clear hG hE hS
        by_cases hij : i ≤ J
        · have hijz : (i : Int) ≤ ((J : Nat) : Int) := by omega
          go_wp2_with fail
          go_quiet (first | (go_at_call 133; refine Calls.quiet_of_same (less64 _ _ _)))
          go_wp2_with fail
          · have hl : Sort.ltInt (G i) (G a) = true := by assumption
            go_roundw
            case rel => exact ⟨i + 1, (by first | go_num | (congr 1; omega)), by omega, by omega, HS.out.drewN _, by rw [← HE.out, sup_go hij (by simp only [← HG.out _ _ rfl]; exact hl)]⟩
            case measure => simp [intOf]; omega
          · have hl : Sort.ltInt (G i) (G a) = false := by assumption
            go_meet
            exact ⟨i, rfl, h1, h2, HS.out.drewN _, by rw [← HE.out, sup_stop (fun _ => by simp only [← HG.out _ _ rfl]; exact hl)]⟩
        · have hijz : decide ((i : Int) ≤ ((J : Nat) : Int)) = false := decide_eq_false (by omega)
          go_wp2_with fail
          go_quiet (first | (go_at_call 133; refine Calls.quiet_of_same (less64 _ _ _)))
          go_wp2_with fail
          go_meet
          exact ⟨i, rfl, h1, h2, HS.out.drewN _, by rw [← HE.out, sup_stop (fun h => absurd h hij)]⟩
    case rest =>
      obtain ⟨I, rfl, hI1, hI2, hS, hI⟩ := hcut
      have HS := Hidden.mk hS
      have HI := Hidden.mk hI
      clear hS hI
      go_upto_block 2 with fail
      go_cut [11] from 46 to 62 (fun vi wx => ∃ j : Nat, vi = .int .i64 j ∧ I ≤ j + 1 ∧ j ≤ J ∧ SR .u64 22 sz b o n w0 wx d1 ∧ Sort.scanDown (fun x => !Sort.ltInt x d1[a]!) d1 (I) (J) = j)
      case first =>
        go_wp2_with fail
        go_loopw [11] (fun vi wr => ∃ j : Nat, vi = .int .i64 j ∧ I ≤ j + 1 ∧ j ≤ J ∧ SR .u64 22 sz b o n w0 wr d1 ∧ Sort.scanDown (fun x => !Sort.ltInt x d1[a]!) d1 (I) (j) = Sort.scanDown (fun x => !Sort.ltInt x d1[a]!) d1 (I) (J)) (fun vi _ => (intOf vi).toNat)
        case atStart => exact ⟨J, (by first | rfl | go_num | (congr 1; omega)), by omega, by omega, HS.out, rfl⟩
        case round =>
          obtain ⟨j, rfl, h1, h2, hS, hE⟩ := hrel
          obtain ⟨G, hG, hcw, hfw⟩ := hS.fam
          have HG := Hidden.mk hG
          have HE := Hidden.mk hE
          have HS := Hidden.mk hS
          clear hG hE hS
          by_cases hij : I ≤ j
          · have hijz : ((I : Nat) : Int) ≤ (j : Int) := by omega
            go_wp2_with fail
            go_quiet (first | (go_at_call 133; refine Calls.quiet_of_same (less64 _ _ _)))
            go_wp2_with fail
            · have hl : (!Sort.ltInt (G j) (G a)) = true := by assumption
              go_roundw
              case rel => exact ⟨j - 1, (by first | go_num | (congr 1; omega)), by omega, by omega, HS.out.drewN _, by rw [← HE.out, sdn_go (by omega) hij (by simp only [← HG.out _ _ rfl]; exact hl)]⟩
              case measure => simp [intOf]; omega
            · have hl : (!Sort.ltInt (G j) (G a)) = false := by assumption
              go_meet
              exact ⟨j, rfl, h1, h2, HS.out.drewN _, by rw [← HE.out, sdn_stop (fun _ => by simp only [← HG.out _ _ rfl]; exact hl)]⟩
          · have hijz : decide (((I : Nat) : Int) ≤ (j : Int)) = false := decide_eq_false (by omega)
            go_wp2_with fail
            go_quiet (first | (go_at_call 133; refine Calls.quiet_of_same (less64 _ _ _)))
            go_wp2_with fail
            go_meet
            exact ⟨j, rfl, h1, h2, HS.out.drewN _, by rw [← HE.out, sdn_stop (fun h => absurd h hij)]⟩
      case rest =>
        obtain ⟨K, rfl, hK1, hK2, hS, hK⟩ := hcut
        have HS := Hidden.mk hS
        have HK := Hidden.mk hK
        clear hS hK
        skip
        go_wp2_with fail
        · have hlt : K < I := by assumption
          obtain ⟨G, hG, hcw, hfw⟩ := HS.out.fam
          have HG := Hidden.mk hG
          clear hG
          have e := Hidden.mk (part_one (c := J + 1) HD1.out HI.out HK.out hlt)
          by_cases hEq : K = a
          · have hEqz : (K : Int) = (a : Int) := by omega
            subst hEq
            go_region
            go_wp2_with fail
            go_ret2
            exact ⟨by rw [e.out]; rfl, by rw [e.out]; exact HS.out.drew.swpa (by omega) (by omega) (by omega) (by omega) (HG.out _ _ (by omega)) (HG.out _ _ (by omega))⟩
          · go_region
            go_wp2_with fail
            go_ret2
            exact ⟨by rw [e.out]; rfl, by rw [e.out]; exact HS.out.drew.swpa (by omega) (by omega) (by omega) (by omega) (HG.out _ _ (by omega)) (HG.out _ _ (by omega))⟩
        · have hge : ¬ K < I := by assumption
          obtain ⟨G, hG, hcw, hfw⟩ := HS.out.fam
          have HG := Hidden.mk hG
          clear hG
          have hIK : I < K := scan_lt (fun _ => rfl) HI.out HK.out (by omega) hge
          go_cut [] from 81 to 94 (fun wx => SR .u64 22 sz b o n w0 wx (Sort.swp d1 I K))
          case first =>
            go_region
            go_wp2_with fail
            go_meet
            exact HS.out.drew.swpa (by omega) (by omega) (by omega) (by omega) (HG.out _ _ (by omega)) (HG.out _ _ (by omega))
          case rest =>
            have HS := Hidden.mk hcut
            clear hcut hcw hfw HG
            go_wp2_with fail
            go_loopw [10, 11] (fun vi vj wr => ∃ (x y : Nat) (dk : Array Int), vi = .int .i64 x ∧ vj = .int .i64 y ∧ a < x ∧ x ≤ y + 1 ∧ y ≤ J ∧ SR .u64 22 sz b o n w0 wr dk ∧ Sort.partLoop Sort.ltInt a x y dk = Sort.partLoop Sort.ltInt a (I + 1) (K - 1) (Sort.swp d1 I K)) (fun vi _ _ => J + 2 - (intOf vi).toNat)
            case atStart => exact ⟨I + 1, K - 1, Sort.swp d1 I K, by go_num, by congr 1; omega, by omega, by omega, by omega, HS.out, rfl⟩
            case round =>
              obtain ⟨x, y, dk, rfl, rfl, hx1, hx2, hy2, hS, hE⟩ := hrel
              have HE := Hidden.mk hE
              have HS := Hidden.mk hS
              clear hE hS
              go_upto_block 6 with fail
              go_cut [10] from 99 to 114 (fun vi wx => ∃ i : Nat, vi = .int .i64 i ∧ x ≤ i ∧ i ≤ y + 1 ∧ SR .u64 22 sz b o n w0 wx dk ∧ Sort.scanUp (fun x => Sort.ltInt x dk[a]!) dk (y) (x) = i)
              case first =>
                go_wp2_with fail
                go_loopw [10] (fun vi wr => ∃ i : Nat, vi = .int .i64 i ∧ x ≤ i ∧ i ≤ y + 1 ∧ SR .u64 22 sz b o n w0 wr dk ∧ Sort.scanUp (fun x => Sort.ltInt x dk[a]!) dk (y) (i) = Sort.scanUp (fun x => Sort.ltInt x dk[a]!) dk (y) (x)) (fun vi _ => y + 1 - (intOf vi).toNat)
                case atStart => exact ⟨x, (by first | rfl | go_num | (congr 1; omega)), by omega, by omega, HS.out, rfl⟩
                case round =>
                  obtain ⟨i, rfl, h1, h2, hS, hE⟩ := hrel
                  obtain ⟨G, hG, hcw, hfw⟩ := hS.fam
                  have HG := Hidden.mk hG
                  have HE := Hidden.mk hE
                  have HS := Hidden.mk hS
                  clear hG hE hS
                  by_cases hij : i ≤ y
                  · have hijz : (i : Int) ≤ ((y : Nat) : Int) := by omega
                    go_wp2_with fail
                    go_quiet (first | (go_at_call 133; refine Calls.quiet_of_same (less64 _ _ _)))
                    go_wp2_with fail
                    · have hl : Sort.ltInt (G i) (G a) = true := by assumption
                      go_roundw
                      case rel => exact ⟨i + 1, (by first | go_num | (congr 1; omega)), by omega, by omega, HS.out.drewN _, by rw [← HE.out, sup_go hij (by simp only [← HG.out _ _ rfl]; exact hl)]⟩
                      case measure => simp [intOf]; omega
                    · have hl : Sort.ltInt (G i) (G a) = false := by assumption
                      go_meet
                      exact ⟨i, rfl, h1, h2, HS.out.drewN _, by rw [← HE.out, sup_stop (fun _ => by simp only [← HG.out _ _ rfl]; exact hl)]⟩
                  · have hijz : decide ((i : Int) ≤ ((y : Nat) : Int)) = false := decide_eq_false (by omega)
                    go_wp2_with fail
                    go_quiet (first | (go_at_call 133; refine Calls.quiet_of_same (less64 _ _ _)))
                    go_wp2_with fail
                    go_meet
                    exact ⟨i, rfl, h1, h2, HS.out.drewN _, by rw [← HE.out, sup_stop (fun h => absurd h hij)]⟩
              case rest =>
                obtain ⟨X, rfl, hX1, hX2, hS, hX⟩ := hcut
                have HS := Hidden.mk hS
                have HX := Hidden.mk hX
                clear hS hX
                go_upto_block 8 with fail
                go_cut [11] from 115 to 131 (fun vi wx => ∃ j : Nat, vi = .int .i64 j ∧ X ≤ j + 1 ∧ j ≤ y ∧ SR .u64 22 sz b o n w0 wx dk ∧ Sort.scanDown (fun x => !Sort.ltInt x dk[a]!) dk (X) (y) = j)
                case first =>
                  go_wp2_with fail
                  go_loopw [11] (fun vi wr => ∃ j : Nat, vi = .int .i64 j ∧ X ≤ j + 1 ∧ j ≤ y ∧ SR .u64 22 sz b o n w0 wr dk ∧ Sort.scanDown (fun x => !Sort.ltInt x dk[a]!) dk (X) (j) = Sort.scanDown (fun x => !Sort.ltInt x dk[a]!) dk (X) (y)) (fun vi _ => (intOf vi).toNat)
                  case atStart => exact ⟨y, (by first | rfl | go_num | (congr 1; omega)), by omega, by omega, HS.out, rfl⟩
                  case round =>
                    obtain ⟨j, rfl, h1, h2, hS, hE⟩ := hrel
                    obtain ⟨G, hG, hcw, hfw⟩ := hS.fam
                    have HG := Hidden.mk hG
                    have HE := Hidden.mk hE
                    have HS := Hidden.mk hS
                    clear hG hE hS
                    by_cases hij : X ≤ j
                    · have hijz : ((X : Nat) : Int) ≤ (j : Int) := by omega
                      go_wp2_with fail
                      go_quiet (first | (go_at_call 133; refine Calls.quiet_of_same (less64 _ _ _)))
                      go_wp2_with fail
                      · have hl : (!Sort.ltInt (G j) (G a)) = true := by assumption
                        go_roundw
                        case rel => exact ⟨j - 1, (by first | go_num | (congr 1; omega)), by omega, by omega, HS.out.drewN _, by rw [← HE.out, sdn_go (by omega) hij (by simp only [← HG.out _ _ rfl]; exact hl)]⟩
                        case measure => simp [intOf]; omega
                      · have hl : (!Sort.ltInt (G j) (G a)) = false := by assumption
                        go_meet
                        exact ⟨j, rfl, h1, h2, HS.out.drewN _, by rw [← HE.out, sdn_stop (fun _ => by simp only [← HG.out _ _ rfl]; exact hl)]⟩
                    · have hijz : decide (((X : Nat) : Int) ≤ (j : Int)) = false := decide_eq_false (by omega)
                      go_wp2_with fail
                      go_quiet (first | (go_at_call 133; refine Calls.quiet_of_same (less64 _ _ _)))
                      go_wp2_with fail
                      go_meet
                      exact ⟨j, rfl, h1, h2, HS.out.drewN _, by rw [← HE.out, sdn_stop (fun h => absurd h hij)]⟩
                case rest =>
                  obtain ⟨Y, rfl, hY1, hY2, hS, hY⟩ := hcut
                  have HS := Hidden.mk hS
                  have HY := Hidden.mk hY
                  clear hS hY
                  go_wp2_with fail
                  · have hlt : Y < X := by assumption
                    obtain ⟨G, hG, hcw, hfw⟩ := HS.out.fam
                    have HG := Hidden.mk hG
                    clear hG
                    have e := Hidden.mk (part_two (c := J + 1) (m := Y) (d2 := dk) HD1.out HI.out HK.out hge (by rw [← HE.out]; exact pl_stop HX.out HY.out hlt))
                    by_cases hEq : Y = a
                    · subst hEq
                      go_region
                      go_wp2_with fail
                      go_ret2
                      exact ⟨by rw [e.out]; rfl, by rw [e.out]; exact HS.out.drew.swpa (by omega) (by omega) (by omega) (by omega) (HG.out _ _ (by omega)) (HG.out _ _ (by omega))⟩
                    · go_region
                      go_wp2_with fail
                      go_ret2
                      exact ⟨by rw [e.out]; rfl, by rw [e.out]; exact HS.out.drew.swpa (by omega) (by omega) (by omega) (by omega) (HG.out _ _ (by omega)) (HG.out _ _ (by omega))⟩
                  · have hge2 : ¬ Y < X := by assumption
                    obtain ⟨G, hG, hcw, hfw⟩ := HS.out.fam
                    have HG := Hidden.mk hG
                    clear hG
                    have hXY : X < Y := scan_lt (fun _ => rfl) HX.out HY.out (by omega) hge2
                    go_region
                    go_wp2_with fail
                    go_roundw
                    case rel => exact ⟨X + 1, Y - 1, Sort.swp dk X Y, by go_num, by congr 1; omega, by omega, by omega, by omega, HS.out.drew.swpa (by omega) (by omega) (by omega) (by omega) (HG.out _ _ (by omega)) (HG.out _ _ (by omega)), by rw [← HE.out, pl_go HX.out HY.out hge2]⟩
                    case measure => simp [intOf]; omega

set_option maxHeartbeats 3200000 in
set_option maxRecDepth 100000 in
theorem parteq64 {b o n sz cap : Nat} {w0 w : World} {d : Array Int} (a c p : Nat) (h : SR .u64 22 sz b o n w0 w d) (hap : a ≤ p) (hpc : p < c) (hc : c ≤ n) (hn : n ≤ 1000000000) :
    Calls Try.prog 134 #[.slice (some ⟨b, o, none⟩) n cap, .int .i64 a, .int .i64 c, .int .i64 p] w fun e w' => e = .returned (.int .i64 (Sort.partitionEqual Sort.ltInt d a c p).1) ∧ SR .u64 22 sz b o n w0 w' ((Sort.partitionEqual Sort.ltInt d a c p).2) := by
  obtain ⟨J, rfl⟩ : ∃ J, c = J + 1 := ⟨c - 1, by omega⟩
  obtain ⟨G, hG, hcw, hfw⟩ := h.fam
  have HG := Hidden.mk hG
  have HS := Hidden.mk h
  clear hG h
  go_enter Try.func134, Try.ntmps134
  go_upto_region 1 with fail
  go_cut [] from 11 to 24 (fun wx => SR .u64 22 sz b o n w0 wx (Sort.swp d a p))
  case first =>
    by_cases hEq : a = p
    · subst hEq
      go_region
      go_wp2_with fail
      go_meet
      exact HS.out.drew.swpa (by omega) (by omega) (by omega) (by omega) (HG.out _ _ (by omega)) (HG.out _ _ (by omega))
    · go_region
      go_wp2_with fail
      go_meet
      exact HS.out.drew.swpa (by omega) (by omega) (by omega) (by omega) (HG.out _ _ (by omega)) (HG.out _ _ (by omega))
  case rest =>
    obtain ⟨d1, hd1⟩ : ∃ d1, Sort.swp d a p = d1 := ⟨_, rfl⟩
    rw [hd1] at hcut
    have HD1 := Hidden.mk hd1
    have HS := Hidden.mk hcut
    clear hd1 hcut hcw hfw HG
    go_wp2_with fail
    go_loopw [9, 10] (fun vi vj wr => ∃ (x y : Nat) (dk : Array Int), vi = .int .i64 x ∧ vj = .int .i64 y ∧ a < x ∧ x ≤ y + 1 ∧ y ≤ J ∧ SR .u64 22 sz b o n w0 wr dk ∧ Sort.partEqLoop Sort.ltInt a x y dk = Sort.partEqLoop Sort.ltInt a (a + 1) J d1) (fun vi _ _ => J + 2 - (intOf vi).toNat)
    case atStart => exact ⟨a + 1, J, d1, by go_num, (by first | rfl | (congr 1; omega)), by omega, by omega, by omega, HS.out, rfl⟩
    case round =>
      obtain ⟨x, y, dk, rfl, rfl, hx1, hx2, hy2, hS, hE⟩ := hrel
      have HE := Hidden.mk hE
      have HS := Hidden.mk hS
      clear hE hS
      go_upto_block 2 with fail
      go_cut [9] from 29 to 45 (fun vi wx => ∃ i : Nat, vi = .int .i64 i ∧ x ≤ i ∧ i ≤ y + 1 ∧ SR .u64 22 sz b o n w0 wx dk ∧ Sort.scanUp (fun x => !Sort.ltInt dk[a]! x) dk (y) (x) = i)
      case first =>
        go_wp2_with fail
        go_loopw [9] (fun vi wr => ∃ i : Nat, vi = .int .i64 i ∧ x ≤ i ∧ i ≤ y + 1 ∧ SR .u64 22 sz b o n w0 wr dk ∧ Sort.scanUp (fun x => !Sort.ltInt dk[a]! x) dk (y) (i) = Sort.scanUp (fun x => !Sort.ltInt dk[a]! x) dk (y) (x)) (fun vi _ => y + 1 - (intOf vi).toNat)
        case atStart => exact ⟨x, (by first | rfl | go_num | (congr 1; omega)), by omega, by omega, HS.out, rfl⟩
        case round =>
          obtain ⟨i, rfl, h1, h2, hS, hE⟩ := hrel
          obtain ⟨G, hG, hcw, hfw⟩ := hS.fam
          have HG := Hidden.mk hG
          have HE := Hidden.mk hE
          have HS := Hidden.mk hS
          clear hG hE hS
          by_cases hij : i ≤ y
          · have hijz : (i : Int) ≤ ((y : Nat) : Int) := by omega
            go_wp2_with fail
            go_quiet (first | (go_at_call 133; refine Calls.quiet_of_same (less64 _ _ _)))
            go_wp2_with fail
            · have hl : (!Sort.ltInt (G a) (G i)) = true := by assumption
              go_roundw
              case rel => exact ⟨i + 1, (by first | go_num | (congr 1; omega)), by omega, by omega, HS.out.drewN _, by rw [← HE.out, sup_go hij (by simp only [← HG.out _ _ rfl]; exact hl)]⟩
              case measure => simp [intOf]; omega
            · have hl : (!Sort.ltInt (G a) (G i)) = false := by assumption
              go_meet
              exact ⟨i, rfl, h1, h2, HS.out.drewN _, by rw [← HE.out, sup_stop (fun _ => by simp only [← HG.out _ _ rfl]; exact hl)]⟩
          · have hijz : decide ((i : Int) ≤ ((y : Nat) : Int)) = false := decide_eq_false (by omega)
            go_wp2_with fail
            go_quiet (first | (go_at_call 133; refine Calls.quiet_of_same (less64 _ _ _)))
            go_wp2_with fail
            go_meet
            exact ⟨i, rfl, h1, h2, HS.out.drewN _, by rw [← HE.out, sup_stop (fun h => absurd h hij)]⟩
      case rest =>
        obtain ⟨X, rfl, hX1, hX2, hS, hX⟩ := hcut
        have HS := Hidden.mk hS
        have HX := Hidden.mk hX
        clear hS hX
        go_upto_block 4 with fail
        go_cut [10] from 46 to 61 (fun vi wx => ∃ j : Nat, vi = .int .i64 j ∧ X ≤ j + 1 ∧ j ≤ y ∧ SR .u64 22 sz b o n w0 wx dk ∧ Sort.scanDown (fun x => Sort.ltInt dk[a]! x) dk (X) (y) = j)
        case first =>
          go_wp2_with fail
          go_loopw [10] (fun vi wr => ∃ j : Nat, vi = .int .i64 j ∧ X ≤ j + 1 ∧ j ≤ y ∧ SR .u64 22 sz b o n w0 wr dk ∧ Sort.scanDown (fun x => Sort.ltInt dk[a]! x) dk (X) (j) = Sort.scanDown (fun x => Sort.ltInt dk[a]! x) dk (X) (y)) (fun vi _ => (intOf vi).toNat)
          case atStart => exact ⟨y, (by first | rfl | go_num | (congr 1; omega)), by omega, by omega, HS.out, rfl⟩
          case round =>
            obtain ⟨j, rfl, h1, h2, hS, hE⟩ := hrel
            obtain ⟨G, hG, hcw, hfw⟩ := hS.fam
            have HG := Hidden.mk hG
            have HE := Hidden.mk hE
            have HS := Hidden.mk hS
            clear hG hE hS
            by_cases hij : X ≤ j
            · have hijz : ((X : Nat) : Int) ≤ (j : Int) := by omega
              go_wp2_with fail
              go_quiet (first | (go_at_call 133; refine Calls.quiet_of_same (less64 _ _ _)))
              go_wp2_with fail
              · have hl : Sort.ltInt (G a) (G j) = true := by assumption
                go_roundw
                case rel => exact ⟨j - 1, (by first | go_num | (congr 1; omega)), by omega, by omega, HS.out.drewN _, by rw [← HE.out, sdn_go (by omega) hij (by simp only [← HG.out _ _ rfl]; exact hl)]⟩
                case measure => simp [intOf]; omega
              · have hl : Sort.ltInt (G a) (G j) = false := by assumption
                go_meet
                exact ⟨j, rfl, h1, h2, HS.out.drewN _, by rw [← HE.out, sdn_stop (fun _ => by simp only [← HG.out _ _ rfl]; exact hl)]⟩
            · have hijz : decide (((X : Nat) : Int) ≤ (j : Int)) = false := decide_eq_false (by omega)
              go_wp2_with fail
              go_quiet (first | (go_at_call 133; refine Calls.quiet_of_same (less64 _ _ _)))
              go_wp2_with fail
              go_meet
              exact ⟨j, rfl, h1, h2, HS.out.drewN _, by rw [← HE.out, sdn_stop (fun h => absurd h hij)]⟩
        case rest =>
          obtain ⟨Y, rfl, hY1, hY2, hS, hY⟩ := hcut
          have HS := Hidden.mk hS
          have HY := Hidden.mk hY
          clear hS hY
          go_wp2_with fail
          · have hlt : Y < X := by assumption
            have e : Hidden (Sort.partitionEqual Sort.ltInt d a (J + 1) p = (X, dk)) := ⟨by
              unfold Sort.partitionEqual
              rw [HD1.out, show J + 1 - 1 = J from rfl, ← HE.out]
              exact pe_stop HX.out HY.out hlt⟩
            go_ret
            exact ⟨by rw [e.out]; rfl, by rw [e.out]; exact HS.out⟩
          · have hge2 : ¬ Y < X := by assumption
            obtain ⟨G, hG, hcw, hfw⟩ := HS.out.fam
            have HG := Hidden.mk hG
            clear hG
            have hXY : X < Y := scan_lt (fun x => by simp) HX.out HY.out (by omega) hge2
            go_region
            go_wp2_with fail
            go_roundw
            case rel => exact ⟨X + 1, Y - 1, Sort.swp dk X Y, by go_num, by congr 1; omega, by omega, by omega, by omega, HS.out.drew.swpa (by omega) (by omega) (by omega) (by omega) (HG.out _ _ (by omega)) (HG.out _ _ (by omega)), by rw [← HE.out, pe_go HX.out HY.out hge2]⟩
            case measure => simp [intOf]; omega
end Go.Proofs.Ytfioekkegihkoaa

/- partialInsertionSortOrdered at uint64. -/
namespace Go.Proofs.Ytfioekkegihkoaa
open Go.RowKit
set_option linter.unusedVariables false
set_option linter.unusedSimpArgs false

set_option maxHeartbeats 3200000 in
set_option maxRecDepth 100000 in
theorem pins64 {b o n sz cap : Nat} {w0 w : World} {d : Array Int} (a c : Nat) (h : SR .u64 22 sz b o n w0 w d) (hac : a < c) (hc : c ≤ n) (hn : n ≤ 1000000000) :
    Calls Try.prog 132 #[.slice (some ⟨b, o, none⟩) n cap, .int .i64 a, .int .i64 c] w fun e w' => e = .returned (.bool (Sort.partialInsertionSort Sort.ltInt d a c).2) ∧ SR .u64 22 sz b o n w0 w' (Sort.partialInsertionSort Sort.ltInt d a c).1 := by
  unfold Sort.partialInsertionSort
  go_enter Try.func132, Try.ntmps132
  go_wp2
  go_loopw [7, 8] (fun vi vs wr => ∃ (i s : Nat) (dk : Array Int), vi = .int .i64 i ∧ vs = .int .i64 ((5 - s : Nat) : Int) ∧ s ≤ 5 ∧ a < i ∧ i ≤ c ∧ SR .u64 22 sz b o n w0 wr dk ∧ Sort.partialIns Sort.ltInt a c s i dk = Sort.partialIns Sort.ltInt a c 5 (a + 1) d) (fun _ vs _ => 5 - (intOf vs).toNat)
  case atStart => exact ⟨a + 1, 5, d, by go_num, rfl, by omega, by omega, by omega, h, rfl⟩
  case round =>
    obtain ⟨i0, s, dk, rfl, rfl, hs5, hi1, hi2, hS, hE⟩ := hrel
    have HE := Hidden.mk hE
    have HS := Hidden.mk hS
    clear hE hS h
    cases s with
    | zero =>
      go_wp2_with fail
      go_ret
      exact ⟨by rw [← HE.out]; rfl, by rw [← HE.out]; exact HS.out⟩
    | succ s =>
      have hsz : ((5 - (s + 1) : Nat) : Int) < 5 := by omega
      go_upto_block 2 with fail
      go_cut [7] from 17 to 34 (fun vi wx => ∃ i : Nat, vi = .int .i64 i ∧ i0 ≤ i ∧ i ≤ c ∧ SR .u64 22 sz b o n w0 wx dk ∧ Sort.scanSorted Sort.ltInt dk c i0 = i)
      case first =>
        go_wp2_with fail
        go_loopw [7] (fun vi wr => ∃ i : Nat, vi = .int .i64 i ∧ i0 ≤ i ∧ i ≤ c ∧ SR .u64 22 sz b o n w0 wr dk ∧ Sort.scanSorted Sort.ltInt dk c i = Sort.scanSorted Sort.ltInt dk c i0) (fun vi _ => c + 1 - (intOf vi).toNat)
        case atStart => exact ⟨i0, rfl, by omega, by omega, HS.out, rfl⟩
        case round =>
          obtain ⟨i, rfl, h1, h2, hS, hE⟩ := hrel
          obtain ⟨G, hG, hcw, hfw⟩ := hS.fam
          have HG := Hidden.mk hG
          have HE := Hidden.mk hE
          have HS := Hidden.mk hS
          clear hG hE hS
          by_cases hij : i < c
          · have hijz : (i : Int) < (c : Int) := by omega
            go_wp2_with fail
            go_quiet (first | (go_at_call 133; refine Calls.quiet_of_same (less64 _ _ _)))
            go_wp2_with fail
            · have hl : Sort.ltInt (G i) (G (i - 1)) = false := by
                have : (!Sort.ltInt (G i) (G (i - 1))) = true := by assumption
                simpa using this
              go_roundw
              case rel => exact ⟨i + 1, by go_num, by omega, by omega, HS.out.drewN _, by rw [← HE.out, sso_go hij (by rw [← HG.out _ _ rfl, ← HG.out _ _ rfl]; exact hl)]⟩
              case measure => simp [intOf]; omega
            · have hl : Sort.ltInt (G i) (G (i - 1)) = true := by
                have : (!Sort.ltInt (G i) (G (i - 1))) = false := by assumption
                simpa using this
              go_meet
              exact ⟨i, rfl, h1, h2, HS.out.drewN _, by rw [← HE.out, sso_stop (fun _ => by rw [← HG.out _ _ rfl, ← HG.out _ _ rfl]; exact hl)]⟩
          · have hijz : decide ((i : Int) < (c : Int)) = false := decide_eq_false (by omega)
            go_wp2_with fail
            go_quiet (first | (go_at_call 133; refine Calls.quiet_of_same (less64 _ _ _)))
            go_wp2_with fail
            go_meet
            exact ⟨i, rfl, h1, h2, HS.out.drewN _, by rw [← HE.out, sso_stop (fun h => absurd h hij)]⟩
      case rest =>
        obtain ⟨i, rfl, hi3, hi4, hS, hI⟩ := hcut
        have HS := Hidden.mk hS
        have HI := Hidden.mk hI
        clear hS hI
        by_cases hic : i = c
        · have hicz : ((i : Int) == (c : Int)) = true := by simp [hic]
          have e := Hidden.mk (pi_done (a := a) (s := s) HI.out hic)
          clear hic
          go_wp2_with fail
          go_ret
          exact ⟨by rw [← HE.out, e.out]; rfl, by rw [← HE.out, e.out]; exact HS.out⟩
        · have hicz : ((i : Int) == (c : Int)) = false := by simp; omega
          by_cases h50 : c - a < 50
          · have e := Hidden.mk (pi_short (a := a) (s := s) HI.out hic h50)
            go_wp2_with fail
            go_ret
            exact ⟨by rw [← HE.out, e.out]; rfl, by rw [← HE.out, e.out]; exact HS.out⟩
          · obtain ⟨G, hG, hcw, hfw⟩ := HS.out.fam
            have HG := Hidden.mk hG
            clear hG
            go_upto_region 11 with fail
            go_cut [] from 42 to 57 (fun wx => SR .u64 22 sz b o n w0 wx (Sort.swp dk i (i - 1)))
            case first =>
              go_region
              go_wp2_with fail
              go_meet
              exact HS.out.drew.swpa (by omega) (by omega) (by omega) (by omega) (HG.out _ _ (by omega)) (HG.out _ _ (by omega))
            case rest =>
            obtain ⟨d1, hd1⟩ : ∃ d1, Sort.swp dk i (i - 1) = d1 := ⟨_, rfl⟩
            rw [hd1] at hcut
            have HS := Hidden.mk hcut
            have HD1 := Hidden.mk hd1
            clear hd1 hcut hcw hfw HG
            go_upto_if 61 with fail
            go_cut [] from 62 to 94 (fun wx => SR .u64 22 sz b o n w0 wx (if i - a ≥ 2 then Sort.shiftDown Sort.ltInt (i - 1) d1 else d1))
            case first =>
              by_cases h2 : i - a ≥ 2
              · go_wp2_with fail
                go_loopw [9] (fun vj wr => ∃ (j : Nat) (dj : Array Int), vj = .int .i64 j ∧ j < i ∧ SR .u64 22 sz b o n w0 wr dj ∧ Sort.shiftDown Sort.ltInt j dj = Sort.shiftDown Sort.ltInt (i - 1) d1) (fun vj _ => (intOf vj).toNat)
                case atStart => exact ⟨i - 1, d1, (by first | go_num | (congr 1; omega)), by omega, HS.out, rfl⟩
                case round =>
                  obtain ⟨j, dj, rfl, hj1, hS, hE⟩ := hrel
                  obtain ⟨G, hG, hcw, hfw⟩ := hS.fam
                  have HG := Hidden.mk hG
                  have HE := Hidden.mk hE
                  have HS := Hidden.mk hS
                  clear hG hE hS
                  by_cases hj : 1 ≤ j
                  · go_wp2_with fail
                    go_quiet (first | (go_at_call 133; refine Calls.quiet_of_same (less64 _ _ _)))
                    go_wp2_with fail
                    · have hl : Sort.ltInt (G j) (G (j - 1)) = false := by
                        have : (!Sort.ltInt (G j) (G (j - 1))) = true := by assumption
                        simpa using this
                      have e := (shd_stop (fun _ => by rw [← HG.out _ _ rfl, ← HG.out _ _ rfl]; exact hl)).symm.trans HE.out
                      go_meet
                      rw [if_pos h2, ← e]
                      exact HS.out.drewN _
                    · have hl : Sort.ltInt (G j) (G (j - 1)) = true := by
                        have : (!Sort.ltInt (G j) (G (j - 1))) = false := by assumption
                        simpa using this
                      go_region
                      go_wp2_with fail
                      go_roundw
                      case rel => exact ⟨j - 1, Sort.swp dj j (j - 1), (by first | go_num | (congr 1; omega)), by omega, (HS.out.drewN _).swpa (by omega) (by omega) (by omega) (by omega) (HG.out _ _ (by omega)) (HG.out _ _ (by omega)), (shd_go (by omega) (by rw [← HG.out _ _ rfl, ← HG.out _ _ rfl]; exact hl)).symm.trans HE.out⟩
                      case measure => simp [intOf]; omega
                  · have e := (shd_stop (fun h => absurd h hj)).symm.trans HE.out
                    have HE2 := Hidden.mk e
                    clear e
                    go_wp2_with fail
                    have e := HE2.out
                    go_meet
                    rw [if_pos h2, ← e]
                    exact HS.out
              · go_wp2_with fail
                go_meet
                rw [if_neg h2]
                exact HS.out
            case rest =>
              obtain ⟨d2, hd2⟩ : ∃ d2, (if i - a ≥ 2 then Sort.shiftDown Sort.ltInt (i - 1) d1 else d1) = d2 := ⟨_, rfl⟩
              rw [hd2] at hcut
              have HD2 := Hidden.mk hd2
              have HS := Hidden.mk hcut
              clear hd2 hcut
              have FIN : Hidden (∀ (z : Int) (hz : z = ((5 - s : Nat) : Int)) (d3 : Array Int) (W : World), SR .u64 22 sz b o n w0 W d3 → (if c - i ≥ 2 then Sort.shiftUp Sort.ltInt c (i + 1) d2 else d2) = d3 →
                  ∃ (i' s' : Nat) (dk' : Array Int), Value.int .i64 (i : Int) = .int .i64 i' ∧ Value.int .i64 z = .int .i64 ((5 - s' : Nat) : Int) ∧ s' ≤ 5 ∧ a < i' ∧ i' ≤ c ∧ SR .u64 22 sz b o n w0 W dk' ∧ Sort.partialIns Sort.ltInt a c s' i' dk' = Sort.partialIns Sort.ltInt a c 5 (a + 1) d) := ⟨fun z hz d3 W hS h3 =>
                ⟨i, s, d3, rfl, by rw [hz], by omega, by omega, by omega, hS, by rw [← HE.out]; exact (pi_go (a := a) (s := s) HI.out hic h50 (by rw [HD1.out]; exact HD2.out) h3).symm⟩⟩
              by_cases h2 : c - i ≥ 2
              · go_wp2_with fail
                go_loopw [10] (fun vj wr => ∃ (j : Nat) (dj : Array Int), vj = .int .i64 j ∧ i < j ∧ j ≤ c ∧ SR .u64 22 sz b o n w0 wr dj ∧ Sort.shiftUp Sort.ltInt c j dj = Sort.shiftUp Sort.ltInt c (i + 1) d2) (fun vj _ => c + 1 - (intOf vj).toNat)
                case atStart => exact ⟨i + 1, d2, (by first | go_num | (congr 1; omega)), by omega, by omega, HS.out, rfl⟩
                case round =>
                  obtain ⟨j, dj, rfl, hj1, hj2, hS, hE⟩ := hrel
                  obtain ⟨G, hG, hcw, hfw⟩ := hS.fam
                  have HG := Hidden.mk hG
                  have HE := Hidden.mk hE
                  have HS := Hidden.mk hS
                  clear hG hE hS
                  by_cases hj : j < c
                  · go_wp2_with fail
                    go_quiet (first | (go_at_call 133; refine Calls.quiet_of_same (less64 _ _ _)))
                    go_wp2_with fail
                    · have hl : Sort.ltInt (G j) (G (j - 1)) = false := by
                        have : (!Sort.ltInt (G j) (G (j - 1))) = true := by assumption
                        simpa using this
                      have e := (shu_stop (fun _ => by rw [← HG.out _ _ rfl, ← HG.out _ _ rfl]; exact hl)).symm.trans HE.out
                      have HEE := Hidden.mk e
                      clear e
                      go_wp2_with fail
                      go_roundw
                      case rel => exact FIN.out _ (by omega) _ _ (HS.out.drewN _) (by rw [if_pos h2]; exact HEE.out.symm)
                      case measure => simp [intOf]; omega
                    · have hl : Sort.ltInt (G j) (G (j - 1)) = true := by
                        have : (!Sort.ltInt (G j) (G (j - 1))) = false := by assumption
                        simpa using this
                      go_region
                      go_wp2_with fail
                      go_roundw
                      case rel => exact ⟨j + 1, Sort.swp dj j (j - 1), (by first | go_num | (congr 1; omega)), by omega, by omega, (HS.out.drewN _).swpa (by omega) (by omega) (by omega) (by omega) (HG.out _ _ (by omega)) (HG.out _ _ (by omega)), (shu_go (by omega) (by rw [← HG.out _ _ rfl, ← HG.out _ _ rfl]; exact hl)).symm.trans HE.out⟩
                      case measure => simp [intOf]; omega
                  · have e := (shu_stop (fun h => absurd h hj)).symm.trans HE.out
                    have HE2 := Hidden.mk e
                    clear e
                    go_wp2_with fail
                    have e := HE2.out
                    have HEE := Hidden.mk e
                    clear e
                    go_wp2_with fail
                    go_roundw
                    case rel => exact FIN.out _ (by omega) _ _ (HS.out) (by rw [if_pos h2]; exact HEE.out.symm)
                    case measure => simp [intOf]; omega
              · go_wp2_with fail
                go_roundw
                case rel => exact FIN.out _ (by omega) _ _ HS.out (by rw [if_neg h2])
                case measure => simp [intOf]; omega
end Go.Proofs.Ytfioekkegihkoaa

/- slices.xorshift and nextPowerOfTwo: what the sort's shuffling needs of them. -/
namespace Go.Proofs.Ytfioekkegihkoaa
open Go.RowKit
set_option linter.unusedVariables false
set_option linter.unusedSimpArgs false
theorem aux_bound : ∀ (f x : Nat), 0 < x → x < 2 ^ f → 2 ^ (Lib.bitLenAux f x) ≤ 2 * x ∧ Lib.bitLenAux f x ≤ f := by
  intro f
  induction f with
  | zero => intro x h0 h1; omega
  | succ f ih =>
    intro x h0 h1
    unfold Lib.bitLenAux
    rw [if_neg (by omega)]
    rcases Nat.eq_zero_or_pos (x / 2) with h | h
    · have e : Lib.bitLenAux f (x / 2) = 0 := by rw [h]; cases f <;> simp [Lib.bitLenAux]
      rw [e]; simp; omega
    · have h2 : x / 2 < 2 ^ f := by rw [Nat.pow_succ] at h1; omega
      obtain ⟨h3, h4⟩ := ih (x / 2) h h2
      generalize hg : Lib.bitLenAux f (x / 2) = g at h3 h4
      first
        | (rw [Nat.pow_succ]; omega)
        | (rw [Nat.add_comm 1, Nat.pow_succ]; omega)
theorem len_bound {L : Nat} (h0 : 0 < L) (h1 : L ≤ 1000000000) : 2 ^ (Lib.bitLen L) ≤ 2 * L ∧ Lib.bitLen L ≤ 62 := by
  have h := aux_bound 64 L h0 (by omega)
  have e : Lib.bitLen L = Lib.bitLenAux 64 L := rfl
  rw [← e] at h
  refine ⟨h.1, ?_⟩
  rcases Nat.lt_or_ge 62 (Lib.bitLen L) with h2 | h2
  · have h3 : (2 : Nat) ^ 63 ≤ 2 ^ (Lib.bitLen L) := Nat.pow_le_pow_right (by decide) h2
    have := h.1
    omega
  · exact h2
theorem wrap_two (k : Nat) (hk : k ≤ 62) : IntKind.u64.wrap ((2 : Int) ^ k) = ((2 ^ k : Nat) : Int) := by
  have h : (2 : Nat) ^ k ≤ 2 ^ 62 := Nat.pow_le_pow_right (by decide) hk
  rw [IntKind.wrap_u64, show ((2 : Int) ^ k) = ((2 ^ k : Nat) : Int) by push_cast; rfl]
  generalize (2 : Nat) ^ k = p at h
  omega
set_option maxHeartbeats 400000 in
theorem so_pow (L : Nat) (h0 : 0 < L) (h1 : L ≤ 1000000000) (w : World) :
    Calls Try.prog 147 #[.int .i64 L] w fun e w' => (∃ M : Nat, e = .returned (.int .u64 M) ∧ 1 ≤ M ∧ M ≤ 2 * L) ∧ w' = w := by
  obtain ⟨hb1, hb2⟩ := len_bound h0 h1
  have hl := fun w => bits_Len (L : Int) w (by omega) (by omega)
  simp only [Int.toNat_natCast] at hl
  generalize Lib.bitLen L = k at hl hb1 hb2
  have hp := wrap_two k hb2
  have hpos : 0 < 2 ^ k := Nat.pow_pos (by decide)
  have H := Hidden.mk (And.intro hb1 hpos)
  have HL := Hidden.mk hl
  clear hb1 hpos hl
  generalize 2 ^ k = M at hp H
  go_enter Try.func147, Try.ntmps147
  go_wp2_with fail
  refine (HL.out _).mono ?_
  rintro e w' ⟨rfl, rfl⟩
  go_wp2_with fail
  go_ret
  exact ⟨⟨M, rfl, H.out.2, H.out.1⟩, rfl⟩
set_option maxHeartbeats 1000000 in
theorem so_next (s : Nat) (X : Int) (w : World) (hX : 0 ≤ X) (hc : w.cell? ⟨s, 0, none⟩ = some (.int .u64 X)) (hf : w.frozen? ⟨s, 0, none⟩ = false) :
    Calls Try.prog 148 #[.pointer (some ⟨s, 0, none⟩)] w fun e w' => ∃ r : Int, e = .returned (.int .u64 r) ∧ 0 ≤ r ∧ r ≤ 18446744073709551615 ∧ w' = (w.setCell ⟨s, 0, none⟩ (.int .u64 r)).drewN 3 := by
  obtain ⟨A, e1⟩ : ∃ A, bits .xor .u64 X (IntKind.u64.wrap (X * 8192)) = A := ⟨_, rfl⟩
  have lA : 0 ≤ A := by rw [← e1]; exact bits_lo_u64 _ _ _
  obtain ⟨B, e2⟩ : ∃ B, bits .xor .u64 A (A / 128) = B := ⟨_, rfl⟩
  obtain ⟨C, e3⟩ : ∃ C, bits .xor .u64 B (IntKind.u64.wrap (B * 131072)) = C := ⟨_, rfl⟩
  have HC : Hidden (0 ≤ C ∧ C ≤ 18446744073709551615) := ⟨by rw [← e3]; exact ⟨bits_lo_u64 _ _ _, bits_hi_u64 _ _ _⟩⟩
  have hss := fun u v => setCell_twice w s 0 u v
  go_enter Try.func148, Try.ntmps148
  go_wp2
  go_region
  all_goals go_wp2
  all_goals go_region
  all_goals go_wp2
  all_goals go_region
  all_goals go_wp2
  go_ret
  exact ⟨C, rfl, HC.out.1, HC.out.2, rfl⟩
end Go.Proofs.Ytfioekkegihkoaa

/- breakPatternsOrdered at uint64: a permutation. -/
namespace Go.Proofs.Ytfioekkegihkoaa
open Go.RowKit
set_option linter.unusedVariables false
set_option linter.unusedSimpArgs false

theorem and_le64 {r : Int} {M : Nat} (h0 : 0 ≤ r) (h1 : r ≤ 18446744073709551615) (hM : 1 ≤ M) (hM2 : M ≤ 2000000000) : ∃ O : Nat, bits .and .u64 r ((M : Int) - 1) = O ∧ O < M := by
  obtain ⟨R, rfl⟩ := Int.eq_ofNat_of_zero_le h0
  refine ⟨R &&& (M - 1), ?_, ?_⟩
  · rw [show ((M : Int) - 1) = ((M - 1 : Nat) : Int) by omega]
    exact bits_and_u64_nat _ _ (by omega) (by omega)
  · have : R &&& (M - 1) ≤ M - 1 := Nat.and_le_right
    omega
set_option maxHeartbeats 2000000 in
set_option maxRecDepth 100000 in
theorem brk64 {b o n sz cap : Nat} {w0 w : World} {d : Array Int} (a c : Nat) (h : SR .u64 22 sz b o n w0 w d) (hac : a + 8 ≤ c) (hc : c ≤ n) (hn : n ≤ 1000000000) :
    Calls Try.prog 129 #[.slice (some ⟨b, o, none⟩) n cap, .int .i64 a, .int .i64 c] w fun e w' => e = .returned (.tuple #[]) ∧ ∃ d', Sort.PermIn a c d d' ∧ SR .u64 22 sz b o n w0 w' d' := by
  obtain ⟨L, rfl⟩ : ∃ L, c = a + L := ⟨c - a, by omega⟩
  have hP : SQ .u64 22 sz b o n w0 (w.alloc (.cells #[.int .u64 L] 166)) d w.heap.size (.int .u64 L) := by
    have hB := Blk.new w 166 #[.int .u64 L]
    exact ⟨h.alloc _, ⟨_, hB⟩, by have := h.lt; omega, h.mod.size⟩
  have HP := Hidden.mk hP
  have hpw := so_pow L (by omega) (by omega)
  have HPW := Hidden.mk hpw
  clear hP h hpw
  have hL : ((a + L : Nat) : Int) - (a : Int) = L := by omega
  have hLz : (a : Int) + (L : Int) - (a : Int) = L := by omega
  have h8 : (8 : Int) ≤ (L : Int) := by omega
  go_enter Try.func129, Try.ntmps129
  go_wp2_with fail
  refine (HPW.out _).mono ?_
  rintro e w1 ⟨⟨M, rfl, hM1, hM2⟩, rfl⟩
  go_wp2_with fail
  go_loopw [9] (fun vi wr => ∃ (t : Nat) (X : Int) (dk : Array Int), vi = .int .i64 ((a + L / 4 * 2 - 1 + t : Nat) : Int) ∧ t ≤ 3 ∧ 0 ≤ X ∧ Sort.PermIn a (a + L) d dk ∧ SQ .u64 22 sz b o n w0 wr dk w.heap.size (.int .u64 X)) (fun vi _ => a + L / 4 * 2 + 3 - (intOf vi).toNat)
  case atStart => exact ⟨0, L, d, by congr 1; omega, by omega, by omega, Sort.permIn_refl _ _ _, HP.out⟩
  case round =>
    obtain ⟨t, X, dk, rfl, ht, hX, hp, hQ⟩ := hrel
    obtain ⟨G, hG, hcw, hfw⟩ := hQ.row.fam
    have hsb := hQ.ne
    have hsl := hQ.lt
    have hcs := hQ.cell
    have hfs := hQ.free
    have HG := Hidden.mk hG
    have HPM := Hidden.mk hp
    have HQ := Hidden.mk hQ
    clear hG hp hQ
    by_cases ht3 : t < 3
    · have hnx := so_next w.heap.size X wr hX hcs hfs
      have HN := Hidden.mk hnx
      clear hnx
      go_wp2_with fail
      refine HN.out.mono ?_
      rintro e w2 ⟨r, rfl, hr0, hr1, rfl⟩
      obtain ⟨O, hO, hOM⟩ := and_le64 hr0 hr1 hM1 (by omega)
      have HQ2 := Hidden.mk ((HQ.out.put (.int .u64 r)).drewN 3)
      obtain ⟨W2, hW2⟩ : ∃ W2, (wr.setCell ⟨w.heap.size, 0, none⟩ (.int .u64 r)).drewN 3 = W2 := ⟨_, rfl⟩
      rw [hW2] at HQ2 ⊢
      obtain ⟨G2, hG2, hcw2, hfw2⟩ := HQ2.out.row.fam
      have HG2 := Hidden.mk hG2
      clear hG2 hW2 hcw hfw hcs hfs hsb hsl
      go_wp2_with fail
      · have hLO : L ≤ O := by omega
        have hw : IntKind.i64.wrap ((O : Int) - (L : Int)) = (O : Int) - (L : Int) := IntWalk.i64_in _ (by omega)
        by_cases hEq : a + L / 4 * 2 - 1 + t = a + (O - L)
        all_goals
          go_region
          all_goals go_wp2_with fail
          go_roundw
          case rel =>
            refine ⟨t + 1, r, Sort.swp dk (a + L / 4 * 2 - 1 + t) (a + (O - L)), (by first | rfl | (congr 1; omega)), by omega, hr0, Sort.permIn_trans _ _ _ _ _ HPM.out (Sort.swp_permIn _ _ _ _ _ (by omega) (by omega) (by omega) (by omega) (by rw [HQ2.out.row.size]; exact hc)), ?_⟩
            exact HQ2.out.drew.swpa (by omega) (by omega) (by omega) (by omega) (HG2.out _ _ (by omega)) (HG2.out _ _ (by omega))
          case measure => simp [intOf]; omega
      · have hLO : ¬ L ≤ O := by omega
        by_cases hEq : a + L / 4 * 2 - 1 + t = a + O
        all_goals
          go_region
          all_goals go_wp2_with fail
          go_roundw
          case rel =>
            refine ⟨t + 1, r, Sort.swp dk (a + L / 4 * 2 - 1 + t) (a + O), (by first | rfl | (congr 1; omega)), by omega, hr0, Sort.permIn_trans _ _ _ _ _ HPM.out (Sort.swp_permIn _ _ _ _ _ (by omega) (by omega) (by omega) (by omega) (by rw [HQ2.out.row.size]; exact hc)), ?_⟩
            exact HQ2.out.drew.swpa (by omega) (by omega) (by omega) (by omega) (HG2.out _ _ (by omega)) (HG2.out _ _ (by omega))
          case measure => simp [intOf]; omega
    · go_wp2_with fail
      go_end0
      exact ⟨rfl, dk, HPM.out, HQ.out.row⟩
end Go.Proofs.Ytfioekkegihkoaa

/- pdqsortOrdered and Sort at uint64: a sorted permutation. -/
namespace Go.Proofs.Ytfioekkegihkoaa
open Go.RowKit
set_option linter.unusedVariables false
set_option linter.unusedSimpArgs false

/-- What a call of it says. -/
def PdqPost64 (sz b o n : Nat) (w0 : World) (a c : Nat) (d : Array Int) (e : Ending) (w' : World) : Prop :=
  e = .returned (.tuple #[]) ∧ ∃ d', Sort.PermIn a c d d' ∧ Sort.SortedIn Sort.ltInt a c d' ∧ SR .u64 22 sz b o n w0 w' d'
set_option maxHeartbeats 4000000 in
set_option maxRecDepth 100000 in
theorem pdq64 {b o n sz cap : Nat} {w0 : World} (hn : n ≤ 1000000000) (k : Nat) : ∀ (a c lim : Nat) (d : Array Int) (w : World), c - a = k → a ≤ c → c ≤ n → lim ≤ 64 → SR .u64 22 sz b o n w0 w d → Sort.Below Sort.ltInt a c d →
    Calls Try.prog 100 #[.slice (some ⟨b, o, none⟩) n cap, .int .i64 a, .int .i64 c, .int .i64 lim] w (PdqPost64 sz b o n w0 a c d) := by
  induction k using Nat.strongRecOn with
  | _ k ih =>
  intro a c lim d w hk hac hc hlim h hB
  have IH := Hidden.mk ih
  clear ih
  go_enter Try.func100, Try.ntmps100
  go_wp2_with fail
  go_loopw [1, 2, 3, 8, 9] (fun va vc vl vb vp wr => ∃ (x y l : Nat) (wb wp : Bool) (dk : Array Int), va = .int .i64 x ∧ vc = .int .i64 y ∧ vl = .int .i64 l ∧ vb = .bool wb ∧ vp = .bool wp ∧ a ≤ x ∧ x ≤ y ∧ y ≤ c ∧ l ≤ 64 ∧
      SR .u64 22 sz b o n w0 wr dk ∧ Sort.Below Sort.ltInt x y dk ∧ (∀ R, Sort.PermIn x y dk R → Sort.SortedIn Sort.ltInt x y R → Sort.PermIn a c d R ∧ Sort.SortedIn Sort.ltInt a c R)) (fun va vc _ _ _ _ => (intOf vc - intOf va).toNat)
  case atStart => exact ⟨a, c, lim, true, true, d, rfl, rfl, rfl, rfl, rfl, Nat.le_refl _, hac, Nat.le_refl _, hlim, h, hB, fun R h1 h2 => ⟨h1, h2⟩⟩
  case round =>
    obtain ⟨x, y, l, wb, wp, dk, rfl, rfl, rfl, rfl, rfl, hx, hxy, hy, hl, hS, hBk, hCL⟩ := hrel
    have HS := Hidden.mk hS
    have HB := Hidden.mk hBk
    have HCL := Hidden.mk hCL
    have hsz : Hidden (dk.size = n) := ⟨hS.size⟩
    clear hS hBk hCL h hB
    by_cases h12 : y - x ≤ 12
    · have h12z : (y : Int) - (x : Int) ≤ 12 := by omega
      go_wp2_with fail
      refine (ins64 x y HS.out hxy (by omega) hn).mono ?_
      rintro e w1 ⟨rfl, hS1⟩
      have HS1 := Hidden.mk hS1
      clear hS1
      go_wp2_with fail
      (try simp only [Exit.inBlock, Exit.then])
      refine bodyPost_ret (results_none rfl _ _ _) rfl ?_
      obtain ⟨q1, q2⟩ := Sort.insertionSort_holds (lt := Sort.ltInt) Sort.swo_ltInt dk x y hxy (by rw [hsz.out]; omega)
      obtain ⟨r1, r2⟩ := HCL.out _ q1 q2
      exact ⟨rfl, _, r1, r2, HS1.out⟩
    · have h12z : ¬ (y : Int) - (x : Int) ≤ 12 := by omega
      by_cases hl0 : l = 0
      · have hlz : ((l : Int) == 0) = true := by simp [hl0]
        go_wp2_with fail
        refine (heap64 x y HS.out hxy (by omega) hn).mono ?_
        rintro e w1 ⟨rfl, hS1⟩
        have HS1 := Hidden.mk hS1
        clear hS1
        go_wp2_with fail
        (try simp only [Exit.inBlock, Exit.then])
        refine bodyPost_ret (results_none rfl _ _ _) rfl ?_
        obtain ⟨q1, q2⟩ := Sort.heapSort_holds (lt := Sort.ltInt) Sort.swo_ltInt dk x y hxy (by rw [hsz.out]; omega)
        obtain ⟨r1, r2⟩ := HCL.out _ q1 q2
        exact ⟨rfl, _, r1, r2, HS1.out⟩
      · have hlz : ((l : Int) == 0) = false := by simp; omega
        go_upto_if 35 with fail
        go_cut [3] from 36 to 41 (fun vl wx => ∃ (l' : Nat) (d1 : Array Int), vl = .int .i64 l' ∧ l' ≤ 64 ∧ Sort.PermIn x y dk d1 ∧ SR .u64 22 sz b o n w0 wx d1)
        case first =>
          cases wb
          · go_wp2_with fail
            refine (brk64 x y HS.out (by omega) (by omega) hn).mono ?_
            rintro e w1 ⟨rfl, d1, hp1, hS1⟩
            have HS1 := Hidden.mk hS1
            have HP1 := Hidden.mk hp1
            clear hS1 hp1
            go_wp2_with fail
            go_meet
            exact ⟨l - 1, d1, by congr 1; omega, by omega, HP1.out, HS1.out⟩
          · go_wp2_with fail
            go_meet
            exact ⟨l, dk, rfl, hl, Sort.permIn_refl _ _ _, HS.out⟩
        case rest =>
          obtain ⟨l2, d1, rfl, hl2, hp1, hS1⟩ := hcut
          have HS1 := Hidden.mk hS1
          have HP1 := Hidden.mk hp1
          clear hS1 hp1
          go_wp2_with fail
          refine (piv64 x y HS1.out (by omega) (by omega) hn).mono ?_
          rintro e w2 ⟨p, t, rfl, hp1, hp2, hS2⟩
          have HS2 := Hidden.mk hS2
          clear hS2
          go_upto_if 50 with fail
          go_cut [11, 12] from 42 to 60 (fun vp vt wx => ∃ (p' : Nat) (t' : Int) (d2 : Array Int), vp = .int .i64 p' ∧ vt = .int .i64 t' ∧ x ≤ p' ∧ p' < y ∧ Sort.PermIn x y dk d2 ∧ SR .u64 22 sz b o n w0 wx d2)
          case first =>
            by_cases ht : t = 2
            · have htz : (t == 2) = true := by simp [ht]
              go_wp2_with fail
              refine (rev64 x y HS2.out (by omega) (by omega) hn).mono ?_
              rintro e w3 ⟨rfl, hS3⟩
              have HS3 := Hidden.mk hS3
              clear hS3
              go_wp2_with fail
              go_meet
              exact ⟨(y - 1) - (p - x), 1, _, by congr 1; omega, rfl, by omega, by omega, Sort.permIn_trans _ _ _ _ _ HP1.out (Sort.reverseRange_holds _ _ _ hxy (by rw [HS2.out.size]; omega)), HS3.out⟩
            · have htz : (t == 2) = false := by simp [ht]
              go_wp2_with fail
              go_meet
              exact ⟨p, t, d1, rfl, rfl, hp1, hp2, HP1.out, HS2.out⟩
          case rest =>
            obtain ⟨q, u, d2, rfl, rfl, hq1, hq2, hp2', hS3⟩ := hcut
            have HS3 := Hidden.mk hS3
            have HP2 := Hidden.mk hp2'
            clear hS3 hp2'
            go_upto_region 15 with fail
            go_cut [68] from 61 to 67 (fun v wx => (∃ g : Bool, v = .bool g) ∧ SR .u64 22 sz b o n w0 wx d2)
            case first =>
              cases wb <;> cases wp
              all_goals
                go_wp2_with fail
                go_meet
                exact ⟨⟨_, rfl⟩, HS3.out⟩
            case rest =>
            obtain ⟨⟨g, rfl⟩, hS3⟩ := hcut
            have HS3 := Hidden.mk hS3
            clear hS3
            go_upto_if 68 with fail
            go_cut [] from 69 to 72 (fun wx => ∃ d3 : Array Int, Sort.PermIn x y dk d3 ∧ SR .u64 22 sz b o n w0 wx d3)
            case first =>
              cases g
              · go_wp2_with fail
                go_meet
                exact ⟨d2, HP2.out, HS3.out⟩
              · have hB2 := HB.out.perm (by rw [hsz.out]; omega) HP2.out
                have hpi := Sort.partialInsertionSort_holds (lt := Sort.ltInt) Sort.swo_ltInt d2 x y (by omega) (by rw [HS3.out.size]; omega) hB2
                have HPI := Hidden.mk hpi
                clear hpi hB2
                go_wp2_with fail
                refine (pins64 x y HS3.out (by omega) (by omega) hn).mono ?_
                rintro e w4 ⟨rfl, hS4⟩
                have HS4 := Hidden.mk hS4
                clear hS4
                cases hdone : (Sort.partialInsertionSort Sort.ltInt d2 x y).2 with
                | false =>
                  clear hdone
                  go_wp2_with fail
                  go_meet
                  exact ⟨_, Sort.permIn_trans _ _ _ _ _ HP2.out HPI.out.1, HS4.out⟩
                | true =>
                  have HDN := Hidden.mk hdone
                  clear hdone
                  go_wp2_with fail
                  (try simp only [Exit.inBlock, Exit.then])
                  refine bodyPost_ret (results_none rfl _ _ _) rfl ?_
                  obtain ⟨r1, r2⟩ := HCL.out _ (Sort.permIn_trans _ _ _ _ _ HP2.out HPI.out.1) (HPI.out.2 HDN.out)
                  exact ⟨rfl, _, r1, r2, HS4.out⟩
            case rest =>
              obtain ⟨d3, hp3, hS4⟩ := hcut
              have hB3 := HB.out.perm (by rw [hsz.out]; omega) hp3
              have hz3 : d3.size = n := hS4.size
              obtain ⟨G, hG, hcw, hfw⟩ := hS4.fam
              have HG := Hidden.mk hG
              have HS4 := Hidden.mk hS4
              have HB3 := Hidden.mk hB3
              have HP3 := Hidden.mk hp3
              have HZ3 := Hidden.mk hz3
              clear hG hS4 hB3 hp3 hz3 HS HS1 HS2 HS3 HP1 HP2
              have PART : Hidden (∀ (W : World), SR .u64 22 sz b o n w0 W d3 → Calls Try.prog 135 #[.slice (some ⟨b, o, none⟩) n cap, .int .i64 x, .int .i64 y, .int .i64 q] W fun e w' => ∃ (mid : Nat) (ap : Bool) (d4 : Array Int),
                  e = .returned (.tuple #[.int .i64 mid, .bool ap]) ∧ SR .u64 22 sz b o n w0 w' d4 ∧ x ≤ mid ∧ mid < y ∧ Sort.Below Sort.ltInt x mid d4 ∧ Sort.Below Sort.ltInt (mid + 1) y d4 ∧
                  (∀ L, Sort.PermIn x mid d4 L → Sort.SortedIn Sort.ltInt x mid L → Sort.Below Sort.ltInt (mid + 1) y L ∧ ∀ R, Sort.PermIn (mid + 1) y L R → Sort.SortedIn Sort.ltInt (mid + 1) y R → Sort.PermIn a c d R ∧ Sort.SortedIn Sort.ltInt a c R) ∧
                  (∀ L, Sort.PermIn (mid + 1) y d4 L → Sort.SortedIn Sort.ltInt (mid + 1) y L → Sort.Below Sort.ltInt x mid L ∧ ∀ R, Sort.PermIn x mid L R → Sort.SortedIn Sort.ltInt x mid R → Sort.PermIn a c d R ∧ Sort.SortedIn Sort.ltInt a c R)) := ⟨fun W hW => by
                refine (part64 x y q hW hq1 hq2 (by omega) hn).mono ?_
                rintro e w' ⟨rfl, hS⟩
                obtain ⟨g1, g2, g3, g4, g5, g6, g7⟩ := Sort.round_part (lt := Sort.ltInt) (mid := (Sort.partition Sort.ltInt d3 x y q).1) (ap := (Sort.partition Sort.ltInt d3 x y q).2.1) (d4 := (Sort.partition Sort.ltInt d3 x y q).2.2) Sort.swo_ltInt (Sort.partition_holds _) hq1 hq2 (by rw [HZ3.out]; omega) HB3.out rfl
                refine ⟨_, _, _, rfl, hS, g1, g2, g4, g5, fun L h1 h2 => ?_, fun L h1 h2 => ?_⟩
                · exact ⟨(g6 L h1 h2).1, fun R h3 h4 => HCL.out R (Sort.permIn_trans _ _ _ _ _ HP3.out ((g6 L h1 h2).2 R h3 h4).1) ((g6 L h1 h2).2 R h3 h4).2⟩
                · exact ⟨(g7 L h1 h2).1, fun R h3 h4 => HCL.out R (Sort.permIn_trans _ _ _ _ _ HP3.out ((g7 L h1 h2).2 R h3 h4).1) ((g7 L h1 h2).2 R h3 h4).2⟩⟩
              have PEQ : Hidden (∀ (W : World), 0 < x → Sort.ltInt d3[x - 1]! d3[q]! = false → SR .u64 22 sz b o n w0 W d3 → Calls Try.prog 134 #[.slice (some ⟨b, o, none⟩) n cap, .int .i64 x, .int .i64 y, .int .i64 q] W fun e w' => ∃ (mid : Nat) (d4 : Array Int),
                  e = .returned (.int .i64 mid) ∧ SR .u64 22 sz b o n w0 w' d4 ∧ x < mid ∧ mid ≤ y ∧ Sort.Below Sort.ltInt mid y d4 ∧
                  (∀ R, Sort.PermIn mid y d4 R → Sort.SortedIn Sort.ltInt mid y R → Sort.PermIn a c d R ∧ Sort.SortedIn Sort.ltInt a c R)) := ⟨fun W h0 hnl hW => by
                refine (parteq64 x y q hW hq1 hq2 (by omega) hn).mono ?_
                rintro e w' ⟨rfl, hS⟩
                obtain ⟨g1, g2, g3, g4, g5⟩ := Sort.round_eq (lt := Sort.ltInt) (mid := (Sort.partitionEqual Sort.ltInt d3 x y q).1) (d4 := (Sort.partitionEqual Sort.ltInt d3 x y q).2) Sort.swo_ltInt (Sort.partitionEqual_holds _) h0 hq1 hq2 (by rw [HZ3.out]; omega) HB3.out hnl rfl
                exact ⟨_, _, rfl, hS, g1, g2, g4, fun R h1 h2 => HCL.out R (Sort.permIn_trans _ _ _ _ _ HP3.out (g5 R h1 h2).1) (g5 R h1 h2).2⟩⟩
              go_upto_region 17 with fail
              go_cut [87] from 73 to 86 (fun v wx => ∃ g : Bool, v = .bool g ∧ SR .u64 22 sz b o n w0 wx d3 ∧ (g = true → 0 < x ∧ Sort.ltInt d3[x - 1]! d3[q]! = false))
              case first =>
                by_cases hx0 : x = 0
                · have hxz : decide ((0 : Int) < (x : Int)) = false := decide_eq_false (by omega)
                  have hxn : decide (0 < x) = false := decide_eq_false (by omega)
                  go_quiet (first | (go_at_call 133; refine Calls.quiet_of_same (less64 _ _ _)))
                  go_wp2_with fail
                  go_meet
                  exact ⟨false, rfl, HS4.out.drewN _, by simp⟩
                · have hxz : (0 : Int) < (x : Int) := by omega
                  have hxn : 0 < x := by omega
                  have hxd : decide (0 < x) = true := decide_eq_true hxn
                  go_quiet (first | (go_at_call 133; refine Calls.quiet_of_same (less64 _ _ _)))
                  go_wp2_with fail
                  go_meet
                  refine ⟨!Sort.ltInt (G (x - 1)) (G q), rfl, HS4.out.drewN _, fun hh => ⟨by omega, ?_⟩⟩
                  rw [← HG.out _ _ rfl, ← HG.out _ _ rfl]
                  simpa using hh
              case rest =>
                obtain ⟨g, rfl, hS5, hg⟩ := hcut
                have HS5 := Hidden.mk hS5
                clear hS5 hcw hfw
                cases g
                · clear hg PEQ
                  go_wp2_with fail
                  refine (PART.out _ HS5.out).mono ?_
                  rintro e w6 ⟨mid, ap, d4, rfl, hS6, m1, m2, b1, b2, c1, c2⟩
                  have HS6 := Hidden.mk hS6
                  have B1 := Hidden.mk b1
                  have B2 := Hidden.mk b2
                  have C1 := Hidden.mk c1
                  have C2 := Hidden.mk c2
                  clear hS6 b1 b2 c1 c2 PART
                  by_cases hlr : mid - x < y - mid
                  · have hlrz : (mid : Int) - (x : Int) < (y : Int) - (mid : Int) := by omega
                    go_wp2_with fail
                    refine (IH.out (mid - x) (by omega) x mid l2 d4 _ rfl m1 (by omega) hl2 HS6.out B1.out).mono ?_
                    rintro e w7 ⟨rfl, d5, q1, q2, hS7⟩
                    have HS7 := Hidden.mk hS7
                    have Q := Hidden.mk (C1.out d5 q1 q2)
                    clear hS7 q1 q2
                    go_wp2_with fail
                    go_roundw
                    case rel => exact ⟨mid + 1, y, l2, _, ap, d5, by go_num, rfl, rfl, rfl, rfl, by omega, by omega, hy, hl2, HS7.out, Q.out.1, Q.out.2⟩
                    case measure => simp [intOf]; omega
                  · have hlrz : ¬ (mid : Int) - (x : Int) < (y : Int) - (mid : Int) := by omega
                    go_wp2_with fail
                    rw [show ((mid : Int) + 1) = ((mid + 1 : Nat) : Int) by omega]
                    refine (IH.out (y - (mid + 1)) (by omega) (mid + 1) y l2 d4 _ rfl (by omega) (by omega) hl2 HS6.out B2.out).mono ?_
                    rintro e w7 ⟨rfl, d5, q1, q2, hS7⟩
                    have HS7 := Hidden.mk hS7
                    have Q := Hidden.mk (C2.out d5 q1 q2)
                    clear hS7 q1 q2
                    go_wp2_with fail
                    go_roundw
                    case rel => exact ⟨x, mid, l2, _, ap, d5, rfl, rfl, rfl, rfl, rfl, hx, m1, by omega, hl2, HS7.out, Q.out.1, Q.out.2⟩
                    case measure => simp [intOf]; omega
                · obtain ⟨hx0, hnl⟩ := hg rfl
                  have HNL := Hidden.mk hnl
                  clear hnl hg PART
                  go_wp2_with fail
                  refine (PEQ.out _ hx0 HNL.out HS5.out).mono ?_
                  rintro e w6 ⟨mid, d4, rfl, hS6, m1, m2, b1, c1⟩
                  have HS6 := Hidden.mk hS6
                  have B1 := Hidden.mk b1
                  have C1 := Hidden.mk c1
                  clear hS6 b1 c1 PEQ
                  go_wp2_with fail
                  go_roundw
                  case rel => exact ⟨mid, y, l2, wb, wp, d4, rfl, rfl, rfl, rfl, rfl, by omega, m2, hy, hl2, HS6.out, B1.out, C1.out⟩
                  case measure => simp [intOf]; omega
end Go.Proofs.Ytfioekkegihkoaa

/- slices.Sort at uint64: the row, sorted. -/
namespace Go.Proofs.Ytfioekkegihkoaa
open Go.RowKit
set_option linter.unusedVariables false
set_option linter.unusedSimpArgs false

theorem ins064 (a : Option Addr) (cap : Nat) (w : World) :
    Calls Try.prog 127 #[.slice a 0 cap, .int .i64 0, .int .i64 0] w fun e w' => e = .returned (.tuple #[]) ∧ w' = w := by
  go_enter Try.func127, Try.ntmps127
  go_wp2
  go_loopw [6] (fun vi wr => vi = .int .i64 1 ∧ wr = w) (fun vi _ => 1)
  case atStart => exact ⟨rfl, rfl⟩
  case round =>
    obtain ⟨rfl, rfl⟩ := hrel
    go_wp2_with fail
    go_end0
    exact ⟨rfl, rfl⟩
set_option maxHeartbeats 400000 in
theorem pdq064 (a : Option Addr) (cap lim : Nat) (w : World) :
    Calls Try.prog 100 #[.slice a 0 cap, .int .i64 0, .int .i64 0, .int .i64 lim] w fun e w' => e = .returned (.tuple #[]) ∧ w' = w := by
  go_enter Try.func100, Try.ntmps100
  go_wp2_with fail
  go_loopw [1, 2] (fun va vc wr => va = .int .i64 0 ∧ vc = .int .i64 0 ∧ wr = w) (fun va _ _ => 1)
  case atStart => exact ⟨rfl, rfl, rfl⟩
  case round =>
    obtain ⟨rfl, rfl, rfl⟩ := hrel
    go_wp2_with fail
    refine (ins064 _ _ _).mono ?_
    rintro e w1 ⟨rfl, rfl⟩
    go_wp2_with fail
    (try simp only [Exit.inBlock, Exit.then])
    refine bodyPost_ret (results_none rfl _ _ _) rfl ?_
    exact ⟨rfl, rfl⟩
set_option maxHeartbeats 1000000 in
/-- The row of l, sorted in place. -/
theorem sort64 {w : World} {v : Value} {l : List Int} (h : Row w 22 1 v l.length (icells .u64 l)) (hl : l.length ≤ 1000000000) :
    Calls Try.prog 63 #[v] w fun e w' => e = .returned (.tuple #[]) ∧ Row w' 22 1 v l.length (icells .u64 (srt l)) ∧ Mod (rb v) w w' := by
  rcases Nat.eq_zero_or_pos l.length with h0 | hpos
  · have hnil : l = [] := List.eq_nil_of_length_eq_zero h0
    subst hnil
    obtain ⟨a, cap, rfl, _⟩ := h.slice_
    have H := Hidden.mk h
    clear h
    have hlen := fun w => bits_Len 0 w (by omega) (by omega)
    go_enter Try.func63, Try.ntmps63
    go_wp2_with fail
    refine (hlen _).mono ?_
    rintro e w1 ⟨rfl, rfl⟩
    go_wp2_with fail
    refine (pdq064 _ _ _ _).mono ?_
    rintro e w1 ⟨rfl, rfl⟩
    go_wp2_with fail
    go_end0
    exact ⟨rfl, by simpa [srt] using H.out, Mod.refl _ _⟩
  · obtain ⟨g, cap, rfl, hrb, hS, _⟩ := SR.of_row h hpos
    have H := Hidden.mk (And.intro h hrb)
    have HS := Hidden.mk hS
    clear h hS hrb
    obtain ⟨hb1, hb2⟩ := len_bound hpos hl
    have hlen := fun w => bits_Len (l.length : Int) w (by omega) (by omega)
    simp only [Int.toNat_natCast] at hlen
    generalize Lib.bitLen l.length = k at hlen hb2
    clear hb1
    have HL := Hidden.mk hlen
    clear hlen
    go_enter Try.func63, Try.ntmps63
    go_wp2_with fail
    refine (HL.out _).mono ?_
    rintro e w1 ⟨rfl, rfl⟩
    go_wp2_with fail
    refine (pdq64 (o := 0) hl l.length 0 l.length k l.toArray _ rfl (Nat.zero_le _) (Nat.le_refl _) (by omega) HS.out (Or.inl rfl)).mono ?_
    rintro e w2 ⟨rfl, d', q1, q2, hS2⟩
    have HS2 := Hidden.mk hS2
    have Q := Hidden.mk (And.intro q1 q2)
    clear hS2 q1 q2
    go_wp2_with fail
    go_end0
    obtain ⟨q1, q2⟩ := Q.out
    refine ⟨rfl, ?_, by rw [H.out.2]; exact HS2.out.mod⟩
    have e : d'.toList = srt l := srt_of q1 q2
    rw [← e]
    exact SR.to_row HS2.out H.out.1
end Go.Proofs.Ytfioekkegihkoaa
