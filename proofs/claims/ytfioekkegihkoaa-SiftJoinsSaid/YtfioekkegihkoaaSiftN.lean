/- sift.Or, And, Less, Xor, Within: the calls. -/
import Derived.Test.YtfioekkegihkoaaSiftM
namespace Go.Proofs.Ytfioekkegihkoaa
open Go.RowKit Go.Shelf
set_option linter.unusedVariables false
set_option linter.unusedSimpArgs false
/-- A new sequence that tells L; what it reads is of R, or new. -/
def NewSeq (w : World) (L : List Int) (R : List Nat) (e : Ending) (w' : World) : Prop :=
  ∃ g lb R', e = .returned (.func (.func g) #[] lb) ∧ SeqL w' (.func (.func g) #[] lb) L R' ∧ Mod [] w w' ∧ ∀ q ∈ R', (q ∈ R ∨ w.heap.size ≤ q) ∧ q < w'.heap.size
theorem asc_nil : asc [] = [] := rise_ext (asc_rises _) List.Pairwise.nil (fun z => asc_mem)
theorem LSeq.nil_ (w : World) (R : List Nat) : LSeq w (.slice none 0 0) [] R := ⟨none, 0, rfl, Nat.le_refl _, by omega, fun _ => rfl, .inl rfl⟩
theorem SeqL.nil_ (w : World) : SeqL w .nilFunc [] [] := .inl ⟨rfl, rfl⟩
theorem SeqL.weak {w : World} {sv : Value} {l : List Int} {R : List Nat} (h : SeqL w sv l R) : (∀ q ∈ R, q < w.heap.size) ∨ sv = .nilFunc := by
  rcases h with ⟨h1, h2⟩ | ⟨g, lb, rfl, h1, h2, h3⟩
  · exact .inr h1
  · exact .inl h3
/-- Two sequences in a row of their own. -/
theorem LSeq.two {w : World} {b : Nat} {t : Nat} {sa sb : Value} {la lb : List Int} {Ra Rb : List Nat} (hb : Blk w b t #[sa, sb]) (ha : SeqL w sa la Ra) (hb2 : SeqL w sb lb Rb) : LSeq w (.slice (some ⟨b, 0, none⟩) 2 2) [la, lb] (b :: (Ra ++ Rb)) := by
  refine ⟨some ⟨b, 0, none⟩, 2, rfl, by simp, by omega, (fun h => nomatch h), Or.inr ⟨b, 0, rfl, hb.lt, by simp, ?_⟩⟩
  intro i l hl
  rcases i with _ | _ | i
  · obtain rfl : la = l := by simpa using hl
    exact ⟨sa, Ra, hb.cell 0, ha, fun q hq => by simp [hq]⟩
  · obtain rfl : lb = l := by simpa using hl
    exact ⟨sb, Rb, hb.cell 1, hb2, fun q hq => by simp [hq]⟩
  · simp at hl
theorem LSeq.three {w : World} {b : Nat} {t : Nat} {sa sb sc : Value} {la lb lc : List Int} {Ra Rb Rc : List Nat} (hb : Blk w b t #[sa, sb, sc]) (ha : SeqL w sa la Ra) (hb2 : SeqL w sb lb Rb) (hc : SeqL w sc lc Rc) : LSeq w (.slice (some ⟨b, 0, none⟩) 3 3) [la, lb, lc] (b :: (Ra ++ Rb ++ Rc)) := by
  refine ⟨some ⟨b, 0, none⟩, 3, rfl, by simp, by omega, (fun h => nomatch h), Or.inr ⟨b, 0, rfl, hb.lt, by simp, ?_⟩⟩
  intro i l hl
  rcases i with _ | _ | _ | i
  · obtain rfl : la = l := by simpa using hl
    exact ⟨sa, Ra, hb.cell 0, ha, fun q hq => by simp [hq]⟩
  · obtain rfl : lb = l := by simpa using hl
    exact ⟨sb, Rb, hb.cell 1, hb2, fun q hq => by simp [hq]⟩
  · obtain rfl : lc = l := by simpa using hl
    exact ⟨sc, Rc, hb.cell 2, hc, fun q hq => by simp [hq]⟩
  · simp at hl
set_option maxRecDepth 100000 in
set_option maxHeartbeats 1000000 in
theorem or_call {w : World} {v : Value} {ls : List (List Int)} {R : List Nat} (h : LSeq w v ls R) (hR : ∀ q ∈ R, q < w.heap.size) (hm : ∀ l ∈ ls, l.length ≤ 300) (hn : ls.length ≤ 1000) :
    Calls Try.prog 25 #[v] w (NewSeq w (orF ls) R) := by
  obtain ⟨w1, hw1⟩ : ∃ w1, w.alloc (.cells #[v] 41) = w1 := ⟨_, rfl⟩
  have hm1 : Mod [] w w1 := by rw [← hw1]; exact (Mod.refl [] w).alloc _
  have hb : Blk w1 w.heap.size 41 #[v] := by rw [← hw1]; exact Blk.new _ _ _
  have H := Hidden.mk (And.intro (or_it (h.news hm1) (hb.cell 0) hm hn) (And.intro hm1 (And.intro hb.lt hR)))
  obtain ⟨a, cap, rfl, -⟩ := h
  clear hb hm1 hm hn hR
  go_enter Try.func25, Try.ntmps25
  go_wp2_with fail
  go_ret
  suffices hlt : ∀ q ∈ w.heap.size :: R, q < w1.heap.size from ⟨_, _, _, rfl, .inr ⟨_, _, rfl, enters_of Try.func66 (by kernel_rfl) rfl, H.out.1, hlt⟩, H.out.2.1, fun q hq => ⟨by
    rcases List.mem_cons.1 hq with rfl | hq
    · exact .inr (Nat.le_refl _)
    · exact .inl hq, hlt q hq⟩⟩
  intro q hq
  rcases List.mem_cons.1 hq with rfl | hq
  · exact H.out.2.2.1
  · exact Nat.lt_of_lt_of_le (H.out.2.2.2 q hq) H.out.2.1.size
set_option maxRecDepth 100000 in
set_option maxHeartbeats 1000000 in
theorem and_call {w : World} {v : Value} {l0 : List Int} {ls : List (List Int)} {R : List Nat} (h : LSeq w v (l0 :: ls) R) (hR : ∀ q ∈ R, q < w.heap.size) (hm : ∀ l ∈ l0 :: ls, l.length ≤ 1000000) (hr : ∀ l ∈ l0 :: ls, l.Pairwise (· < ·)) (hn : ls.length ≤ 999) :
    Calls Try.prog 27 #[v] w (NewSeq w (andF l0 ls) R) := by
  obtain ⟨w1, hw1⟩ : ∃ w1, w.alloc (.cells #[v] 41) = w1 := ⟨_, rfl⟩
  have hm1 : Mod [] w w1 := by rw [← hw1]; exact (Mod.refl [] w).alloc _
  have hb : Blk w1 w.heap.size 41 #[v] := by rw [← hw1]; exact Blk.new _ _ _
  have H := Hidden.mk (And.intro (and_it (h.news hm1) (hb.cell 0) hm hr hn) (And.intro hm1 (And.intro hb.lt hR)))
  obtain ⟨a, cap, rfl, -⟩ := h
  have cb := hb.cell 0
  simp only [List.length_cons] at cb hw1 H ⊢
  have he : (((ls.length + 1 : Nat) : Int) == 0) = false := by simp; omega
  have he2 : ((ls.length : Int) + 1 == 0) = false := by simp; omega
  clear hb hm1 hm hn hR hr
  go_enter Try.func27, Try.ntmps27
  go_wp2_with fail
  go_ret
  suffices hlt : ∀ q ∈ w.heap.size :: R, q < w1.heap.size from ⟨_, _, _, rfl, .inr ⟨_, _, rfl, enters_of Try.func69 (by kernel_rfl) rfl, H.out.1, hlt⟩, H.out.2.1, fun q hq => ⟨by
    rcases List.mem_cons.1 hq with rfl | hq
    · exact .inr (Nat.le_refl _)
    · exact .inl hq, hlt q hq⟩⟩
  intro q hq
  rcases List.mem_cons.1 hq with rfl | hq
  · exact H.out.2.2.1
  · exact Nat.lt_of_lt_of_le (H.out.2.2.2 q hq) H.out.2.1.size
set_option maxRecDepth 100000 in
set_option maxHeartbeats 1000000 in
theorem and_call0 {w : World} {v : Value} {R : List Nat} (h : LSeq w v [] R) : Calls Try.prog 27 #[v] w (NewSeq w [] R) := by
  obtain ⟨w1, hw1⟩ : ∃ w1, w.alloc (.cells #[v] 41) = w1 := ⟨_, rfl⟩
  have hm1 : Mod [] w w1 := by rw [← hw1]; exact (Mod.refl [] w).alloc _
  have hb : Blk w1 w.heap.size 41 #[v] := by rw [← hw1]; exact Blk.new _ _ _
  have H := Hidden.mk hm1
  obtain ⟨a, cap, rfl, -⟩ := h
  have cb := hb.cell 0
  simp only [List.length_nil] at hw1 cb ⊢
  clear hb hm1
  go_enter Try.func27, Try.ntmps27
  go_wp2_with fail
  refine (sift_of (ISl.nil_ .u64 _) (by simp)).mono ?_
  rintro e w2 ⟨g, lb, R2, rfl, hs, hm2, hR2⟩
  have H2 := Hidden.mk (And.intro hs (And.intro hm2 hR2))
  clear hs hm2 hR2
  go_wp2_with fail
  go_ret
  exact ⟨g, lb, R2, rfl, by have h9 := H2.out.1; rw [asc_nil] at h9; exact h9, H.out.trans H2.out.2.1 (by simp), fun q hq => ⟨.inr (Nat.le_trans H.out.size (H2.out.2.2 q hq).1), (H2.out.2.2 q hq).2⟩⟩
theorem less_call {w : World} {sa sb : Value} {a b : List Int} {Ra Rb : List Nat} (ha : SeqL w sa a Ra) (hb : SeqL w sb b Rb) (hRa : ∀ q ∈ Ra, q < w.heap.size) (hRb : ∀ q ∈ Rb, q < w.heap.size)
    (hla : a.length ≤ 1000000) (hlb : b.length ≤ 1000000) (sa' : a.Pairwise (· < ·)) (sb' : b.Pairwise (· < ·)) :
    Calls Try.prog 28 #[sa, sb] w (NewSeq w (lessL a b) (Ra ++ Rb)) := by
  refine (less_make ha.val hb.val).mono ?_
  rintro e w' ⟨rfl, hw'⟩
  have hm : Mod [] w w' := by rw [← hw']; exact ((Mod.refl [] w).alloc _).alloc _
  have hs : w'.heap.size = w.heap.size + 2 := by rw [← hw']; simp
  have c1 : w'.cell? ⟨w.heap.size, 0, none⟩ = some sa := by rw [← hw']; exact ((Blk.new w 43 #[sa]).alloc _).cell 0
  have c2 : w'.cell? ⟨w.heap.size + 1, 0, none⟩ = some sb := by rw [← hw']; exact (Blk.new' (w := w.alloc (.cells #[sa] 43)) (by simp) 43 #[sb]).cell 0
  suffices hlt : ∀ q ∈ (w.heap.size + 1) :: w.heap.size :: (Ra ++ Rb), q < w'.heap.size from ⟨_, _, _, rfl, .inr ⟨_, _, rfl, enters_of Try.func73 (by kernel_rfl) rfl, less_it (ha.news hm) (hb.news hm) c1 c2 hla hlb sa' sb', hlt⟩, hm, fun q hq => ⟨by
    simp only [List.mem_cons, List.mem_append] at hq ⊢
    rcases hq with rfl | rfl | hq | hq
    · right; omega
    · right; omega
    · exact .inl (.inl hq)
    · exact .inl (.inr hq), hlt q hq⟩⟩
  intro q hq
  simp only [List.mem_cons, List.mem_append] at hq
  rcases hq with rfl | rfl | hq | hq
  · omega
  · omega
  · have := hRa q hq; omega
  · have := hRb q hq; omega
theorem orF_two (a b : List Int) : orF [a, b] = twoL a b := by simp [orF, twoL]
theorem orF_three (a b c : List Int) : orF [a, b, c] = twoL (twoL a b) c := by simp [orF, twoL]
theorem lessL_le (a b : List Int) : (lessL a b).length ≤ a.length := List.length_filter_le _ _
theorem lessL_rises {a b : List Int} (h : a.Pairwise (· < ·)) : (lessL a b).Pairwise (· < ·) := h.sublist List.filter_sublist
theorem andF_le (l0 : List Int) (ls : List (List Int)) : (andF l0 ls).length ≤ l0.length := List.length_filter_le _ _
theorem andF_rises {l0 : List Int} {ls : List (List Int)} (h : l0.Pairwise (· < ·)) : (andF l0 ls).Pairwise (· < ·) := h.sublist List.filter_sublist
theorem SeqL.fits {w w' : World} {sv : Value} {l : List Int} {R : List Nat} (h : SeqL w sv l R) (hR : ∀ q ∈ R, q < w.heap.size) (hm : Mod [] w w') : SeqL w' sv l R ∧ ∀ q ∈ R, q < w'.heap.size :=
  ⟨h.news hm, fun q hq => Nat.lt_of_lt_of_le (hR q hq) hm.size⟩
set_option maxRecDepth 100000 in
set_option maxHeartbeats 1000000 in
theorem xor_call {w : World} {sa sb : Value} {a b : List Int} {Ra Rb : List Nat} (ha : SeqL w sa a Ra) (hb : SeqL w sb b Rb) (hRa : ∀ q ∈ Ra, q < w.heap.size) (hRb : ∀ q ∈ Rb, q < w.heap.size)
    (hla : a.length ≤ 300) (hlb : b.length ≤ 300) (sa' : a.Pairwise (· < ·)) (sb' : b.Pairwise (· < ·)) :
    Calls Try.prog 29 #[sa, sb] w (NewSeq w (twoL (lessL a b) (lessL b a)) (Ra ++ Rb)) := by
  have H0 := Hidden.mk (And.intro ha (And.intro hb (And.intro hRa (And.intro hRb (And.intro hla (And.intro hlb (And.intro sa' sb')))))))
  clear ha hb hRa hRb hla hlb sa' sb'
  go_enter Try.func29, Try.ntmps29
  go_wp2_with fail
  refine (less_call H0.out.1 H0.out.2.1 H0.out.2.2.1 H0.out.2.2.2.1 (by have := H0.out.2.2.2.2.1; omega) (by have := H0.out.2.2.2.2.2.1; omega) H0.out.2.2.2.2.2.2.1 H0.out.2.2.2.2.2.2.2).mono ?_
  rintro e w1 ⟨g1, b1, R1, rfl, h1, hm1, hr1⟩
  have H1 := Hidden.mk (And.intro h1 (And.intro hm1 hr1))
  clear h1 hm1 hr1
  go_wp2_with fail
  have a1 := H0.out.1.fits H0.out.2.2.1 H1.out.2.1
  have c1 := H0.out.2.1.fits H0.out.2.2.2.1 H1.out.2.1
  refine (less_call c1.1 a1.1 c1.2 a1.2 (by have := H0.out.2.2.2.2.2.1; omega) (by have := H0.out.2.2.2.2.1; omega) H0.out.2.2.2.2.2.2.2 H0.out.2.2.2.2.2.2.1).mono ?_
  rintro e w2 ⟨g2, b2, R2, rfl, h2, hm2, hr2⟩
  have hm3 : Mod [] w2 (w2.alloc (.cells #[.func (.func g1) #[] b1, .func (.func g2) #[] b2] 43)) := (Mod.refl [] w2).alloc _
  have hR : ∀ q ∈ w2.heap.size :: (R1 ++ R2), q < (w2.alloc (.cells #[.func (.func g1) #[] b1, .func (.func g2) #[] b2] 43)).heap.size := fun q hq => by
    simp only [List.mem_cons, List.mem_append] at hq
    have e1 : (w2.alloc (.cells #[.func (.func g1) #[] b1, .func (.func g2) #[] b2] 43)).heap.size = w2.heap.size + 1 := by simp
    rw [e1]
    rcases hq with rfl | hq | hq
    · omega
    · have := (H1.out.2.2 q hq).2; have := hm2.size; omega
    · have := (hr2 q hq).2; omega
  have H2 := Hidden.mk (And.intro (LSeq.two (Blk.new w2 43 #[.func (.func g1) #[] b1, .func (.func g2) #[] b2]) ((H1.out.1.news hm2).news hm3) (h2.news hm3)) (And.intro hR (And.intro (hm2.trans hm3 (by simp)) (And.intro hr2 hm2.size))))
  clear h2 hm2 hr2 a1 c1 hm3 hR
  go_wp2_with fail
  refine (or_call H2.out.1 H2.out.2.1 ?_ (by simp)).mono ?_
  · intro l hl
    simp only [List.mem_cons, List.not_mem_nil, or_false] at hl
    have z1 := lessL_le a b
    have z2 := lessL_le b a
    have := H0.out.2.2.2.2.1
    have := H0.out.2.2.2.2.2.1
    rcases hl with rfl | rfl <;> omega
  rintro e w3 ⟨g3, b3, R3, rfl, h3, hm3, hr3⟩
  have H3 := Hidden.mk (And.intro h3 (And.intro hm3 hr3))
  clear h3 hm3 hr3
  go_wp2_with fail
  go_ret
  have hs1 := H1.out.2.1.size
  have hs2 := H2.out.2.2.1.size
  refine ⟨g3, b3, R3, rfl, by rw [← orF_two]; exact H3.out.1, (H1.out.2.1.trans H2.out.2.2.1 (by simp)).trans H3.out.2.1 (by simp), fun q hq => ⟨?_, (H3.out.2.2 q hq).2⟩⟩
  rcases (H3.out.2.2 q hq).1 with h | h
  · simp only [List.mem_cons, List.mem_append] at h ⊢
    rcases h with rfl | h | h
    · right; have := H2.out.2.2.2.2; omega
    · rcases (H1.out.2.2 q h).1 with h5 | h5
      · exact .inl (by simpa using h5)
      · right; exact h5
    · rcases (H2.out.2.2.2.1 q h).1 with h5 | h5
      · exact .inl (by simp at h5; exact h5.symm)
      · right; omega
  · right; omega
end Go.Proofs.Ytfioekkegihkoaa
