/- sift: the calls, as a law sees them; what the lists are to each other. -/
import Derived.Test.YtfioekkegihkoaaSiftP
namespace Go.Proofs.Ytfioekkegihkoaa
open Go.RowKit Go.Shelf
set_option linter.unusedVariables false
set_option linter.unusedSimpArgs false
/-- A sequence that is not nil. -/
structure Sq (w : World) (g : Nat) (b : Array Value) (L : List Int) (R : List Nat) : Prop where
  s : SeqL w (.func (.func g) #[] b) L R
  lt : ∀ q ∈ R, q < w.heap.size
theorem Sq.news {w w' : World} {g : Nat} {b : Array Value} {L : List Int} {R : List Nat} (h : Sq w g b L R) (hm : Mod [] w w') : Sq w' g b L R := ⟨h.s.news hm, fun q hq => Nat.lt_of_lt_of_le (h.lt q hq) hm.size⟩
def NewS (w : World) (L : List Int) (e : Ending) (w' : World) : Prop := ∃ g b R, e = .returned (.func (.func g) #[] b) ∧ Sq w' g b L R ∧ Mod [] w w'
theorem NewSeq.new {w w0 w' : World} {L : List Int} {R : List Nat} {e : Ending} (h : NewSeq w L R e w') (hm : Mod [] w0 w) : NewS w0 L e w' := by
  obtain ⟨g, b, R', rfl, h1, h2, h3⟩ := h
  exact ⟨g, b, R', rfl, ⟨h1, fun q hq => (h3 q hq).2⟩, hm.trans h2 (by simp)⟩
theorem of_new {w : World} {v : Value} {l : List Int} (h : ISl .u64 w v l) (hl : l.length ≤ 1000000) : Calls Try.prog 22 #[v] w (NewS w (asc l)) :=
  (sift_of h hl).mono fun e w' ⟨g, b, R, he, h1, h2, h3⟩ => ⟨g, b, R, he, ⟨h1, fun q hq => (h3 q hq).2⟩, h2⟩
section
variable {w : World} {g1 g2 g3 : Nat} {b1 b2 b3 : Array Value} {A B C : List Int} {R1 R2 R3 : List Nat}
theorem row2 (h1 : Sq w g1 b1 A R1) (h2 : Sq w g2 b2 B R2) (t : Nat) : Mod [] w (w.alloc (.cells #[.func (.func g1) #[] b1, .func (.func g2) #[] b2] t)) ∧ LSeq (w.alloc (.cells #[.func (.func g1) #[] b1, .func (.func g2) #[] b2] t)) (.slice (some ⟨w.heap.size, 0, none⟩) 2 2) [A, B] (w.heap.size :: (R1 ++ R2)) ∧
    ∀ q ∈ w.heap.size :: (R1 ++ R2), q < (w.alloc (.cells #[.func (.func g1) #[] b1, .func (.func g2) #[] b2] t)).heap.size := by
  have hm : Mod [] w (w.alloc (.cells #[.func (.func g1) #[] b1, .func (.func g2) #[] b2] t)) := (Mod.refl [] w).alloc _
  refine ⟨hm, LSeq.two (Blk.new w t _) (h1.s.news hm) (h2.s.news hm), fun q hq => ?_⟩
  simp only [List.mem_cons, List.mem_append] at hq
  have e1 : (w.alloc (.cells #[.func (.func g1) #[] b1, .func (.func g2) #[] b2] t)).heap.size = w.heap.size + 1 := by simp
  rw [e1]
  rcases hq with rfl | hq | hq
  · omega
  · have := h1.lt q hq; omega
  · have := h2.lt q hq; omega
theorem row3 (h1 : Sq w g1 b1 A R1) (h2 : Sq w g2 b2 B R2) (h3 : Sq w g3 b3 C R3) (t : Nat) : Mod [] w (w.alloc (.cells #[.func (.func g1) #[] b1, .func (.func g2) #[] b2, .func (.func g3) #[] b3] t)) ∧ LSeq (w.alloc (.cells #[.func (.func g1) #[] b1, .func (.func g2) #[] b2, .func (.func g3) #[] b3] t)) (.slice (some ⟨w.heap.size, 0, none⟩) 3 3) [A, B, C] (w.heap.size :: (R1 ++ R2 ++ R3)) ∧
    ∀ q ∈ w.heap.size :: (R1 ++ R2 ++ R3), q < (w.alloc (.cells #[.func (.func g1) #[] b1, .func (.func g2) #[] b2, .func (.func g3) #[] b3] t)).heap.size := by
  have hm : Mod [] w (w.alloc (.cells #[.func (.func g1) #[] b1, .func (.func g2) #[] b2, .func (.func g3) #[] b3] t)) := (Mod.refl [] w).alloc _
  refine ⟨hm, LSeq.three (Blk.new w t _) (h1.s.news hm) (h2.s.news hm) (h3.s.news hm), fun q hq => ?_⟩
  simp only [List.mem_cons, List.mem_append] at hq
  have e1 : (w.alloc (.cells #[.func (.func g1) #[] b1, .func (.func g2) #[] b2, .func (.func g3) #[] b3] t)).heap.size = w.heap.size + 1 := by simp
  rw [e1]
  rcases hq with rfl | (hq | hq) | hq
  · omega
  · have := h1.lt q hq; omega
  · have := h2.lt q hq; omega
  · have := h3.lt q hq; omega
theorem or2 (h1 : Sq w g1 b1 A R1) (h2 : Sq w g2 b2 B R2) (l1 : A.length ≤ 300) (l2 : B.length ≤ 300) : Calls Try.prog 25 #[.slice (some ⟨w.heap.size, 0, none⟩) 2 2] (w.alloc (.cells #[.func (.func g1) #[] b1, .func (.func g2) #[] b2] 43)) (NewS w (twoL A B)) := by
  obtain ⟨k1, k2, k3⟩ := row2 h1 h2 43
  refine (or_call k2 k3 (fun l hl => ?_) (by simp)).mono fun e w' h => by rw [orF_two] at h; exact h.new k1
  simp only [List.mem_cons, List.not_mem_nil, or_false] at hl
  rcases hl with rfl | rfl <;> assumption
theorem or3 (h1 : Sq w g1 b1 A R1) (h2 : Sq w g2 b2 B R2) (h3 : Sq w g3 b3 C R3) (l1 : A.length ≤ 300) (l2 : B.length ≤ 300) (l3 : C.length ≤ 300) : Calls Try.prog 25 #[.slice (some ⟨w.heap.size, 0, none⟩) 3 3] (w.alloc (.cells #[.func (.func g1) #[] b1, .func (.func g2) #[] b2, .func (.func g3) #[] b3] 43)) (NewS w (twoL (twoL A B) C)) := by
  obtain ⟨k1, k2, k3⟩ := row3 h1 h2 h3 43
  refine (or_call k2 k3 (fun l hl => ?_) (by simp)).mono fun e w' h => by rw [orF_three] at h; exact h.new k1
  simp only [List.mem_cons, List.not_mem_nil, or_false] at hl
  rcases hl with rfl | rfl | rfl <;> assumption
theorem and2 (h1 : Sq w g1 b1 A R1) (h2 : Sq w g2 b2 B R2) (l1 : A.length ≤ 1000000) (l2 : B.length ≤ 1000000) (r1 : A.Pairwise (· < ·)) (r2 : B.Pairwise (· < ·)) : Calls Try.prog 27 #[.slice (some ⟨w.heap.size, 0, none⟩) 2 2] (w.alloc (.cells #[.func (.func g1) #[] b1, .func (.func g2) #[] b2] 43)) (NewS w (andF A [B])) := by
  obtain ⟨k1, k2, k3⟩ := row2 h1 h2 43
  refine (and_call k2 k3 (fun l hl => ?_) (fun l hl => ?_) (by simp)).mono fun e w' h => h.new k1
  all_goals
    simp only [List.mem_cons, List.not_mem_nil, or_false] at hl
    rcases hl with rfl | rfl <;> assumption
theorem and3 (h1 : Sq w g1 b1 A R1) (h2 : Sq w g2 b2 B R2) (h3 : Sq w g3 b3 C R3) (l1 : A.length ≤ 1000000) (l2 : B.length ≤ 1000000) (l3 : C.length ≤ 1000000) (r1 : A.Pairwise (· < ·)) (r2 : B.Pairwise (· < ·)) (r3 : C.Pairwise (· < ·)) :
    Calls Try.prog 27 #[.slice (some ⟨w.heap.size, 0, none⟩) 3 3] (w.alloc (.cells #[.func (.func g1) #[] b1, .func (.func g2) #[] b2, .func (.func g3) #[] b3] 43)) (NewS w (andF A [B, C])) := by
  obtain ⟨k1, k2, k3⟩ := row3 h1 h2 h3 43
  refine (and_call k2 k3 (fun l hl => ?_) (fun l hl => ?_) (by simp)).mono fun e w' h => h.new k1
  all_goals
    simp only [List.mem_cons, List.not_mem_nil, or_false] at hl
    rcases hl with rfl | rfl | rfl <;> assumption
theorem less2 (h1 : Sq w g1 b1 A R1) (h2 : Sq w g2 b2 B R2) (l1 : A.length ≤ 1000000) (l2 : B.length ≤ 1000000) (r1 : A.Pairwise (· < ·)) (r2 : B.Pairwise (· < ·)) : Calls Try.prog 28 #[.func (.func g1) #[] b1, .func (.func g2) #[] b2] w (NewS w (lessL A B)) :=
  (less_call h1.s h2.s h1.lt h2.lt l1 l2 r1 r2).mono fun e w' h => h.new (Mod.refl _ _)
theorem xor2 (h1 : Sq w g1 b1 A R1) (h2 : Sq w g2 b2 B R2) (l1 : A.length ≤ 300) (l2 : B.length ≤ 300) (r1 : A.Pairwise (· < ·)) (r2 : B.Pairwise (· < ·)) : Calls Try.prog 29 #[.func (.func g1) #[] b1, .func (.func g2) #[] b2] w (NewS w (twoL (lessL A B) (lessL B A))) :=
  (xor_call h1.s h2.s h1.lt h2.lt l1 l2 r1 r2).mono fun e w' h => h.new (Mod.refl _ _)
theorem eq2 (h1 : Sq w g1 b1 A R1) (h2 : Sq w g2 b2 B R2) (l1 : A.length ≤ 1000000) (l2 : B.length ≤ 1000000) : Calls Try.prog 38 #[.func (.func g1) #[] b1, .func (.func g2) #[] b2] w fun e w' => e = .returned (.bool (decide (A = B))) ∧ Mod [] w w' := sift_equal h1.s h2.s l1 l2
theorem within2 (h1 : Sq w g1 b1 A R1) (h2 : Sq w g2 b2 B R2) (l1 : A.length ≤ 1000000) (l2 : B.length ≤ 1000000) (r1 : A.Pairwise (· < ·)) (r2 : B.Pairwise (· < ·)) : Calls Try.prog 39 #[.func (.func g1) #[] b1, .func (.func g2) #[] b2] w fun e w' => e = .returned (.bool (decide (lessL A B = []))) ∧ Mod [] w w' := within_call h1.s h2.s h1.lt h2.lt l1 l2 r1 r2
theorem count1 (h1 : Sq w g1 b1 A R1) (l1 : A.length ≤ 1000000) : Calls Try.prog 37 #[.func (.func g1) #[] b1] w fun e w' => e = .returned (.int .i64 (A.length : Nat)) ∧ Mod [] w w' := sift_count h1.s l1
end
theorem two_rises {a b : List Int} (ha : a.Pairwise (· < ·)) (hb : b.Pairwise (· < ·)) : (twoL a b).Pairwise (· < ·) := twoL_rises _ a b (Nat.le_refl _) ha hb
theorem two_le (a b : List Int) : (twoL a b).length ≤ a.length + b.length := twoL_len _ a b (Nat.le_refl _)
theorem two_mem {z : Int} (a b : List Int) : z ∈ twoL a b ↔ z ∈ a ∨ z ∈ b := twoL_mem _ a b (Nat.le_refl _)
theorem less_mem {z : Int} (a b : List Int) : z ∈ lessL a b ↔ z ∈ a ∧ z ∉ b := by unfold lessL; simp [List.mem_filter]
theorem and_mem {z : Int} (a : List Int) (bs : List (List Int)) : z ∈ andF a bs ↔ z ∈ a ∧ ∀ m ∈ bs, z ∈ m := by unfold andF; simp [List.mem_filter]
section
variable {P Q S : List Int}
theorem law_xor (hP : P.Pairwise (· < ·)) (hQ : Q.Pairwise (· < ·)) : twoL (lessL P Q) (lessL Q P) = lessL (twoL P Q) (andF P [Q]) := by
  refine rise_ext (two_rises (lessL_rises hP) (lessL_rises hQ)) (lessL_rises (two_rises hP hQ)) (fun z => ?_)
  rw [two_mem, less_mem, less_mem, less_mem, two_mem, and_mem]
  by_cases h1 : z ∈ P <;> by_cases h2 : z ∈ Q <;> simp [h1, h2]
theorem law_within1 (P Q : List Int) : lessL (andF P [Q]) P = [] := by
  rw [List.eq_nil_iff_forall_not_mem]; intro z hz; rw [less_mem, and_mem] at hz; exact hz.2 hz.1.1
theorem law_within2 (P Q : List Int) : lessL P (twoL P Q) = [] := by
  rw [List.eq_nil_iff_forall_not_mem]; intro z hz; rw [less_mem, two_mem] at hz; exact hz.2 (.inl hz.1)
theorem law_count (hP : P.Pairwise (· < ·)) (hQ : Q.Pairwise (· < ·)) : (twoL P Q).length + (andF P [Q]).length = P.length + Q.length := by
  have h1 : (twoL P Q).Perm (P ++ lessL Q P) := by
    refine (List.perm_ext_iff_of_nodup ?_ ?_).2 (fun z => ?_)
    · exact (two_rises hP hQ).imp (fun h => by omega)
    · rw [List.nodup_append]
      refine ⟨hP.imp (fun h => by omega), (lessL_rises hQ).imp (fun h => by omega), fun a ha b hb e => ?_⟩
      subst e
      exact ((less_mem _ _).1 hb).2 ha
    · rw [two_mem, List.mem_append, less_mem]
      by_cases h : z ∈ P <;> simp [h]
  have h2 : (lessL Q P).length + (andF P [Q]).length = Q.length := by
    have e : andF P [Q] = Q.filter (fun x => decide (x ∈ P)) := by
      refine rise_ext (andF_rises hP) (hQ.sublist List.filter_sublist) (fun z => ?_)
      rw [and_mem, List.mem_filter]; simp [and_comm]
    rw [e]
    unfold lessL
    have h3 := List.length_eq_countP_add_countP (fun x => decide (x ∈ P)) (l := Q)
    rw [List.countP_eq_length_filter, List.countP_eq_length_filter] at h3
    have h4 : Q.filter (fun a => decide ¬(decide (a ∈ P) = true)) = Q.filter (fun x => !decide (x ∈ P)) := by
      apply List.filter_congr; intro x _; by_cases hx : x ∈ P <;> simp [hx]
    rw [h4] at h3
    omega
  rw [h1.length_eq, List.length_append]
  omega
theorem law_or (hP : P.Pairwise (· < ·)) (hQ : Q.Pairwise (· < ·)) (hS : S.Pairwise (· < ·)) : twoL (twoL P Q) S = twoL S (twoL Q P) := by
  refine rise_ext (two_rises (two_rises hP hQ) hS) (two_rises hS (two_rises hQ hP)) (fun z => ?_)
  simp only [two_mem]
  by_cases h1 : z ∈ P <;> by_cases h2 : z ∈ Q <;> by_cases h3 : z ∈ S <;> simp [h1, h2, h3]
theorem law_and (hP : P.Pairwise (· < ·)) (hS : S.Pairwise (· < ·)) : andF P [Q, S] = andF S [andF P [Q]] := by
  refine rise_ext (andF_rises hP) (andF_rises hS) (fun z => ?_)
  simp only [and_mem, List.mem_cons, List.not_mem_nil, or_false, forall_eq_or_imp, forall_eq]
  by_cases h1 : z ∈ P <;> by_cases h2 : z ∈ Q <;> by_cases h3 : z ∈ S <;> simp [h1, h2, h3]
theorem law_dist (hP : P.Pairwise (· < ·)) : andF P [twoL Q S] = twoL (andF P [Q]) (andF P [S]) := by
  refine rise_ext (andF_rises hP) (two_rises (andF_rises hP) (andF_rises hP)) (fun z => ?_)
  simp only [and_mem, two_mem, List.mem_cons, List.not_mem_nil, or_false, forall_eq]
  by_cases h1 : z ∈ P <;> by_cases h2 : z ∈ Q <;> by_cases h3 : z ∈ S <;> simp [h1, h2, h3]
end
end Go.Proofs.Ytfioekkegihkoaa
