/- The walk of HashNil. -/
import Derived.Test.YtnbanbfnabhjjaaRange
import Derived.Test.YtnbanbfnabhjjaaHolesW
import Derived.Shelf.Abstract
namespace Go.Proofs.Ytnbanbfnabhjjaa
open Go.RowKit Go.Shelf
set_option linter.unusedVariables false
set_option linter.unusedSimpArgs false

set_option maxHeartbeats 400000 in
theorem hash_all (p : Value) (w : World) (hp : ∃ a, p = .pointer a) : Calls Try.prog 105 #[p] w fun e w' => e = .returned (.func (.func 113) #[] #[.pointer (some ⟨w.heap.size, 0, none⟩)]) ∧ w.alloc (.cells #[p] 60) = w' := by
  obtain ⟨a, rfl⟩ := hp
  go_enter Try.func105, Try.ntmps105
  go_wp2
  go_ret
  exact ⟨rfl, rfl⟩
set_option maxHeartbeats 400000 in
theorem hash_all1_nil (l c : Nat) (W : World) (hc : W.cell? ⟨c, 0, none⟩ = some (.pointer none)) : Calls Try.prog 113 #[.func (.yield l) #[] #[], .pointer (some ⟨c, 0, none⟩)] W fun e W' => e = .returned (.tuple #[]) ∧ W = W' := by
  go_enter Try.func113, Try.ntmps113
  go_wp2
  (try simp only [Exit.inBlock, Exit.then])
  exact bodyPost_ret (results_none rfl _ _ _) rfl ⟨rfl, rfl⟩
theorem below_mod0 {w w' : World} (h : Below w.heap.size w w') : Mod [] w w' := Mod.of_below h
set_option maxRecDepth 100000 in
set_option maxHeartbeats 1000000 in
theorem all_nil (m : Int) (w : World) : Calls Try.prog 72 #[.pointer none, .int .i64 m] w fun e w' => e = .returned (.slice none 0 0) ∧ Mod [] w w' := by
  obtain ⟨w1, hw1⟩ : ∃ w1, (w.alloc (.cells #[.int .i64 m] 3)).alloc (.cells #[.slice none 0 0] 99) = w1 := ⟨_, rfl⟩
  have hc0 : w1.cell? ⟨w.heap.size, 0, none⟩ = some (.int .i64 m) := by rw [← hw1]; simp [go_sem]
  have hc1 : w1.cell? ⟨w.heap.size + 1, 0, none⟩ = some (.slice none 0 0) := by rw [← hw1]; simp [go_sem]
  have hz1 : w1.heap.size = w.heap.size + 2 := by rw [← hw1]; simp
  have hB1 : Below w.heap.size w w1 := by rw [← hw1]; exact (((Mod.refl [] w).alloc _).alloc _).below (Nat.le_refl _) (by simp)
  refine calls_of_wp_marks Try.func72 rfl ?_
  simp only [Try.ntmps72, List.size_toArray, List.length_cons, List.length_nil, Nat.reduceAdd, Nat.reduceSub, Array.replicate_succ, Array.replicate_zero, List.push_toArray, List.append_toArray, List.nil_append, List.cons_append]
  go_wp2_with fail
  refine (hash_all _ _ ⟨_, rfl⟩).mono ?_; rintro e w4 ⟨rfl, hw4⟩
  have hc2 : w4.cell? ⟨w.heap.size + 2, 0, none⟩ = some (.pointer none) := by rw [← hw4, ← hz1]; simp [go_sem]
  have hm4 : Mod [] w1 w4 := by rw [← hw4]; exact (Mod.refl [] w1).alloc _
  have hz4 : w4.heap.size = w.heap.size + 3 := by rw [← hw4]; simp [hz1]
  have hc1' : w4.cell? ⟨w.heap.size + 1, 0, none⟩ = some (.slice none 0 0) := (hm4.below'.cell (p := ⟨w.heap.size + 1, 0, none⟩) (by show w.heap.size + 1 < _; omega)).trans hc1
  clear hw4 hw1 hc0 hc1
  rw [hz1]
  go_wp2_with fail
  refine wp_range_none (gf := 113) (lb := #[.pointer (some ⟨w.heap.size + 2, 0, none⟩)]) (by simp [Act.eval, World.size_alloc]) (enters_of Try.func113 (by kernel_rfl) rfl) ?_ ?_
  · intro l W hW
    refine (hash_all1_nil l _ W ((hW.cell (p := ⟨w.heap.size + 2, 0, none⟩) (by show w.heap.size + 2 < _; omega)).trans hc2)).mono ?_
    rintro e W' ⟨rfl, rfl⟩
    exact ⟨⟨_, rfl⟩, rfl⟩
  · intro D W hD hW hk
    have hc : W.cell? ⟨w.heap.size + 1, 0, none⟩ = some (.slice none 0 0) := (hW.cell (p := ⟨w.heap.size + 1, 0, none⟩) (by show w.heap.size + 1 < _; omega)).trans hc1'
    have hB : Below w.heap.size w W := (hB1.trans (hm4.below (by omega) (by simp))).trans (hW.mono (by omega))
    have H := Hidden.mk (And.intro hB (And.intro hk (show w.heap.size ≤ D by omega)))
    clear hB hW hk hD hc1' hc2 hz4 hz1 hB1 hm4
    go_wp2_with fail
    (try simp only [Exit.inBlock, Exit.then])
    refine bodyPostM_ret (D := D) rfl (by simpa using H.out.2.1) (results_tmp rfl _ _ _) ⟨rfl, ?_⟩
    exact Mod.of_below (H.out.1.trans (belowK_b (w := w) (Nat.le_refl _) _ D _ _ H.out.2.2 (by simpa using H.out.2.1) rfl rfl))
set_option maxRecDepth 100000 in
set_option maxHeartbeats 2000000 in
theorem hashNil_walk (a0 a1 a2 : Int) (w0 : (Lit.int .u8 a0).wf = true) (w1 : (Lit.int .u64 a1).wf = true) (w2 : (Lit.int .u64 a2).wf = true) (w : World) :
    Calls Try.prog 14 #[.int .u8 a0, .int .u64 a1, .int .u64 a2] w fun e w' => e = .returned (.bool true) ∧ Below w.heap.size w w' := by
  have hend : ∀ (W : World), Below w.heap.size w W → ∀ W' : World, Mod [] W W' → Below w.heap.size w W' := fun W h W' hm => h.trans (hm.below h.size (by simp))
  have hg := hash_get_nil (a0, a1)
  have hp := hash_put_nil (a0, a1) a2
  have hd := hash_drop_nil (a0, a1)
  unfold keyV at hg hp hd
  simp only at hg hp hd
  go_enter Try.func14, Try.ntmps14
  go_wp2_with fail
  refine (awake5 w w (Below.refl _ _)).mono ?_; rintro e w1 ⟨rfl, hB⟩
  have hk1 := Blk.new w1 64 #[.int .u8 a0, .int .u64 a1]
  have hB1 := hend _ hB _ ((Mod.refl [] w1).alloc (.cells #[.int .u8 a0, .int .u64 a1] 64))
  have HK := Hidden.mk (And.intro hk1 hB1)
  clear hk1 hB1 hB
  go_wp2_with fail
  refine (hg _).mono ?_; rintro e w2 ⟨rfl, hm⟩
  have hk2 := HK.out.1.mod hm (by simp)
  have hB2 := hend _ HK.out.2 _ hm
  clear hm
  go_wp2_with fail
  refine (hash_clear_nil _).mono ?_; rintro e w3 ⟨rfl, rfl⟩
  have hc0 : w2.cell? ⟨w1.heap.size, 0, none⟩ = some (.int .u8 a0) := hk2.cell 0
  have hc1 : w2.cell? ⟨w1.heap.size, 1, none⟩ = some (.int .u64 a1) := hk2.cell 1
  clear HK
  have HK := Hidden.mk (And.intro hk2 hB2)
  clear hk2 hB2
  go_wp2_with fail
  refine (hp _).mono ?_; rintro e w3 ⟨rfl, hm⟩
  have hk3 := HK.out.1.mod hm (by simp)
  have hB3 := hend _ HK.out.2 _ hm
  clear hm HK hc0 hc1
  have hc0 : w3.cell? ⟨w1.heap.size, 0, none⟩ = some (.int .u8 a0) := hk3.cell 0
  have hc1 : w3.cell? ⟨w1.heap.size, 1, none⟩ = some (.int .u64 a1) := hk3.cell 1
  have HK := Hidden.mk (And.intro hk3 hB3)
  clear hk3 hB3
  go_wp2_with fail
  refine (hd _).mono ?_; rintro e w4 ⟨rfl, hm⟩
  have hB4 := hend _ HK.out.2 _ hm
  clear hm HK hc0 hc1
  go_wp2_with fail
  refine (hash_len_nil _).mono ?_; rintro e w5 ⟨rfl, rfl⟩
  go_wp2_with fail
  refine (hash_size_nil _).mono ?_; rintro e w5 ⟨rfl, rfl⟩
  go_wp2_with fail
  refine (hash_probes_nil _).mono ?_; rintro e w5 ⟨rfl, rfl⟩
  go_wp2_with fail
  refine (all_nil 9 _).mono ?_; rintro e w5 ⟨rfl, hm⟩
  have hB5 := hend _ hB4 _ hm
  clear hm hB4
  go_wp2_with fail
  go_ret
  exact ⟨rfl, hB5⟩
end Go.Proofs.Ytnbanbfnabhjjaa
