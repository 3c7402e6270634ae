/- The walk of PoolArgs. -/
import Derived.Test.YtnbanbfnabhjjaaRange
import Derived.Test.YtnbanbfnabhjjaaClear
import Derived.Test.YtnbanbfnabhjjaaPoolFullW
import Derived.Shelf.Abstract
namespace Go.Proofs.Ytnbanbfnabhjjaa
open Go.RowKit Go.Shelf
set_option linter.unusedVariables false
set_option linter.unusedSimpArgs false

theorem poolU_room_nilq (n : Int) (k : Nat) (w : World) :
    Calls Try.prog 20 #[.pointer none, .int .i64 n] (w.drewN k) fun e w' => e = .returned (.bool false) ∧ ∃ m, w' = w.drewN m := by
  go_enter Try.func20, Try.ntmps20
  go_wp2
  go_quiet (fail)
  go_wp2
  go_ret
  exact ⟨rfl, _, World.drewN_drewN _ _ _⟩

theorem quiet_of_same' {P : Program} {f : FuncId} {args : Array Value} {w : World} {n : Nat} {v : Value}
    (h : Calls P f args (w.drewN n) fun e w' => e = .returned v ∧ w.drewN n = w') : Calls P f args (w.drewN n) fun e w' => e = .returned v ∧ ∃ m, w' = w.drewN m :=
  h.mono fun e w' h => ⟨h.1, n, h.2.symm⟩
set_option maxRecDepth 100000 in
set_option maxHeartbeats 2000000 in
theorem poolArgs_walk (a0 a1 a2 : Int) (w0 : (Lit.int .i64 a0).wf = true) (w1 : (Lit.int .i64 a1).wf = true) (w2 : (Lit.int .u64 a2).wf = true) (w : World) :
    Calls Try.prog 4 #[.int .i64 a0, .int .i64 a1, .int .u64 a2] w fun e w' => e = .returned (.bool true) ∧ Below w.heap.size w w' := by
  have hend : ∀ (W : World), Below w.heap.size w W → ∀ W' : World, Mod [] W W' → Below w.heap.size w W' := fun W h W' hm => h.trans (hm.below h.size (by simp))
  by_cases hr : 0 ≤ a0 ∧ a0 ≤ 1048576
  · obtain ⟨l, rfl⟩ : ∃ l : Nat, a0 = l := ⟨a0.toNat, by omega⟩
    have hl : l ≤ 1048576 := by omega
    clear hr
    have hdl : decide ((l : Int) ≤ 1048576) = true := by simp; omega
    refine calls_of_wp_marks Try.func4 rfl ?_
    simp only [Try.ntmps4, List.size_toArray, List.length_cons, List.length_nil, Nat.reduceAdd, Nat.reduceSub, Array.replicate_succ, Array.replicate_zero, List.push_toArray, List.append_toArray, List.nil_append, List.cons_append]
    go_wp2_with fail
    refine (awake4 w w (Below.refl _ _)).mono ?_; rintro e w1 ⟨rfl, hB⟩
    go_wp2_with fail
    refine (poolU_new_nil l w1 hl).mono ?_; rintro e w2 ⟨rfl, _, _, hm⟩
    have hB2 := hend _ hB _ hm
    clear hm hB
    go_wp2_with fail
    refine (poolU_alloc_nil _ _).mono ?_; rintro e w3 ⟨rfl, hm⟩
    have hB3 := hend _ hB2 _ hm
    clear hm hB2
    go_wp2_with fail
    refine (poolU_at_nil _ _).mono ?_; rintro e w4 ⟨rfl, rfl⟩
    go_wp2_with fail
    refine (poolU_peek_nil _ _).mono ?_; rintro e w4 ⟨rfl, rfl⟩
    go_wp2_with fail
    refine (poolU_clear_nil _).mono ?_; rintro e w4 ⟨rfl, rfl⟩
    go_wp2_with fail
    refine (poolU_all _ _ ⟨_, rfl⟩).mono ?_; rintro e w4 ⟨rfl, hw4⟩
    have hc1 : w4.cell? ⟨w3.heap.size, 0, none⟩ = some (.int .i64 0) := by rw [← hw4]; simp [go_sem]
    have hc2 : w4.cell? ⟨w3.heap.size + 1, 0, none⟩ = some (.pointer none) := by rw [← hw4]; simp [go_sem]
    have hz4 : w4.heap.size = w3.heap.size + 2 := by rw [← hw4]; simp
    have hB4 : Below w.heap.size w w4 := hend _ hB3 _ (by rw [← hw4]; exact ((Mod.refl [] w3).alloc _).alloc _)
    clear hw4 hB3
    go_wp2_with fail
    refine wp_range_none (gf := 79) (lb := #[.pointer (some ⟨w3.heap.size + 1, 0, none⟩)]) (by simp [Act.eval, World.size_alloc]) (enters_of Try.func79 (by kernel_rfl) rfl) ?_ ?_
    · intro l W hW
      refine (poolU_all_nil l _ W ((hW.cell (p := ⟨w3.heap.size + 1, 0, none⟩) (by show w3.heap.size + 1 < _; omega)).trans hc2)).mono ?_
      rintro e W' ⟨rfl, rfl⟩
      exact ⟨⟨_, rfl⟩, rfl⟩
    · intro D W hD hW hk
      have hc : W.cell? ⟨w3.heap.size, 0, none⟩ = some (.int .i64 0) := (hW.cell (p := ⟨w3.heap.size, 0, none⟩) (by show w3.heap.size < _; omega)).trans hc1
      have H := Hidden.mk (And.intro (hB4.trans (hW.mono hB4.size)) (And.intro hk (Nat.le_trans hB4.size hD)))
      clear hB4 hW hk hD hc1 hc2 hz4 hend
      go_wp2_with fail
      go_quiet (first | (go_at_call 20; exact poolU_room_nilq _ _ _) | (go_at_call 22; exact quiet_of_same' (poolU_free_nil _ _)) | (go_at_call 27; exact quiet_of_same' (poolU_put_nil _ _ _)) | (go_at_call 28; exact quiet_of_same' (poolU_live_nil _ _)) | (go_at_call 19; exact quiet_of_same' (poolU_len_nil _)) | (go_at_call 29; exact quiet_of_same' (poolU_limit_nil _)))
      go_wp2_with fail
      (try simp only [Exit.inBlock, Exit.then])
      refine bodyPostM_ret (D := D) rfl (by simpa using H.out.2.1) (results_tmp rfl _ _ _) ⟨rfl, ?_⟩
      exact (below_drewN H.out.1 _).trans (belowK_b (w := w) (Nat.le_refl _) _ D _ _ H.out.2.2 (by simpa using H.out.2.1) rfl rfl)
  · have hbad : a0 < 0 ∨ 1048576 < a0 := by omega
    clear hr
    have hnew := fun W => poolU_new_bad (.pointer none) a0 W hbad
    rcases hbad with hbad | hbad
    all_goals
      first | (have hd : decide (a0 ≤ 1048576) = false := by (simp; omega)) | skip
      refine calls_of_wp_marks Try.func4 rfl ?_
      simp only [Try.ntmps4, List.size_toArray, List.length_cons, List.length_nil, Nat.reduceAdd, Nat.reduceSub, Array.replicate_succ, Array.replicate_zero, List.push_toArray, List.append_toArray, List.nil_append, List.cons_append]
      go_wp2_with fail
      refine (awake4 w w (Below.refl _ _)).mono ?_; rintro e w1 ⟨rfl, hB⟩
      go_wp2_with fail
      refine (hnew w1).mono ?_; rintro e w2 ⟨rfl, rfl⟩
      have hB2 := hB
      clear hB hnew
      go_wp2_with fail
      refine (poolU_alloc_nil _ _).mono ?_; rintro e w3 ⟨rfl, hm⟩
      have hB3 := hend _ hB2 _ hm
      clear hm hB2
      go_wp2_with fail
      refine (poolU_at_nil _ _).mono ?_; rintro e w4 ⟨rfl, rfl⟩
      go_wp2_with fail
      refine (poolU_peek_nil _ _).mono ?_; rintro e w4 ⟨rfl, rfl⟩
      go_wp2_with fail
      refine (poolU_clear_nil _).mono ?_; rintro e w4 ⟨rfl, rfl⟩
      go_wp2_with fail
      refine (poolU_all _ _ ⟨_, rfl⟩).mono ?_; rintro e w4 ⟨rfl, hw4⟩
      have hc1 : w4.cell? ⟨w3.heap.size, 0, none⟩ = some (.int .i64 0) := by rw [← hw4]; simp [go_sem]
      have hc2 : w4.cell? ⟨w3.heap.size + 1, 0, none⟩ = some (.pointer none) := by rw [← hw4]; simp [go_sem]
      have hz4 : w4.heap.size = w3.heap.size + 2 := by rw [← hw4]; simp
      have hB4 : Below w.heap.size w w4 := hend _ hB3 _ (by rw [← hw4]; exact ((Mod.refl [] w3).alloc _).alloc _)
      clear hw4 hB3
      go_wp2_with fail
      refine wp_range_none (gf := 79) (lb := #[.pointer (some ⟨w3.heap.size + 1, 0, none⟩)]) (by simp [Act.eval, World.size_alloc]) (enters_of Try.func79 (by kernel_rfl) rfl) ?_ ?_
      · intro l W hW
        refine (poolU_all_nil l _ W ((hW.cell (p := ⟨w3.heap.size + 1, 0, none⟩) (by show w3.heap.size + 1 < _; omega)).trans hc2)).mono ?_
        rintro e W' ⟨rfl, rfl⟩
        exact ⟨⟨_, rfl⟩, rfl⟩
      · intro D W hD hW hk
        have hc : W.cell? ⟨w3.heap.size, 0, none⟩ = some (.int .i64 0) := (hW.cell (p := ⟨w3.heap.size, 0, none⟩) (by show w3.heap.size < _; omega)).trans hc1
        have H := Hidden.mk (And.intro (hB4.trans (hW.mono hB4.size)) (And.intro hk (Nat.le_trans hB4.size hD)))
        clear hB4 hW hk hD hc1 hc2 hz4 hend
        go_wp2_with fail
        go_quiet (first | (go_at_call 20; exact poolU_room_nilq _ _ _) | (go_at_call 22; exact quiet_of_same' (poolU_free_nil _ _)) | (go_at_call 27; exact quiet_of_same' (poolU_put_nil _ _ _)) | (go_at_call 28; exact quiet_of_same' (poolU_live_nil _ _)) | (go_at_call 19; exact quiet_of_same' (poolU_len_nil _)) | (go_at_call 29; exact quiet_of_same' (poolU_limit_nil _)))
        go_wp2_with fail
        (try simp only [Exit.inBlock, Exit.then])
        refine bodyPostM_ret (D := D) rfl (by simpa using H.out.2.1) (results_tmp rfl _ _ _) ⟨rfl, ?_⟩
        exact (below_drewN H.out.1 _).trans (belowK_b (w := w) (Nat.le_refl _) _ D _ _ H.out.2.2 (by simpa using H.out.2.1) rfl rfl)
end Go.Proofs.Ytnbanbfnabhjjaa
