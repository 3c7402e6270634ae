/- XfastNil: the walk. -/
import Derived.Test.YtfioekkegihkoaaGAll
import Derived.Test.YtfioekkegihkoaaGXfO
namespace Go.Proofs.Ytfioekkegihkoaa
open Go.RowKit Go.Shelf
set_option linter.unusedVariables false
set_option linter.unusedSimpArgs false
set_option maxRecDepth 100000 in
set_option maxHeartbeats 2000000 in
theorem xfastNil_walk {w : World} (seed k limit : Int) (w0 : (Lit.int .u64 seed).wf = true) (w1 : (Lit.int .u64 k).wf = true) (w2 : (Lit.int .i64 limit).wf = true) :
    Calls Try.prog 8 #[.int .u64 seed, .int .u64 k, .int .i64 limit] w fun e w' => e = .returned (.bool true) ∧ Below w.heap.size w w' := by
  have HNG : Hidden (∀ wa, Mod [] w wa → 0 ≤ limit ∧ limit ≤ 1048576 → Calls Try.prog 11 #[.int .u64 seed, .int .i64 limit] wa fun e w' => ∃ p, e = .returned (.tuple #[p, .int .i64 0]) ∧ Mod [] w w') := ⟨fun wa hm hr => by
    obtain ⟨L, rfl⟩ : ∃ L : Nat, limit = L := ⟨limit.toNat, by omega⟩
    refine (xm_new seed L w wa (by omega) hm).mono ?_
    rintro e w' ⟨xb, rfl, h1, h2⟩
    exact ⟨_, rfl, hm.trans h2 (by simp)⟩⟩
  have HNB : Hidden (∀ wa, Mod [] w wa → (limit < 0 ∨ 1048576 < limit) → Calls Try.prog 11 #[.int .u64 seed, .int .i64 limit] wa fun e w' => ∃ p, e = .returned (.tuple #[p, .int .i64 1]) ∧ Mod [] w w') := ⟨fun wa hm hr => by
    refine (xf_new_bad seed limit wa hr).mono ?_
    rintro e w' ⟨rfl, h2⟩
    exact ⟨_, rfl, hm.trans h2 (by simp)⟩⟩
  clear w0 w1 w2
  go_enter Try.func8, Try.ntmps8
  go_wp2_with fail
  refine (awake14 _).mono ?_
  rintro e wa ⟨rfl, hm⟩
  rcases (show limit < 0 ∨ (0 ≤ limit ∧ limit ≤ 1048576) ∨ (0 ≤ limit ∧ 1048576 < limit) by omega) with hr | hr | hr
  · have HA := Hidden.mk (HNB.out wa hm (.inl hr))
    have d1 : decide (0 ≤ limit) = false := decide_eq_false (by omega)
    clear hr
    clear hm HNG HNB
    go_wp2_with fail
    refine HA.out.mono ?_
    rintro e wb ⟨p, rfl, hm⟩
    clear HA
    go_wp2_with fail
    refine (xf_nil_next k _).mono ?_
    rintro e w1 ⟨rfl, rfl⟩
    go_wp2_with fail
    refine (xf_nil_prev k _).mono ?_
    rintro e w2 ⟨rfl, rfl⟩
    go_wp2_with fail
    refine (xf_nil_min _).mono ?_
    rintro e w3 ⟨rfl, rfl⟩
    go_wp2_with fail
    refine (xf_nil_max _).mono ?_
    rintro e w4 ⟨rfl, rfl⟩
    go_wp2_with fail
    refine (xf_nil_clear _).mono ?_
    rintro e w5 ⟨rfl, rfl⟩
    go_wp2_with fail
    refine (xf_nil_insert k _).mono ?_
    rintro e w6 ⟨rfl, rfl⟩
    go_wp2_with fail
    refine (xf_nil_delete k _).mono ?_
    rintro e w7 ⟨rfl, rfl⟩
    go_wp2_with fail
    refine (xf_nil_has k _).mono ?_
    rintro e w8 ⟨rfl, rfl⟩
    go_wp2_with fail
    refine (xf_nil_len _).mono ?_
    rintro e w9 ⟨rfl, rfl⟩
    go_wp2_with fail
    refine (xf_nil_used _).mono ?_
    rintro e w10 ⟨rfl, rfl⟩
    go_wp2_with fail
    refine (xf_nil_limit _).mono ?_
    rintro e w11 ⟨rfl, rfl⟩
    go_wp2_with fail
    refine (all14_nil 9 _).mono ?_
    rintro e wz ⟨rfl, hz⟩
    have HZ := Hidden.mk (hm.trans hz (by simp))
    clear hm hz
    go_wp2_with fail
    go_ret
    exact ⟨rfl, HZ.out.below (Nat.le_refl _) (by simp)⟩
  · have HA := Hidden.mk (HNG.out wa hm hr)
    have d1 : decide (0 ≤ limit) = true := decide_eq_true hr.1
    have d2 : decide (limit ≤ 1048576) = true := decide_eq_true hr.2
    clear hr
    clear hm HNG HNB
    go_wp2_with fail
    refine HA.out.mono ?_
    rintro e wb ⟨p, rfl, hm⟩
    clear HA
    go_wp2_with fail
    refine (xf_nil_next k _).mono ?_
    rintro e w1 ⟨rfl, rfl⟩
    go_wp2_with fail
    refine (xf_nil_prev k _).mono ?_
    rintro e w2 ⟨rfl, rfl⟩
    go_wp2_with fail
    refine (xf_nil_min _).mono ?_
    rintro e w3 ⟨rfl, rfl⟩
    go_wp2_with fail
    refine (xf_nil_max _).mono ?_
    rintro e w4 ⟨rfl, rfl⟩
    go_wp2_with fail
    refine (xf_nil_clear _).mono ?_
    rintro e w5 ⟨rfl, rfl⟩
    go_wp2_with fail
    refine (xf_nil_insert k _).mono ?_
    rintro e w6 ⟨rfl, rfl⟩
    go_wp2_with fail
    refine (xf_nil_delete k _).mono ?_
    rintro e w7 ⟨rfl, rfl⟩
    go_wp2_with fail
    refine (xf_nil_has k _).mono ?_
    rintro e w8 ⟨rfl, rfl⟩
    go_wp2_with fail
    refine (xf_nil_len _).mono ?_
    rintro e w9 ⟨rfl, rfl⟩
    go_wp2_with fail
    refine (xf_nil_used _).mono ?_
    rintro e w10 ⟨rfl, rfl⟩
    go_wp2_with fail
    refine (xf_nil_limit _).mono ?_
    rintro e w11 ⟨rfl, rfl⟩
    go_wp2_with fail
    refine (all14_nil 9 _).mono ?_
    rintro e wz ⟨rfl, hz⟩
    have HZ := Hidden.mk (hm.trans hz (by simp))
    clear hm hz
    go_wp2_with fail
    go_ret
    exact ⟨rfl, HZ.out.below (Nat.le_refl _) (by simp)⟩
  · have HA := Hidden.mk (HNB.out wa hm (.inr hr.2))
    have d1 : decide (0 ≤ limit) = true := decide_eq_true hr.1
    have d2 : decide (limit ≤ 1048576) = false := decide_eq_false (by omega)
    clear hr
    clear hm HNG HNB
    go_wp2_with fail
    refine HA.out.mono ?_
    rintro e wb ⟨p, rfl, hm⟩
    clear HA
    go_wp2_with fail
    refine (xf_nil_next k _).mono ?_
    rintro e w1 ⟨rfl, rfl⟩
    go_wp2_with fail
    refine (xf_nil_prev k _).mono ?_
    rintro e w2 ⟨rfl, rfl⟩
    go_wp2_with fail
    refine (xf_nil_min _).mono ?_
    rintro e w3 ⟨rfl, rfl⟩
    go_wp2_with fail
    refine (xf_nil_max _).mono ?_
    rintro e w4 ⟨rfl, rfl⟩
    go_wp2_with fail
    refine (xf_nil_clear _).mono ?_
    rintro e w5 ⟨rfl, rfl⟩
    go_wp2_with fail
    refine (xf_nil_insert k _).mono ?_
    rintro e w6 ⟨rfl, rfl⟩
    go_wp2_with fail
    refine (xf_nil_delete k _).mono ?_
    rintro e w7 ⟨rfl, rfl⟩
    go_wp2_with fail
    refine (xf_nil_has k _).mono ?_
    rintro e w8 ⟨rfl, rfl⟩
    go_wp2_with fail
    refine (xf_nil_len _).mono ?_
    rintro e w9 ⟨rfl, rfl⟩
    go_wp2_with fail
    refine (xf_nil_used _).mono ?_
    rintro e w10 ⟨rfl, rfl⟩
    go_wp2_with fail
    refine (xf_nil_limit _).mono ?_
    rintro e w11 ⟨rfl, rfl⟩
    go_wp2_with fail
    refine (all14_nil 9 _).mono ?_
    rintro e wz ⟨rfl, hz⟩
    have HZ := Hidden.mk (hm.trans hz (by simp))
    clear hm hz
    go_wp2_with fail
    go_ret
    exact ⟨rfl, HZ.out.below (Nat.le_refl _) (by simp)⟩
end Go.Proofs.Ytfioekkegihkoaa
